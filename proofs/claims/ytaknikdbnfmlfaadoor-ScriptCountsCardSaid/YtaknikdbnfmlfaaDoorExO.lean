/- An executor of translated code on abstract states, fifteenth part: calls, every operation, regions in the text's order. -/
import Derived.Test.YtaknikdbnfmlfaaDoorExBB
namespace Go.Proofs.YtaknikdbnfmlfaaDoor.Ex
open Go Go.RowKit
set_option linter.unusedVariables false
set_option linter.unusedSimpArgs false
/-- What is known of a function that is called. -/
structure Ent (P : Program) where
  f : FuncId
  A : List PK
  R : List PK
  F : PT A → Option (PT R)
  ok : CallsOk P f A R F
  enters : ∀ (args : Array Value) (w : World), (callFunc f args).run P w = .ok (.enter f args) w
section
variable {P : Program} {w0 : Org} {w : World} {N : Nat} {S : AS} {o : Oper} {ρ : Type} {r : ρ} {id0 : Nat}
def callAny (S : AS) (id0 : Nat) (g : FuncId) (args : List PV) (κ : Eff → Option ρ) : List (Ent P) → Option ρ
  | [] => none
  | e :: r => bif Nat.beq e.f g then (match unPs S e.A args with
    | some x => (e.F x).bind fun r => bif Nat.ble (enPs id0 e.R r).2.length 8 then κ ⟨retPV (enPs id0 e.R r).1, numb id0 (enPs id0 e.R r).2⟩ else none
    | none => callAny S id0 g args κ r) else callAny S id0 g args κ r
/-- An operation that is told by hand. -/
structure Hook (P : Program) where
  on : AS → Oper → Bool
  run : {ρ : Type} → AS → Nat → Oper → (Eff → Option ρ) → Option ρ
  ok : ∀ {w0 : Org} {N : Nat} {S : AS} {id0 : Nat} {o : Oper} {ρ : Type} {κ : Eff → Option ρ} {r : ρ}, on S o = true → run S id0 o κ = some r → Sound P w0 N S id0 o κ r
/-- What is known of all that is called. -/
structure Env (P : Program) where
  e : List (Ent P)
  m : List (EntM P)
  h : List (Hook P) := []
def isM {P : Program} (g : FuncId) : List (EntM P) → Bool
  | [] => false
  | e :: r => Nat.beq e.f g || isM g r
def opCall (Φ : Env P) (S : AS) (id0 : Nat) (f : PV) (args : List PV) (κ : Eff → Option ρ) : Option ρ := match f with
  | .fn g caps => bif isM g Φ.m then callMut S id0 g (args ++ caps) κ Φ.m else callAny S id0 g (args ++ caps) κ Φ.e
  | _ => none
theorem callAny_ok {f : Operand} {args : Array Operand} {ts : Array TypeId} {κ : Eff → Option ρ} {g : FuncId} {caps : List PV} (ho : o.op = .call { callee := .value f, args := args, argTypes := ts }) (hfv : S.ev f = .fn g caps) :
    ∀ {Φ : List (Ent P)}, callAny S id0 g (args.toList.map S.ev ++ caps) κ Φ = some r → Sound P w0 N S id0 o κ r
  | [], h => by cases h
  | e :: Φ, h => by
    rcases cond_some h with ⟨hef, hh⟩ | ⟨_, hh⟩
    · clear h
      have hef := Nat.eq_of_beq_eq_true hef
      split at hh
      · rename_i x hx
        obtain ⟨y, hy, hh⟩ := Option.bind_eq_some_iff.1 hh
        rcases cond_some hh with ⟨h8, hk⟩ | ⟨_, h2⟩
        · clear hh
          refine ⟨_, hk, ?_⟩
          intro S' m a w hl hf hr K Q hK
          have hr0 := hr.le hl
          have h1 := hr0.ev f
          rw [hfv] at h1
          generalize hz : a.eval f = z at h1
          cases h1 with | fn h1 =>
          rename_i cv
          have hargs := PTIs.le (fun b hb => rd_lt hr0 hb) (unPs_ok hr0 hx ((evs_ok hr0 args.toList).append h1))
          have hcall := e.ok x y w _ hy hargs hr.gk
          have hrun : (execOp a.eval o).run P w = .ok (.enter g (args.toList.map a.eval ++ cv).toArray) w := by
            have he := e.enters ((args.toList.map a.eval) ++ cv).toArray w
            rw [hef] at he
            have hm : args.map a.eval ++ cv.toArray = (args.toList.map a.eval ++ cv).toArray := by
              apply Array.ext'
              simp
            unfold execOp
            simp [ho, resolve, Deferred.ofValue, invoke, hz]
            rw [hm]
            simpa using he
          unfold Oper.wp
          rw [hrun, Oper.upon_enter]
          rw [hef] at hcall
          refine hcall.mono fun en w' hh => ?_
          obtain ⟨v, rfl, hret, hb⟩ := hh
          obtain ⟨m', hg, hh', hv⟩ := Heap.call hr.heap hf hret hb (Nat.le_of_ble_eq_true h8)
          exact hK m' w' v hg hh' hv
        · cases h2
      · exact callAny_ok ho hfv hh
    · exact callAny_ok ho hfv hh
theorem call_ok {Φ : Env P} {f : Operand} {args : Array Operand} {ts : Array TypeId} {κ : Eff → Option ρ} (ho : o.op = .call { callee := .value f, args := args, argTypes := ts }) (h : opCall Φ S id0 (S.ev f) (args.toList.map S.ev) κ = some r) : Sound P w0 N S id0 o κ r := by
  unfold opCall at h
  split at h
  · rename_i g caps hfv
    rcases cond_some h with ⟨_, hh⟩ | ⟨_, hh⟩
    · exact callMut_ok ho hfv hh
    · exact callAny_ok ho hfv hh
  · cases h
/-! ### every operation -/
def stepC (Φ : Env P) (S : AS) (id0 : Nat) (callee : Callee) (args : Array Operand) (ts : Array TypeId) (κ : Eff → Option ρ) : Option ρ := match callee with
  | .value f => opCall Φ S id0 (S.ev f) (args.toList.map S.ev) κ
  | .builtin b => match args.toList with
    | [x] => match b with
      | .len => match ts[0]? with
        | some t => opLen P S t (S.ev x) fun p => κ ⟨p, []⟩
        | none => none
      | .clear => opClear P S ts (S.ev x) κ
      | _ => none
    | [x, y] => match b with
      | .append => opAppend P S id0 ts (S.ev x) (S.ev y) κ
      | .min => opMin false (S.ev x) (S.ev y) fun p => κ ⟨p, []⟩
      | .max => opMin true (S.ev x) (S.ev y) fun p => κ ⟨p, []⟩
      | _ => none
    | _ => none
  | _ => none
theorem stepC_ok {Φ : Env P} {callee : Callee} {args : Array Operand} {ts : Array TypeId} {κ : Eff → Option ρ} (ho : o.op = .call ⟨callee, args, ts⟩) (h : stepC Φ S id0 callee args ts κ = some r) : Sound P w0 N S id0 o κ r := by
  unfold stepC at h
  split at h
  · exact call_ok ho h
  · rename_i b
    have hl : ∀ l, args.toList = l → args = l.toArray := fun l hl => by apply Array.ext'; exact hl
    split at h
    · rename_i x hx
      have := hl _ hx
      subst this
      split at h
      · split at h
        · rename_i t ht
          exact (len_ok (κ := fun p => κ ⟨p, []⟩) ho ht h).sound
        · cases h
      · exact clear_ok ho h
      · cases h
    · rename_i x y hx
      have := hl _ hx
      subst this
      split at h
      · exact append_ok ho h
      · exact (min_ok (gt := false) (κ := fun p => κ ⟨p, []⟩) ho h).sound
      · exact (min_ok (gt := true) (κ := fun p => κ ⟨p, []⟩) ho h).sound
      · cases h
    · cases h
  · cases h
def stepK0 (Φ : Env P) (S : AS) (id0 : Nat) (op : Op) (κ : Eff → Option ρ) : Option ρ := match op with
  | .move x => κ ⟨S.ev x, []⟩
  | .assign x => κ ⟨S.ev x, []⟩
  | .pick c a b => opPick S c a b fun p => κ ⟨p, []⟩
  | .alloc T => opAlloc P id0 T κ
  | .box T x => opBox S id0 T (S.ev x) κ
  | .build t parts => opBuild P S t parts fun p => κ ⟨p, []⟩
  | .buildSlice t len parts => opLit P S id0 t len parts κ
  | .load t a => opLoad P S t (S.ev a) fun p => κ ⟨p, []⟩
  | .store t a x => opStore P S id0 t (S.ev a) (S.ev x) κ
  | .nilCheck x => opNil (S.ev x) fun p => κ ⟨p, []⟩
  | .binOp op t x y _ => opBin P op t (S.ev x) (S.ev y) fun p => κ ⟨p, []⟩
  | .unOp op _ x => opUn op (S.ev x) fun p => κ ⟨p, []⟩
  | .convert s d x => opConv P s d (S.ev x) fun p => κ ⟨p, []⟩
  | .makeFunc fn first caps => opFunc S fn first caps fun p => κ ⟨p, []⟩
  | .slice t x lo hi mx => match mx with
    | none => (match S.ev x with
      | .own i => opCutO P S id0 t i (lo.map S.ev) (hi.map S.ev) κ
      | p => opCut P S t p (lo.map S.ev) (hi.map S.ev) fun p => κ ⟨p, []⟩)
    | some _ => none
  | .fieldAddr t x i => opFieldAddr P t (S.ev x) i fun p => κ ⟨p, []⟩
  | .field t x i => opField P t (S.ev x) i fun p => κ ⟨p, []⟩
  | .indexAddr t x i => opIdx P S t (S.ev x) (S.ev i) fun p => κ ⟨p, []⟩
  | .extract x i => opExtract (S.ev x) i fun p => κ ⟨p, []⟩
  | .makeMap t rs => match rs with
    | none => opMakeMap P id0 t κ
    | some _ => none
  | .lookup t x k c => opLookup P S t (S.ev x) (S.ev k) c fun p => κ ⟨p, []⟩
  | .mapUpdate t x k y => opMapUpdate P S t (S.ev x) (S.ev k) (S.ev y) κ
  | .call c => match c with
    | ⟨callee, args, ts⟩ => stepC Φ S id0 callee args ts κ
  | _ => none
theorem stepK0_ok {Φ : Env P} {κ : Eff → Option ρ} (h : stepK0 Φ S id0 o.op κ = some r) : Sound P w0 N S id0 o κ r := by
  generalize ho : o.op = op at h
  unfold stepK0 at h
  split at h
  · exact (move_ok (κ := fun p => κ ⟨p, []⟩) (.inl ho) h).sound
  · exact (move_ok (κ := fun p => κ ⟨p, []⟩) (.inr ho) h).sound
  · exact (pick_ok (κ := fun p => κ ⟨p, []⟩) ho h).sound
  · exact alloc_ok ho h
  · exact box_ok ho h
  · exact (build_ok (κ := fun p => κ ⟨p, []⟩) ho h).sound
  · exact lit_ok ho h
  · exact (load_ok (κ := fun p => κ ⟨p, []⟩) ho h).sound
  · exact store_ok ho h
  · exact (nil_ok (κ := fun p => κ ⟨p, []⟩) ho h).sound
  · exact (bin_ok (κ := fun p => κ ⟨p, []⟩) ho h).sound
  · exact (un_ok (κ := fun p => κ ⟨p, []⟩) ho h).sound
  · exact (conv_ok (κ := fun p => κ ⟨p, []⟩) ho h).sound
  · exact (func_ok (κ := fun p => κ ⟨p, []⟩) ho h).sound
  · split at h
    · split at h
      · rename_i i hi
        exact cutO_ok ho hi h
      · exact (cut_ok (κ := fun p => κ ⟨p, []⟩) ho h).sound
    · cases h
  · exact (fieldAddr_ok (κ := fun p => κ ⟨p, []⟩) ho h).sound
  · exact (field_ok (κ := fun p => κ ⟨p, []⟩) ho h).sound
  · exact (idx_ok (κ := fun p => κ ⟨p, []⟩) ho h).sound
  · exact (extract_ok (κ := fun p => κ ⟨p, []⟩) ho h).sound
  · split at h
    · exact makeMap_ok ho h
    · cases h
  · exact (lookup_ok (κ := fun p => κ ⟨p, []⟩) ho h).sound
  · exact mapUpdate_ok ho h
  · exact stepC_ok ho h
  · cases h
def hookK (S : AS) (id0 : Nat) (o : Oper) (κ : Eff → Option ρ) (d : Option ρ) : List (Hook P) → Option ρ
  | [] => d
  | h :: q => bif h.on S o then h.run S id0 o κ else hookK S id0 o κ d q
theorem hookK_ok {κ : Eff → Option ρ} {d : Option ρ} (hd : d = some r → Sound P w0 N S id0 o κ r) : ∀ {l : List (Hook P)}, hookK S id0 o κ d l = some r → Sound P w0 N S id0 o κ r
  | [], h => hd h
  | x :: q, h => by
    rcases cond_some h with ⟨h1, h2⟩ | ⟨_, h2⟩
    · exact x.ok h1 h2
    · exact hookK_ok hd h2
def stepK (Φ : Env P) (S : AS) (id0 : Nat) (o : Oper) (κ : Eff → Option ρ) : Option ρ := hookK S id0 o κ (stepK0 Φ S id0 o.op κ) Φ.h
theorem stepK_ok {Φ : Env P} {κ : Eff → Option ρ} (h : stepK Φ S id0 o κ = some r) : Sound P w0 N S id0 o κ r := hookK_ok (fun h => stepK0_ok h) h
/-! ### guards -/
/-- A guarded operation. -/
def GStep (P : Program) (w0 : Org) (N : Nat) (ops : Array Oper) (S : AS) (id0 : Nat) (o : Oper) (E : Eff) : Prop :=
  ∀ (S' : AS) (m : Nm) (a : Act) (w : World), Le S S' → Fresh id0 S' → Rep w0 N m S' a w → ∀ (K : Act → World → Prop) (Q : Exit → Act → World → Prop),
    (∀ m' w' v, Grows (old id0) m m' w w' → Heap w0 m' (updσ S'.σ E.upd) w' → RepV m' w0.heap.size w' E.v v → K (a.put o.dst v) w') →
      if Region.wanted o (yielded ops a.tmps) = true then o.wp P a w K Q else K (a.put o.dst undef) w
def guardT (ops : Array Oper) (g : Nat) : Option Nat := match ops[g]? with
  | some og => og.dst
  | none => none
def stepG (Φ : Env P) (ops : Array Oper) (S : AS) (id0 : Nat) (o : Oper) (κ : Eff → Option ρ) : Option ρ := match o.guard with
  | none => stepK Φ S id0 o κ
  | some (g, want) => match guardT ops g with
    | some t => match S.fr t with
      | .v v => match v with
        | .bool b => bif b then (bif want then stepK Φ S id0 o κ else κ ⟨.v undef, []⟩) else (bif want then κ ⟨.v undef, []⟩ else stepK Φ S id0 o κ)
        | .tuple _ => κ ⟨.v undef, []⟩
        | _ => none
      | _ => none
    | none => none
theorem Step.guarded {ops : Array Oper} {E : Eff} (h : Step P w0 N S id0 o E) (hw : ∀ m a w, Rep w0 N m S a w → Region.wanted o (yielded ops a.tmps) = true) : GStep P w0 N ops S id0 o E := by
  intro S' m a w hl hf hr K Q hK
  rw [if_pos (hw m a w (hr.le hl))]
  exact h S' m a w hl hf hr K Q hK
theorem GStep.skipped {ops : Array Oper} (hw : ∀ m a w, Rep w0 N m S a w → Region.wanted o (yielded ops a.tmps) = false) : GStep P w0 N ops S id0 o ⟨.v undef, []⟩ := by
  intro S' m a w hl hf hr K Q hK
  rw [if_neg (by rw [hw m a w (hr.le hl)]; simp)]
  exact hK m w undef (Grows.refl _ _ _) hr.heap .v
def boolOf : Value → Option Bool
  | .bool b => some b
  | _ => none
theorem yields {ops : Array Oper} {g t : Nat} {v : Value} {m : Nm} {a : Act} (hg : guardT ops g = some t) (hv : S.fr t = .v v) (ht : t < N) (hr : Rep w0 N m S a w) : yielded ops a.tmps g = boolOf v := by
  unfold guardT at hg
  split at hg
  · rename_i og ho
    have h1 := hr.get t
    rw [hv] at h1
    have h2 : a.tmps[t]? = some v := by
      have hlt : t < a.tmps.size := by rw [hr.size]; exact ht
      rw [Array.getElem?_eq_getElem hlt]
      have h3 : a.tmps.getD t undef = a.tmps[t] := by simp [Array.getD, hlt]
      rw [h3] at h1
      cases h1
      rfl
    simp only [yielded, ho, Option.bind_some, hg, h2]
    cases v <;> rfl
  · cases hg
theorem stepG_ok {Φ : Env P} {ops : Array Oper} {κ : Eff → Option ρ} (hN : ∀ g want t, o.guard = some (g, want) → guardT ops g = some t → t < N) (h : stepG Φ ops S id0 o κ = some r) : ∃ E, κ E = some r ∧ GStep P w0 N ops S id0 o E := by
  unfold stepG at h
  split at h
  · rename_i hg
    obtain ⟨E, h1, h2⟩ := stepK_ok (w0 := w0) (N := N) h
    exact ⟨E, h1, h2.guarded (fun m a w hr => by simp [Region.wanted, hg])⟩
  · rename_i g want hg
    split at h
    · rename_i t ht
      split at h
      · rename_i v hv
        split at h
        · rename_i b
          have hy := fun m a w hr => yields (m := m) (a := a) (w := w) (w0 := w0) (N := N) ht hv (hN g want t hg ht) hr
          have on : want = b → stepK Φ S id0 o κ = some r → ∃ E, κ E = some r ∧ GStep P w0 N ops S id0 o E := fun e h' => by
            obtain ⟨E, h1, h2⟩ := stepK_ok (w0 := w0) (N := N) h'
            exact ⟨E, h1, h2.guarded (fun m a w hr => by simp [Region.wanted, hg, hy m a w hr, boolOf, e])⟩
          have off : want ≠ b → κ ⟨.v undef, []⟩ = some r → ∃ E, κ E = some r ∧ GStep P w0 N ops S id0 o E := fun e h' =>
            ⟨_, h', GStep.skipped (fun m a w hr => by simp [Region.wanted, hg, hy m a w hr, boolOf, Ne.symm e])⟩
          cases b <;> cases want <;> simp only [cond_true, cond_false] at h
          · exact on rfl h
          · exact off (by simp) h
          · exact off (by simp) h
          · exact on rfl h
        · have hy := fun m a w hr => yields (m := m) (a := a) (w := w) (w0 := w0) (N := N) ht hv (hN g want t hg ht) hr
          exact ⟨_, h, GStep.skipped (fun m a w hr => by simp [Region.wanted, hg, hy m a w hr, boolOf])⟩
        · cases h
      · cases h
    · cases h
/-! ### a region in the text's order -/
structure Ids (S : AS) (n : Nat) : Prop where
  fr : ∀ t, (S.fr t).ids (fun k => Nat.blt k n) = true
  σ : ∀ i, (S.σ i).ids (fun k => Nat.blt k n) = true
  no : ∀ i, n ≤ i → S.σ i = .no
mutual
theorem ids_mono {p q : Nat → Bool} (h : ∀ k, p k = true → q k = true) : ∀ {x : PV}, x.ids p = true → x.ids q = true
  | .un, _ => rfl
  | .v _, _ => rfl
  | .row _ _ _, _ => rfl
  | .rptr _ _ _ _, _ => rfl
  | .own i, hp => h i hp
  | .ptr i _, hp => h i hp
  | .eptr i _ _ _, hp => h i hp
  | .mp i, hp => h i hp
  | .ocut i _ _, hp => h i hp
  | .prow i _, hp => h i hp
  | .pcel i _, hp => h i hp
  | .rmap _ vs, hp => by simp only [PV.ids] at hp ⊢; exact idsL_mono h hp
  | .fn _ caps, hp => by simp only [PV.ids] at hp ⊢; exact idsL_mono h hp
  | .agg cs, hp => by simp only [PV.ids] at hp ⊢; exact idsL_mono h hp
  | .tup vs, hp => by simp only [PV.ids] at hp ⊢; exact idsL_mono h hp
theorem idsL_mono {p q : Nat → Bool} (h : ∀ k, p k = true → q k = true) : ∀ {l : List PV}, idsL p l = true → idsL q l = true
  | [], _ => rfl
  | x :: r, hp => by
    simp only [idsL, Bool.and_eq_true] at hp ⊢
    exact ⟨ids_mono h hp.1, idsL_mono h hp.2⟩
end
theorem blk_ids_mono {p q : Nat → Bool} (h : ∀ k, p k = true → q k = true) {b : ABlk} (hp : b.ids p = true) : b.ids q = true := by
  cases b with
  | box T cs => exact idsL_mono h hp
  | no => rfl
  | own _ _ _ _ => rfl
  | mset _ => rfl
  | obj _ _ j => exact h j hp
theorem blt_old {n k : Nat} (h : Nat.blt k n = true) : old n k = true := by unfold old; rw [h]; rfl
theorem Ids.fresh {n : Nat} (h : Ids S n) : Fresh n S := by
  refine ⟨fun t => ids_mono (fun k hk => blt_old hk) (h.fr t), fun i => blk_ids_mono (fun k hk => blt_old hk) (h.σ i), fun i hi => h.no i ?_⟩
  unfold old at hi
  rw [Bool.or_eq_false_iff] at hi
  cases hlt : Nat.blt i n with
  | true => rw [hlt] at hi; cases hi.1
  | false =>
    rcases Nat.lt_or_ge i n with h1 | h1
    · have := Nat.ble_eq_true_of_le h1
      rw [show Nat.blt i n = Nat.ble (i + 1) n from rfl, this] at hlt
      cases hlt
    · exact h1
def Eff.idsOk (E : Eff) (n : Nat) : Bool := E.v.ids (fun k => Nat.blt k n) && E.upd.all fun e => Nat.blt e.1 n && e.2.ids (fun k => Nat.blt k n)
theorem updσ_ids {p : Nat → Bool} : ∀ {l : List (Nat × ABlk)} {σ : Nat → ABlk}, (∀ i, (σ i).ids p = true) → (∀ e ∈ l, e.2.ids p = true) → ∀ i, (updσ σ l i).ids p = true
  | [], σ, h, _ => h
  | e :: l, σ, h, hl => by
    refine updσ_ids (l := l) (fun i => ?_) (fun x hx => hl x (List.mem_cons_of_mem _ hx))
    show (bif Nat.beq i e.1 then e.2 else σ i).ids p = true
    cases Nat.beq i e.1 with
    | true => exact hl e List.mem_cons_self
    | false => exact h i
theorem updσ_no {n : Nat} : ∀ {l : List (Nat × ABlk)} {σ : Nat → ABlk}, (∀ i, n ≤ i → σ i = .no) → (∀ e ∈ l, e.1 < n) → ∀ i, n ≤ i → updσ σ l i = .no
  | [], σ, h, _ => h
  | e :: l, σ, h, hl => by
    refine updσ_no (l := l) (fun i hi => ?_) (fun x hx => hl x (List.mem_cons_of_mem _ hx))
    show (bif Nat.beq i e.1 then e.2 else σ i) = .no
    have hne : i ≠ e.1 := by have := hl e List.mem_cons_self; omega
    have hb : Nat.beq i e.1 = false := by
      cases hq : Nat.beq i e.1 with
      | true => exact absurd (Nat.eq_of_beq_eq_true hq) hne
      | false => rfl
    rw [hb]
    exact h i hi
theorem Ids.app {n n' : Nat} {d : Option Nat} {E : Eff} (h : Ids S n) (hn : n ≤ n') (he : E.idsOk n' = true) : Ids (S.app d E) n' := by
  simp only [Eff.idsOk, Bool.and_eq_true, List.all_eq_true] at he
  have hm : ∀ k, Nat.blt k n = true → Nat.blt k n' = true := fun k hk => Nat.ble_eq_true_of_le (Nat.le_trans (Nat.le_of_ble_eq_true hk) hn)
  refine ⟨fun t => ?_, updσ_ids (fun i => blk_ids_mono hm (h.σ i)) (fun e hx => (he.2 e hx).2), updσ_no (fun i hi => h.no i (Nat.le_trans hn hi)) (fun e hx => Nat.le_of_ble_eq_true (he.2 e hx).1)⟩
  show (updf S.fr d E.v t).ids _ = true
  rw [updf_get]
  split
  · exact he.1
  · exact ids_mono hm (h.fr t)
/-- A bool is told apart as soon as it is made. -/
def splitE (κ : Eff → Option ρ) (E : Eff) : Option ρ := match E with
  | ⟨.v (.bool b), u⟩ => bif b then κ ⟨.v (.bool true), u⟩ else κ ⟨.v (.bool false), u⟩
  | E => κ E
theorem splitE_ok {κ : Eff → Option ρ} {E : Eff} (h : splitE κ E = some r) : κ E = some r := by
  unfold splitE at h
  split at h
  · rename_i b u
    cases b <;> exact h
  · exact h
def regP (Φ : Env P) (N : Nat) (ops : Array Oper) : List Oper → AS → Nat → (AS → Nat → Option ρ) → Option ρ
  | [], S, n, κ => κ S n
  | o :: r, S, n, κ => bif dOk o.dst N then stepG Φ ops S n o (splitE fun E => bif E.idsOk (n + 8) then regP Φ N ops r (S.app o.dst E) (n + 8) κ else none) else none
theorem regP_ok {Φ : Env P} {ops : Array Oper} (hN : ∀ g t, guardT ops g = some t → t < N) : ∀ {l : List Oper} {S : AS} {n : Nat} {κ : AS → Nat → Option ρ} {m : Nm} {a : Act} {w : World} {Q : Exit → Act → World → Prop}, regP Φ N ops l S n κ = some r → Rep w0 N m S a w → Ids S n →
    (∀ S' n' m' a' w', κ S' n' = some r → Rep w0 N m' S' a' w' → Ids S' n' → Q .normal a' w') → wpList P ops Q l a w
  | [], S, n, κ, m, a, w, Q, h, hr, hi, hQ => hQ S n m a w h hr hi
  | o :: l, S, n, κ, m, a, w, Q, h, hr, hi, hQ => by
    rcases cond_some h with ⟨hd, hh⟩ | ⟨_, h2⟩
    · obtain ⟨E, h1, h2⟩ := stepG_ok (w0 := w0) (N := N) (fun g want t _ hg => hN g t hg) hh
      rcases cond_some (splitE_ok h1) with ⟨hid, hk⟩ | ⟨_, h3⟩
      · refine wpList_step fun K hK => ?_
        refine h2 S m a w (Le.refl S) hi.fresh hr K Q (fun m' w' v hg hh' hv => hK _ _ ?_)
        exact regP_ok hN hk (hr.put hd hg (fun t => ids_mono (fun k hk => blt_old hk) (hi.fr t)) hv hh') (hi.app (by omega) hid) hQ
      · cases h3
    · cases h2
end
end Go.Proofs.YtaknikdbnfmlfaaDoor.Ex
