/- An executor of translated code on abstract states: rows of pointers into a block, maps that are filled once, calls that hand such things back. -/
import Derived.Test.YtaknikdbnfmlfaaDoorExR
import Derived.Laws.Strings2
import Derived.Laws.Strings3
import Derived.Laws.BytesArg
namespace Go.Proofs.YtaknikdbnfmlfaaDoor.Ex
open Go Go.RowKit
set_option linter.unusedVariables false
set_option linter.unusedSimpArgs false
section
variable {P : Program} {w0 : Org} {w : World} {N : Nat} {S : AS} {o : Oper} {ρ : Type} {r : ρ} {id0 : Nat}
/-! ### rows of pointers -/
def isP : PV → Bool
  | .prow _ _ => true
  | .pcel _ _ => true
  | _ => false
def prowOn (S : AS) (o : Oper) : Bool := match o.op with
  | .call ⟨.builtin b, args, _⟩ => match b with
    | .len => match args.toList with
      | [x] => isP (S.ev x)
      | _ => false
    | _ => false
  | .indexAddr _ x _ => isP (S.ev x)
  | .load _ x => isP (S.ev x)
  | _ => false
def prowRun (P : Program) (S : AS) (o : Oper) (κ : PV → Option ρ) : Option ρ := match o.op with
  | .call ⟨.builtin .len, args, ts⟩ => match args.toList, ts[0]? with
    | [x], some t => match P.underlying t, S.ev x with
      | some (.slice _), .prow i offs => κ (.v (.int .i64 (Int.ofNat offs.length)))
      | _, _ => none
    | _, _ => none
  | .indexAddr t x j => match P.underlying t, S.ev x, S.ev j with
    | some (.slice e), .prow i offs, .v (.int _ n) => match sizeB P e, offs[n.toNat]? with
      | some sz, some off => bif Nat.beq sz 1 && decide (0 ≤ n) then κ (.pcel i off) else none
      | _, _ => none
    | _, _, _ => none
  | .load t x => match S.ev x with
    | .pcel i off => match partB P t [.ptr i off] 0 with
      | some p => κ p
      | none => none
    | _ => none
  | _ => none
theorem prow_ok {κ : PV → Option ρ} (h : prowRun P S o κ = some r) : SoundV P w0 N S o κ r := by
  unfold prowRun at h
  split at h
  · rename_i args ts ho
    split at h
    · rename_i x t hx ht
      have hl : args = #[x] := by apply Array.ext'; simpa using hx
      subst hl
      split at h
      · rename_i e i offs hu hp
        refine ⟨_, h, fun m a w hr => ⟨_, ?_, .v⟩⟩
        have h1 := hr.ev x
        rw [hp] at h1
        generalize hz : a.eval x = z at h1
        cases h1 with | prow h2 h3 h4 =>
        unfold execOp
        simp only [ho]
        simp [resolve, invoke, builtin, Builtin.len_, ht, hz, Sem.run_bind, run_underlying hu, goInt]
      · cases h
    · cases h
  · rename_i t x j ho
    split at h
    · rename_i e i offs k n hu hp hj
      split at h
      · rename_i sz off hs hoff
        rcases cond_some h with ⟨hc, hh⟩ | ⟨_, h2⟩
        · rw [Bool.and_eq_true] at hc
          have e1 := Nat.eq_of_beq_eq_true hc.1
          subst e1
          have e0 := of_decide_eq_true hc.2
          refine ⟨_, hh, fun m a w hr => ?_⟩
          have h1 := hr.ev x
          rw [hp] at h1
          generalize hz : a.eval x = z at h1
          cases h1 with | prow h2 h3 h4 =>
          have hlt := (List.getElem?_eq_some_iff.1 hoff).1
          refine ⟨_, run_index ho ?_, .pcel h2 (h4 _ _ hoff)⟩
          rw [hz, ev_v hr hj]
          simp only [Instr.indexAt, asIntOf, Sem.run_bind, run_underlying hu, Result.andThen_ok, Sem.run_pure]
          rw [if_pos ⟨e0, by omega⟩]
          simp [Sem.run_bind, sizeB_ok hs, Addr.add_mid]
        · cases h2
      · cases h
    · cases h
  · rename_i t x ho
    split at h
    · rename_i i off hp
      split at h
      · rename_i p hpb
        refine ⟨_, h, fun m a w hr => ?_⟩
        have h1 := hr.ev x
        rw [hp] at h1
        generalize hz : a.eval x = z at h1
        cases h1 with | pcel h2 h3 =>
        rename_i b q
        obtain ⟨v, h4, h5⟩ := load_cells (m := m) (B0 := w0.heap.size) (w := w) (vs := [.pointer (some ⟨m.b i, off, none⟩)]) (b := b) (o := q) (off := 0) (.cons .ptr .nil) (fun j u hj => by
          cases j with
          | zero => simp at hj; subst hj; exact h3
          | succ j => simp at hj) hpb
        rw [Nat.add_zero] at h4
        exact ⟨v, run_of (s := Instr.loadAt t (a.eval x)) (by unfold execOp; simp only [ho]) (by rw [hz]; exact h4), h5⟩
      · cases h
    · cases h
  · cases h
def hkRow (P : Program) : Hook P := ⟨prowOn, fun S id0 o κ => prowRun P S o fun p => κ ⟨p, []⟩, fun _ h => (prow_ok (κ := fun p => _) h).sound⟩
/-! ### maps that are filled once -/
def keyV (a b : Int) : Value := .agg #[.int .i64 a, .int .i64 b]
def hasK (k : Int × Int) : List (Int × Int) → Bool
  | [] => false
  | q :: r => (k.1 == q.1 && k.2 == q.2) || hasK k r
def nodupK : List (Int × Int) → Bool
  | [] => true
  | k :: r => !hasK k r && nodupK r
def lookT (a b : Int) (κ : PV → Option ρ) (d : Option ρ) : List (Int × Int) → List PV → Option ρ
  | k :: ks, v :: vs => bif decide (a = k.1) && decide (b = k.2) then κ v else lookT a b κ d ks vs
  | _, _ => d
/-- What is known of a map's types. -/
structure MapT (P : Program) where
  t : TypeId
  kt : TypeId
  et : TypeId
  z : Value
  hu : P.underlying t = some (.map kt et)
  hk : ∃ fs, P.underlying kt = some (.struct fs)
  hq : ∀ (w : World) (a b c d : Int), (Op.equal kt (keyV a b) (keyV c d)).run P w = .ok (a == c && (b == d)) w
  hc : ∀ (w : World) (e : Bool) (a b : Int), (Instr.checkKey e 10000 kt (keyV a b)).run P w = .ok () w
  hz : ∀ w : World, (zeroValue et).run P w = .ok z w
theorem findAsking_g (M : MapT P) (a b : Int) (w : World) : ∀ (es : List MapEntry) (i : Nat), (∀ e ∈ es, ∃ c d, e.key = keyV c d) →
    ∃ r, (Instr.findAsking M.kt (keyV a b) es i).run P w = .ok r w ∧ ((∃ e ∈ es, e.key = keyV a b) → ∃ j e, e ∈ es ∧ e.key = keyV a b ∧ r = some (j, e.val)) ∧ ((∀ e ∈ es, e.key ≠ keyV a b) → r = none)
  | [], i, _ => ⟨none, rfl, fun ⟨e, he, _⟩ => (by cases he), fun _ => rfl⟩
  | e :: es, i, h => by
    obtain ⟨c, d, hk⟩ := h e List.mem_cons_self
    simp only [Instr.findAsking, Sem.run_bind, hk, M.hq, Result.andThen_ok]
    by_cases hcd : a = c ∧ b = d
    · obtain ⟨rfl, rfl⟩ := hcd
      refine ⟨some (i, e.val), by simp, fun _ => ⟨i, e, List.mem_cons_self, hk, rfl⟩, fun hn => absurd hk (hn e List.mem_cons_self)⟩
    · have hb : (a == c && (b == d)) = false := by
        cases hh : (a == c && (b == d)) with
        | false => rfl
        | true => simp at hh; exact absurd hh hcd
      have hne : e.key ≠ keyV a b := fun e' => by
        rw [hk] at e'
        simp [keyV] at e'
        exact hcd ⟨e'.1.symm, e'.2.symm⟩
      obtain ⟨x, h1, h2, h3⟩ := findAsking_g M a b w es (i + 1) (fun e he => h e (List.mem_cons_of_mem _ he))
      rw [hb]
      refine ⟨x, by simpa using h1, fun ⟨e', he', hk'⟩ => ?_, fun hn => h3 fun e' he' => hn e' (List.mem_cons_of_mem _ he')⟩
      rcases List.mem_cons.1 he' with rfl | he'
      · exact absurd hk' hne
      · obtain ⟨j, e2, g1, g2, g3⟩ := h2 ⟨e', he', hk'⟩
        exact ⟨j, e2, List.mem_cons_of_mem _ g1, g2, g3⟩
theorem findKey_g (M : MapT P) (a b : Int) (w : World) (es : List MapEntry) (h : ∀ e ∈ es, ∃ c d, e.key = keyV c d) :
    ∃ r, (Instr.findKey M.kt (keyV a b) es).run P w = .ok r w ∧ ((∃ e ∈ es, e.key = keyV a b) → ∃ j e, e ∈ es ∧ e.key = keyV a b ∧ r = some (j, e.val)) ∧ ((∀ e ∈ es, e.key ≠ keyV a b) → r = none) := by
  obtain ⟨fs, hf⟩ := M.hk
  cases es with
  | nil =>
    refine ⟨none, ?_, fun ⟨e, he, _⟩ => (by cases he), fun _ => rfl⟩
    simp only [Instr.findKey, Sem.run_bind, run_underlying hf, Result.andThen_ok, Instr.findNow, Sem.run_pure]
  | cons p q =>
    obtain ⟨x, h1, h2⟩ := findAsking_g M a b w (p :: q) 0 h
    obtain ⟨c, d, hk⟩ := h p List.mem_cons_self
    refine ⟨x, ?_, h2⟩
    obtain ⟨pk, pv, pb⟩ := p
    simp only at hk
    subst hk
    simp only [Instr.findKey, keyV, Sem.run_bind, run_underlying hf, Result.andThen_ok, Instr.findNow, Instr.sameNow]
    exact h1
theorem lookT_some {a b : Int} {κ : PV → Option ρ} {d : Option ρ} : ∀ {ks : List (Int × Int)} {vs : List PV}, lookT a b κ d ks vs = some r → (∃ (j : Nat) (v : PV), ks[j]? = some (a, b) ∧ vs[j]? = some v ∧ κ v = some r) ∨ ((∀ (j : Nat) v, ks[j]? = some (a, b) → vs[j]? = some v → False) ∧ d = some r)
  | [], vs, h => .inr ⟨fun j v hj => by simp at hj, by simpa [lookT] using h⟩
  | k :: ks, [], h => .inr ⟨fun j v _ hv => by simp at hv, by simpa [lookT] using h⟩
  | k :: ks, v :: vs, h => by
    simp only [lookT] at h
    rcases cond_some h with ⟨h1, h2⟩ | ⟨h1, h2⟩
    · simp only [Bool.and_eq_true, decide_eq_true_eq] at h1
      exact .inl ⟨0, v, by simp [h1.1, h1.2], rfl, h2⟩
    · rcases lookT_some h2 with ⟨j, v', g1, g2, g3⟩ | ⟨g1, g2⟩
      · exact .inl ⟨j + 1, v', by simpa using g1, by simpa using g2, g3⟩
      · refine .inr ⟨fun j v' hj hv => ?_, g2⟩
        cases j with
        | zero =>
          simp at hj
          subst hj
          simp at h1
        | succ j => exact g1 j v' (by simpa using hj) (by simpa using hv)
theorem hasK_iff {k : Int × Int} : ∀ {l : List (Int × Int)}, hasK k l = true ↔ k ∈ l
  | [] => by simp [hasK]
  | q :: r => by
    simp only [hasK, Bool.or_eq_true, Bool.and_eq_true, beq_iff_eq, List.mem_cons, hasK_iff (l := r)]
    rw [Prod.ext_iff]
theorem nodupK_inj : ∀ {l : List (Int × Int)} {i j : Nat} {k : Int × Int}, nodupK l = true → l[i]? = some k → l[j]? = some k → i = j
  | [], i, j, k, _, h, _ => by simp at h
  | q :: r, i, j, k, h, hi, hj => by
    simp only [nodupK, Bool.and_eq_true, Bool.not_eq_true'] at h
    have hn : q ∉ r := fun hm => by rw [hasK_iff.2 hm] at h; cases h.1
    cases i with
    | zero =>
      cases j with
      | zero => rfl
      | succ j => simp at hi hj; subst hi; exact absurd (List.mem_of_getElem? hj) hn
    | succ i =>
      cases j with
      | zero => simp at hi hj; subst hj; exact absurd (List.mem_of_getElem? hi) hn
      | succ j => exact congrArg (· + 1) (nodupK_inj h.2 (by simpa using hi) (by simpa using hj))
def rmapOn (S : AS) (o : Oper) : Bool := match o.op with
  | .lookup _ x _ _ => match S.ev x with
    | .rmap _ _ => true
    | _ => false
  | _ => false
def rmapRun (M : MapT P) (S : AS) (o : Oper) (κ : PV → Option ρ) : Option ρ := match o.op with
  | .lookup t x k c => match S.ev x, S.ev k with
    | .rmap ks vs, .agg [.v (.int .i64 a), .v (.int .i64 b)] => bif Nat.beq t M.t && (nodupK ks && Nat.beq ks.length vs.length) then (bif c then lookT a b (fun v => κ (.tup [v, .v (.bool true)])) (κ (.tup [.v M.z, .v (.bool false)])) ks vs else lookT a b κ (κ (.v M.z)) ks vs) else none
    | _, _ => none
  | _ => none
theorem rmap_get {m : Nm} {B0 : Nat} : ∀ {vs : List PV} {us : List Value} {j : Nat} {p : PV}, RepVs m B0 w vs us → vs[j]? = some p → ∃ u, us[j]? = some u ∧ RepV m B0 w p u
  | [], _, j, p, _, h => by simp at h
  | v :: vs, _, j, p, .cons h hs, hj => by
    cases j with
    | zero => simp at hj; subst hj; exact ⟨_, rfl, h⟩
    | succ j =>
      obtain ⟨u, h1, h2⟩ := rmap_get hs (by simpa using hj)
      exact ⟨u, by simpa using h1, h2⟩
def foundV (z : Value) (c : Bool) : Option (Nat × Value) → Value
  | some (_, u) => if c = true then .tuple #[u, .bool true] else u
  | none => if c = true then .tuple #[z, .bool false] else z
theorem rmap_ok (M : MapT P) {κ : PV → Option ρ} (h : rmapRun M S o κ = some r) : SoundV P w0 N S o κ r := by
  unfold rmapRun at h
  split at h
  · rename_i t x k c ho
    split at h
    · rename_i ks vs a b hx hk
      rcases cond_some h with ⟨hc, hh⟩ | ⟨_, h2⟩
      · clear h
        rw [Bool.and_eq_true, Bool.and_eq_true] at hc
        have ht := Nat.eq_of_beq_eq_true hc.1
        subst ht
        have hnd := hc.2.1
        have hlen := Nat.eq_of_beq_eq_true hc.2.2
        -- what the machine finds
        have key : ∀ m ac w, Rep w0 N m S ac w → ∃ bb es clock, ac.eval x = .map (some bb) ∧ ac.eval k = keyV a b ∧ w.heap[bb]? = some (.map es clock) ∧
            ∃ q, (Instr.findKey M.kt (keyV a b) es.toList).run P w = .ok q w ∧ (∀ (j : Nat) v, ks[j]? = some (a, b) → vs[j]? = some v → ∃ i u, q = some (i, u) ∧ RepV m w0.heap.size w v u) ∧ ((∀ (j : Nat) v, ks[j]? = some (a, b) → vs[j]? = some v → False) → q = none) := by
          intro m ac w hr
          have h1 := hr.ev x
          rw [hx] at h1
          generalize hz : ac.eval x = z at h1
          cases h1 with | rmap hF hv hl hh' hp =>
          rename_i bb clock us es
          have h2 := hr.ev k
          rw [hk] at h2
          have hkv : ac.eval k = keyV a b := by
            generalize ac.eval k = y at h2
            cases h2 with | agg h2 =>
            cases h2 with | cons g1 g2 =>
            cases g2 with | cons g2 g3 =>
            cases g1; cases g2; cases g3; rfl
          have hes : ∀ e ∈ es.toList, ∃ j : Nat, ∃ kk u, ks[j]? = some kk ∧ us[j]? = some u ∧ e.key = keyV kk.1 kk.2 ∧ e.val = u := fun e he => by
            have : (e.key, e.val) ∈ es.toList.map fun e => (e.key, e.val) := List.mem_map.2 ⟨e, he, rfl⟩
            have := hp.mem_iff.1 this
            obtain ⟨j, hj⟩ := List.mem_iff_getElem?.1 this
            rw [List.getElem?_zip_eq_some] at hj
            obtain ⟨j1, j2⟩ := hj
            rw [List.getElem?_map] at j1
            obtain ⟨kk, g1, g2⟩ := Option.map_eq_some_iff.1 j1
            exact ⟨j, kk, _, g1, j2, g2.symm, rfl⟩
          obtain ⟨q, q1, q2, q3⟩ := findKey_g M a b w es.toList (fun e he => by obtain ⟨j, kk, u, _, _, h, _⟩ := hes e he; exact ⟨_, _, h⟩)
          refine ⟨bb, es, clock, rfl, hkv, hh', q, q1, fun j v hj hv' => ?_, fun hn => ?_⟩
          · obtain ⟨u, hu, hru⟩ := rmap_get hv hv'
            have hz' : (keyV a b, u) ∈ (ks.map fun k => Value.agg #[.int .i64 k.1, .int .i64 k.2]).zip us := by
              refine List.mem_iff_getElem?.2 ⟨j, ?_⟩
              rw [List.getElem?_zip_eq_some]
              exact ⟨by rw [List.getElem?_map, hj]; rfl, hu⟩
            obtain ⟨e, he, hek⟩ := List.mem_map.1 (hp.mem_iff.2 hz')
            obtain ⟨i, e2, g1, g2, g3⟩ := q2 ⟨e, he, congrArg Prod.fst hek⟩
            refine ⟨i, e2.val, g3, ?_⟩
            obtain ⟨j2, kk, u2, f1, f2, f3, f4⟩ := hes e2 g1
            rw [g2] at f3
            have hkk : kk = (a, b) := by
              simp [keyV] at f3
              exact Prod.ext f3.1.symm f3.2.symm
            subst hkk
            have := nodupK_inj hnd f1 hj
            subst this
            rw [hu] at f2
            cases f2
            rw [f4]
            exact hru
          · refine q3 fun e he hek => ?_
            obtain ⟨j, kk, u, f1, f2, f3, f4⟩ := hes e he
            rw [hek] at f3
            have hkk : kk = (a, b) := by
              simp [keyV] at f3
              exact Prod.ext f3.1.symm f3.2.symm
            subst hkk
            have hj := (List.getElem?_eq_some_iff.1 f1).1
            exact hn j _ f1 (List.getElem?_eq_getElem (by omega))
        have run : ∀ (ac : Act) (w : World) (bb : Nat) (es : Array MapEntry) (clock : Nat) (q : Option (Nat × Value)) (cc : Bool), ac.eval x = .map (some bb) → ac.eval k = keyV a b → w.heap[bb]? = some (.map es clock) → (Instr.findKey M.kt (keyV a b) es.toList).run P w = .ok q w → c = cc → 
            (execOp ac.eval o).run P w = .ok (.value (foundV M.z cc q)) w := by
          intro ac w bb es clock q cc e1 e2 e3 e4 e5
          subst e5
          have : (Instr.lookup M.t (ac.eval x) (ac.eval k) c).run P w = .ok (foundV M.z c q) w := by
            rw [e1, e2]
            cases q with
            | none => cases c <;> simp [Instr.lookup, Sem.run_bind, run_underlying M.hu, Result.andThen_ok, getObj, Sem.run, e3, M.hc, e4, M.hz, foundV]
            | some q => obtain ⟨i, u⟩ := q; cases c <;> simp [Instr.lookup, Sem.run_bind, run_underlying M.hu, Result.andThen_ok, getObj, Sem.run, e3, M.hc, e4, foundV]
          exact run_of (s := Instr.lookup M.t (ac.eval x) (ac.eval k) c) (by unfold execOp; simp only [ho]) this
        cases c with
        | true =>
          simp only [cond_true] at hh
          rcases lookT_some hh with ⟨j, v, g1, g2, g3⟩ | ⟨g1, g2⟩
          · refine ⟨_, g3, fun m ac w hr => ?_⟩
            obtain ⟨bb, es, clock, e1, e2, e3, q, q1, q2, _⟩ := key m ac w hr
            obtain ⟨i, u, rfl, hu⟩ := q2 j v g1 g2
            exact ⟨_, run ac w bb es clock _ true e1 e2 e3 q1 rfl, RepV.tup (.cons hu (.cons .v .nil))⟩
          · refine ⟨_, g2, fun m ac w hr => ?_⟩
            obtain ⟨bb, es, clock, e1, e2, e3, q, q1, _, q3⟩ := key m ac w hr
            have := q3 g1
            subst this
            exact ⟨_, run ac w bb es clock _ true e1 e2 e3 q1 rfl, RepV.tup (.cons .v (.cons .v .nil))⟩
        | false =>
          simp only [cond_false] at hh
          rcases lookT_some hh with ⟨j, v, g1, g2, g3⟩ | ⟨g1, g2⟩
          · refine ⟨_, g3, fun m ac w hr => ?_⟩
            obtain ⟨bb, es, clock, e1, e2, e3, q, q1, q2, _⟩ := key m ac w hr
            obtain ⟨i, u, rfl, hu⟩ := q2 j v g1 g2
            exact ⟨_, run ac w bb es clock _ false e1 e2 e3 q1 rfl, hu⟩
          · refine ⟨_, g2, fun m ac w hr => ?_⟩
            obtain ⟨bb, es, clock, e1, e2, e3, q, q1, _, q3⟩ := key m ac w hr
            have := q3 g1
            subst this
            exact ⟨_, run ac w bb es clock _ false e1 e2 e3 q1 rfl, RepV.v⟩
      · cases h2
    · cases h
  · cases h
def hkMap (M : MapT P) : Hook P := ⟨rmapOn, fun S id0 o κ => rmapRun M S o fun p => κ ⟨p, []⟩, fun _ h => (rmap_ok M (κ := fun p => _) h).sound⟩
end
end Go.Proofs.YtaknikdbnfmlfaaDoor.Ex
/- An executor of translated code on abstract states: calls that hand back a row of pointers into a block, or a map that is filled once. -/
namespace Go.Proofs.YtaknikdbnfmlfaaDoor.Ex
open Go Go.RowKit
set_option linter.unusedVariables false
set_option linter.unusedSimpArgs false
section
variable {P : Program} {w0 : Org} {w : World} {N : Nat} {S : AS} {o : Oper} {ρ : Type} {r : ρ} {id0 : Nat}
/-- All that a call has made is never written again. -/
theorem Heap.all_new {w' : World} {m : Nm} (h : Heap w0 m S.σ w) (hf : Fresh id0 S) (hb : Below w.heap.size w w') :
    Grows (old id0) m ⟨m.v, m.b, fun k => m.F k ∨ (w.heap.size ≤ k ∧ k < w'.heap.size)⟩ w w' ∧ Heap w0 ⟨m.v, m.b, fun k => m.F k ∨ (w.heap.size ≤ k ∧ k < w'.heap.size)⟩ S.σ w' := by
  have hg : Grows (old id0) m ⟨m.v, m.b, fun k => m.F k ∨ (w.heap.size ≤ k ∧ k < w'.heap.size)⟩ w w' := ⟨fun _ _ => rfl, fun _ _ => rfl, fun k hk => ⟨.inl hk, hb.block k (h.flt k hk)⟩⟩
  refine ⟨hg, Heap.step (fun i => False) h hg hf.σ (fun i _ => ⟨rfl, hf.p i⟩) (fun i k _ hk => ⟨hb.block k (blk_lt h hk).1, fun hF => hF.elim (blk_lt h hk).2.1 (fun hz => by have := (blk_lt h hk).1; omega)⟩) (fun i hi => hi.elim) (fun i j k hij hi => hi.elim) (fun k hk => hk.elim (fun h5 => Nat.lt_of_lt_of_le (h.flt k h5) hb.size) (fun hz => hz.2)) (h.below.trans (hb.mono h.below.size))⟩
/-- A function value that hands back pointers into what its argument points to; it may hold one cell, in which a function value is. -/
structure CloT (P : Program) where
  f : FuncId
  T : TypeId
  offs : List Nat
  cap : Option FuncId
  ok : ∀ (b : Nat) (w : World) (cv : List Value), (match cap with | none => cv = [] | some g => ∃ u, cv = [u] ∧ SKIs (fun k => k < w.heap.size) w (.ptr [.fnc g]) () u) → GK w → Calls P f (.pointer (some ⟨b, 0, none⟩) :: cv).toArray w fun e w' => ∃ v xs, e = .returned v ∧ w'.ownsRow w.heap.size T 1 v offs.length xs ∧ (∀ (j o : Nat), offs[j]? = some o → xs[j]? = some (.pointer (some ⟨b, o, none⟩))) ∧ Below w.heap.size w w'
  enters : ∀ (args : Array Value) (w : World), (callFunc f args).run P w = .ok (.enter f args) w
def capIs (cap : Option FuncId) (caps : List PV) : Bool := match cap with
  | none => caps.isEmpty
  | some g => match caps with
    | [.rptr _ s _ off] => sames s [.fnc g] && Nat.beq off 0
    | _ => false
def cloOf (f : FuncId) : List (CloT P) → Option (CloT P)
  | [] => none
  | c :: q => bif Nat.beq c.f f then some c else cloOf f q
theorem cloOf_f {f : FuncId} : ∀ {l : List (CloT P)} {c : CloT P}, cloOf f l = some c → c.f = f
  | [], c, h => by cases h
  | x :: q, c, h => by
    rcases cond_some h with ⟨h1, h2⟩ | ⟨_, h2⟩
    · cases h2; exact Nat.eq_of_beq_eq_true h1
    · exact cloOf_f h2
def isSomeB {α : Type} : Option α → Bool
  | some _ => true
  | none => false
def cloOn (l : List (CloT P)) (S : AS) (o : Oper) : Bool := match o.op with
  | .call ⟨.value x, _, _⟩ => match S.ev x with
    | .fn f _ => isSomeB (cloOf f l)
    | _ => false
  | _ => false
def cloRun (l : List (CloT P)) (S : AS) (o : Oper) (κ : Eff → Option ρ) : Option ρ := match o.op with
  | .call ⟨.value x, args, _⟩ => match S.ev x, args.toList with
    | .fn f caps, [y] => match cloOf f l, S.ev y with
      | some c, .ptr i off => bif Nat.beq off 0 && (capIs c.cap caps && Nat.blt 0 c.offs.length) then κ ⟨.prow i c.offs, []⟩ else none
      | _, _ => none
    | _, _ => none
  | _ => none
theorem clo_ok {l : List (CloT P)} {κ : Eff → Option ρ} (h : cloRun l S o κ = some r) : Sound P w0 N S id0 o κ r := by
  unfold cloRun at h
  split at h
  · rename_i x args ts ho
    split at h
    · rename_i f caps y hx hy
      have hl : args = #[y] := by apply Array.ext'; simpa using hy
      subst hl
      split at h
      · rename_i c i off hc hyv
        rcases cond_some h with ⟨hb, hh⟩ | ⟨_, h2⟩
        · rw [Bool.and_eq_true, Bool.and_eq_true] at hb
          have e0 := Nat.eq_of_beq_eq_true hb.1
          subst e0
          have hcap := hb.2.1
          have hpos : 0 < c.offs.length := Nat.le_of_ble_eq_true hb.2.2
          have hf := cloOf_f hc
          subst hf
          refine ⟨_, hh, ?_⟩
          intro S' m a w hl hf hr K Q hK
          have hr0 := hr.le hl
          have h1 := hr0.ev x
          rw [hx] at h1
          generalize hz : a.eval x = z at h1
          cases h1 with | fn h1 =>
          rename_i cv
          have h2 := hr0.ev y
          rw [hyv] at h2
          generalize hzy : a.eval y = zy at h2
          cases h2
          have hcv : (match c.cap with | none => cv = [] | some g => ∃ u, cv = [u] ∧ SKIs (fun k => k < w.heap.size) w (.ptr [.fnc g]) () u) := by
            unfold capIs at hcap
            split at hcap
            · have : caps = [] := by simpa using hcap
              subst this
              cases h1
              rfl
            · rename_i g hcg
              try rw [hcg]
              split at hcap
              · rename_i fr s d off
                rw [Bool.and_eq_true] at hcap
                have es := sames_eq hcap.1
                subst es
                have eo := Nat.eq_of_beq_eq_true hcap.2
                subst eo
                cases h1 with | cons g1 g2 =>
                cases g2
                cases g1 with | rptr g1 =>
                refine ⟨_, rfl, ?_⟩
                rw [Nat.add_zero]
                exact SKIs.move (fun k hk => ⟨hr.heap.flt k hk.1, rfl⟩) g1
              · cases hcap
          have hcall := c.ok (m.b i) w cv hcv hr.gk
          have hrun : (execOp a.eval o).run P w = .ok (.enter c.f (.pointer (some ⟨m.b i, 0, none⟩) :: cv).toArray) w := by
            have he := c.enters (.pointer (some ⟨m.b i, 0, none⟩) :: cv).toArray w
            unfold execOp
            simp [ho, resolve, Deferred.ofValue, invoke, hz, hzy]
            simpa using he
          unfold Oper.wp
          rw [hrun, Oper.upon_enter]
          refine hcall.mono fun en w' hh' => ?_
          obtain ⟨v, xs, rfl, g1, g2, g3⟩ := hh'
          obtain ⟨k1, k2⟩ := Heap.all_new hr.heap hf g3
          refine hK _ w' v k1 k2 ?_
          rcases g1.2 with ⟨_, hn⟩ | ⟨g, cap, cur, rfl, q1, q2, q3, q4, q5, q6⟩
          · omega
          · have hlt := (Array.getElem?_eq_some_iff.1 q2).1
            refine .prow (.inr ⟨q1, hlt⟩) q3 (fun j o hj => ?_)
            have hj' := g2 j o hj
            have hjl := (List.getElem?_eq_some_iff.1 hj).1
            rw [← q6, List.getElem?_take_of_lt (by omega)] at hj'
            rw [blk_cell q2]
            simpa using hj'
        · cases h2
      · cases h
    · cases h
  · cases h
def hkClo (l : List (CloT P)) : Hook P := ⟨cloOn l, fun S id0 o κ => cloRun l S o κ, fun _ h => clo_ok h⟩
theorem offs_get (b : Nat) {offs : List Nat} {j o : Nat} (hj : offs[j]? = some o) : (offs.map fun o => (b, o))[j]? = some (b, o) := by rw [List.getElem?_map, hj]; rfl
theorem offs_len {w w' : World} {T : TypeId} {u : Value} {xs : List Value} (b : Nat) (offs : List Nat) (h : w'.ownsRow w.heap.size T 1 u (offs.map fun o => (b, o)).length xs) : w'.ownsRow w.heap.size T 1 u offs.length xs := by rwa [List.length_map] at h
/-- The entry of such a function value, out of what the executor tells of it. -/
theorem clo_of0 {f : FuncId} {T : TypeId} {offs : List Nat} {F : (Nat × Nat) → Option (List (Nat × Nat))} (h : CallsOk P f [.one (.sc .adr)] [.one (.row T [.adr])] F) (hF : ∀ b, F (b, 0) = some (offs.map fun o => (b, o))) :
    ∀ (b : Nat) (w : World) (cv : List Value), cv = [] → GK w → Calls P f (.pointer (some ⟨b, 0, none⟩) :: cv).toArray w fun e w' => ∃ v xs, e = .returned v ∧ w'.ownsRow w.heap.size T 1 v offs.length xs ∧ (∀ (j o : Nat), offs[j]? = some o → xs[j]? = some (.pointer (some ⟨b, o, none⟩))) ∧ Below w.heap.size w w' := by
  intro b w cv hcv hgk
  subst hcv
  have hc := h (b, 0) _ w [.pointer (some ⟨b, 0, none⟩)] (hF b) (by simp only [PTIs, PKIs, LKIs, SKIs]; exact ⟨_, rfl, rfl⟩) hgk
  refine hc.mono fun e w' hh => ?_
  obtain ⟨v, rfl, hret, hb⟩ := hh
  obtain ⟨vs, rv, Fz, rfl, hn, _⟩ := hret.ex
  simp only [PTNew, PKNew, LKNew] at hn
  obtain ⟨u, rfl, rfl, xs, h1, h2⟩ := hn
  refine ⟨u, xs, rfl, offs_len b offs h1, fun j o hj => ?_, hb⟩
  have := h2 j (b, o) (offs_get b hj)
  simp only [TupIs, SKIs] at this
  obtain ⟨q, hq, rfl⟩ := this
  have h3 : ((xs.drop (j * 1)).take 1)[0]? = some (.pointer (some ⟨b, o, none⟩)) := by
    show ((xs.drop (j * [SK.adr].length)).take [SK.adr].length)[0]? = _
    rw [hq]; rfl
  rw [List.getElem?_take_of_lt (by omega), List.getElem?_drop] at h3
  simpa using h3
theorem clo_of1 {f g : FuncId} {T : TypeId} {offs : List Nat} {F : ((Nat × Nat) × Unit) → Option (List (Nat × Nat))} (h : CallsOk P f [.one (.sc .adr), .one (.ptr [.fnc g])] [.one (.row T [.adr])] F) (hF : ∀ b, F ((b, 0), ()) = some (offs.map fun o => (b, o))) :
    ∀ (b : Nat) (w : World) (cv : List Value), (∃ u, cv = [u] ∧ SKIs (fun k => k < w.heap.size) w (.ptr [.fnc g]) () u) → GK w → Calls P f (.pointer (some ⟨b, 0, none⟩) :: cv).toArray w fun e w' => ∃ v xs, e = .returned v ∧ w'.ownsRow w.heap.size T 1 v offs.length xs ∧ (∀ (j o : Nat), offs[j]? = some o → xs[j]? = some (.pointer (some ⟨b, o, none⟩))) ∧ Below w.heap.size w w' := by
  intro b w cv hcv hgk
  obtain ⟨u0, rfl, hu0⟩ := hcv
  have hc := h ((b, 0), ()) _ w [.pointer (some ⟨b, 0, none⟩), u0] (hF b) (by simp only [PTIs, PKIs, LKIs]; exact ⟨_, _, rfl, by simp only [SKIs], _, rfl, hu0⟩) hgk
  refine hc.mono fun e w' hh => ?_
  obtain ⟨v, rfl, hret, hb⟩ := hh
  obtain ⟨vs, rv, Fz, rfl, hn, _⟩ := hret.ex
  simp only [PTNew, PKNew, LKNew] at hn
  obtain ⟨u, rfl, rfl, xs, h1, h2⟩ := hn
  refine ⟨u, xs, rfl, offs_len b offs h1, fun j o hj => ?_, hb⟩
  have := h2 j (b, o) (offs_get b hj)
  simp only [TupIs, SKIs] at this
  obtain ⟨q, hq, rfl⟩ := this
  have h3 : ((xs.drop (j * 1)).take 1)[0]? = some (.pointer (some ⟨b, o, none⟩)) := by
    show ((xs.drop (j * [SK.adr].length)).take [SK.adr].length)[0]? = _
    rw [hq]; rfl
  rw [List.getElem?_take_of_lt (by omega), List.getElem?_drop] at h3
  simpa using h3
/-- A function without arguments that hands back a map, filled once; its values are told over blocks of the call's own. -/
structure MapC (P : Program) where
  f : FuncId
  ks : List (Int × Int)
  vs : List PV
  ok : ∀ (w : World), GK w → Calls P f #[] w fun e w' => ∃ b es clock us, e = .returned (.map (some b)) ∧ w.heap.size ≤ b ∧ w'.heap[b]? = some (.map es clock) ∧ ks.length = us.length ∧ (es.toList.map fun e => (e.key, e.val)).Perm ((ks.map fun k => Value.agg #[.int .i64 k.1, .int .i64 k.2]).zip us) ∧
    (∀ (m : Nm) (B0 : Nat), B0 ≤ w.heap.size → (∀ k, w.heap.size ≤ k → k < w'.heap.size → m.F k) → RepVs m B0 w' vs us) ∧ Below w.heap.size w w'
  ids : ∀ p, idsL p vs = true
  enters : ∀ (args : Array Value) (w : World), (callFunc f args).run P w = .ok (.enter f args) w
def mapcOn (c : MapC P) (S : AS) (o : Oper) : Bool := match o.op with
  | .call ⟨.value x, _, _⟩ => match S.ev x with
    | .fn f _ => Nat.beq c.f f
    | _ => false
  | _ => false
def mapcRun (c : MapC P) (S : AS) (o : Oper) (κ : Eff → Option ρ) : Option ρ := match o.op with
  | .call ⟨.value x, args, _⟩ => match S.ev x, args.toList with
    | .fn f [], [] => bif Nat.beq c.f f then κ ⟨.rmap c.ks c.vs, []⟩ else none
    | _, _ => none
  | _ => none
theorem mapc_ok {c : MapC P} {κ : Eff → Option ρ} (h : mapcRun c S o κ = some r) : Sound P w0 N S id0 o κ r := by
  unfold mapcRun at h
  split at h
  · rename_i x args ts ho
    split at h
    · rename_i f hx hy
      have hl : args = #[] := by apply Array.ext'; simpa using hy
      subst hl
      rcases cond_some h with ⟨hb, hh⟩ | ⟨_, h2⟩
      · have e := Nat.eq_of_beq_eq_true hb
        subst e
        refine ⟨_, hh, ?_⟩
        intro S' m a w hl hf hr K Q hK
        have hr0 := hr.le hl
        have h1 := hr0.ev x
        rw [hx] at h1
        generalize hz : a.eval x = z at h1
        cases h1 with | fn h1 =>
        cases h1
        have hrun : (execOp a.eval o).run P w = .ok (.enter c.f #[]) w := by
          have he := c.enters #[] w
          unfold execOp
          simp [ho, resolve, Deferred.ofValue, invoke, hz]
          simpa using he
        unfold Oper.wp
        rw [hrun, Oper.upon_enter]
        refine (c.ok w hr.gk).mono fun en w' hh' => ?_
        obtain ⟨b, es, clock, us, rfl, g1, g2, g3, g4, g5, g6⟩ := hh'
        obtain ⟨k1, k2⟩ := Heap.all_new hr.heap hf g6
        exact hK _ w' _ k1 k2 (.rmap (.inr ⟨g1, (Array.getElem?_eq_some_iff.1 g2).1⟩) (g5 _ _ hr.heap.below.size (fun k h1 h2 => .inr ⟨h1, h2⟩)) g3 g2 g4)
      · cases h2
    · cases h
  · cases h
def hkMapC (c : MapC P) : Hook P := ⟨mapcOn c, fun S id0 o κ => mapcRun c S o κ, fun _ h => mapc_ok h⟩
end
end Go.Proofs.YtaknikdbnfmlfaaDoor.Ex
/- An executor of translated code on abstract states: places in strings, cuts of strings, strings of bytes, '&'. -/
namespace Go.Proofs.YtaknikdbnfmlfaaDoor.Ex
open Go Go.RowKit
set_option linter.unusedVariables false
set_option linter.unusedSimpArgs false
section
variable {P : Program} {w0 : Org} {w : World} {N : Nat} {S : AS} {o : Oper} {ρ : Type} {r : ρ} {id0 : Nat}
/-- A byte of a string. -/
def byteI (s : ByteArray) (n : Int) : Int := ((s.data.toList.getD n.toNat 0).toNat : Int)
def andI (k : IntKind) (a b : Int) : Int := k.wrap ((BitVec.ofInt k.bits a &&& BitVec.ofInt k.bits b).toNat : Int)
def isStr (P : Program) (t : TypeId) : Bool := match P.underlying t with
  | some .string => true
  | _ => false
theorem isStr_ok {t : TypeId} (h : isStr P t = true) : P.underlying t = some .string := by
  unfold isStr at h
  split at h
  · assumption
  · cases h
def strOn (S : AS) (o : Oper) : Bool := match o.op with
  | .index _ x _ => match S.ev x with
    | .v (.string _) => true
    | _ => false
  | .slice _ x _ _ none => match S.ev x with
    | .v (.string _) => true
    | _ => false
  | .convert _ _ x => match S.ev x with
    | .own _ => true
    | .row _ _ _ => true
    | _ => false
  | .binOp .and _ _ _ _ => true
  | _ => false
/-- A row of bytes that may be read. -/
def srcB (S : AS) (x : PV) : Option (List Int) := match srcRow S [.int .u8] x with
  | some (l, _) => some l
  | none => none
def strRun (P : Program) (S : AS) (o : Oper) (κ : PV → Option ρ) : Option ρ := match o.op with
  | .index t x i => match S.ev x, S.ev i with
    | .v (.string s), .v (.int _ n) => bif isStr P t then bif decide (0 ≤ n) && decide (n < (s.size : Int)) then κ (.v (.int .u8 (byteI s n))) else none else none
    | _, _ => none
  | .slice t x lo hi none => match S.ev x, bound (lo.map S.ev), bound (hi.map S.ev) with
    | .v (.string s), some lo, some hi => bif isStr P t then match lo, hi with
        | some a, some b => bif decide (0 ≤ a) && decide (a ≤ b) && decide (b ≤ (s.size : Int)) then κ (.v (.string (s.extract a.toNat b.toNat))) else none
        | some a, none => bif decide (0 ≤ a) && decide (a ≤ (s.size : Int)) then κ (.v (.string (s.extract a.toNat s.size))) else none
        | _, _ => none
      else none
    | _, _, _ => none
  | .convert t u x => match P.underlying t with
    | some (.slice e) => match P.underlying e with
      | some (.int .u8) => bif isStr P u then match srcB S (S.ev x) with
          | some l => bif l.isEmpty then none else κ (.v (.string (strOfNums l)))
          | none => none
        else none
      | _ => none
    | _ => none
  | .binOp .and _ x y _ => match S.ev x, S.ev y with
    | .v (.int k a), .v (.int k' b) => bif decide (k = k') then κ (.v (.int k (andI k a b))) else none
    | _, _ => none
  | _ => none
theorem str_ok {κ : PV → Option ρ} (h : strRun P S o κ = some r) : SoundV P w0 N S o κ r := by
  unfold strRun at h
  split at h
  · rename_i t x i ho
    split at h
    · rename_i s k n hx hi
      rcases cond_some h with ⟨ht, h⟩ | ⟨_, h2⟩
      · rcases cond_some h with ⟨hb, hh⟩ | ⟨_, h2⟩
        · rw [Bool.and_eq_true] at hb
          have e0 := of_decide_eq_true hb.1
          have e1 := of_decide_eq_true hb.2
          refine ⟨_, hh, fun m a w hr => ⟨_, run_of (s := Instr.index t (a.eval x) (a.eval i)) (by unfold execOp; simp only [ho]) ?_, .v⟩⟩
          rw [ev_v hr hx, ev_v hr hi, run_index_string w t s k n (isStr_ok ht), dif_pos ⟨e0, e1⟩]
          have hl : n.toNat < s.data.toList.length := by
            have : s.data.toList.length = s.size := by rw [Array.length_toList]; rfl
            omega
          simp only [byteI, List.getD_eq_getElem?_getD, List.getElem?_eq_getElem hl, Option.getD_some]
          rfl
        · cases h2
      · cases h2
    · cases h
  · rename_i t x lo hi ho
    split at h
    · rename_i s lo' hi' hx hlo hhi
      rcases cond_some h with ⟨ht, h⟩ | ⟨_, h2⟩
      · have hu := isStr_ok ht
        have hsa : ∀ v lo hi w, (Instr.sliceAt t v lo hi none).run P w = (Instr.slice t v lo hi none).run P w := fun v lo hi w => by
          simp only [Instr.sliceAt, Sem.run_bind, run_underlying hu, Result.andThen_ok]
        have hrun : ∀ a : Act, ∀ v w, (Instr.slice t (a.eval x) (lo.map a.eval) (hi.map a.eval) none).run P w = .ok v w → (execOp a.eval o).run P w = .ok (.value v) w := fun a v w hv =>
          run_of (s := Instr.sliceAt t (a.eval x) (lo.map a.eval) (hi.map a.eval) none) (by unfold execOp; simp only [ho, Option.map_none]) (by rw [hsa]; exact hv)
        split at h
        · rename_i al b hq
          rcases cond_some h with ⟨hb, hh⟩ | ⟨_, h2⟩
          · simp only [Bool.and_eq_true, decide_eq_true_eq] at hb
            refine ⟨_, hh, fun m a w hr => ?_⟩
            obtain ⟨k1, b1⟩ := bound_ok hr hlo
            obtain ⟨k2, b2⟩ := bound_ok hr hhi
            refine ⟨_, hrun a _ w ?_, .v⟩
            rw [ev_v hr hx, b1, b2]
            exact run_slice_string w t s k1 k2 al b hu hb.1.1 hb.1.2 hb.2
          · cases h2
        · rename_i al hq
          rcases cond_some h with ⟨hb, hh⟩ | ⟨_, h2⟩
          · simp only [Bool.and_eq_true, decide_eq_true_eq] at hb
            refine ⟨_, hh, fun m a w hr => ?_⟩
            obtain ⟨k1, b1⟩ := bound_ok hr hlo
            obtain ⟨k2, b2⟩ := bound_ok hr hhi
            refine ⟨_, hrun a _ w ?_, .v⟩
            rw [ev_v hr hx, b1, b2]
            have := run_slice_string_from_if (P := P) w t s k1 al hu
            simp only [Option.map_some, Option.map_none]
            rw [this, if_pos ⟨by omega, by omega⟩]
          · cases h2
        · cases h
      · cases h2
    · cases h
  · rename_i t u x ho
    split at h
    · rename_i e hu
      split at h
      · rename_i he
        rcases cond_some h with ⟨hd, h⟩ | ⟨_, h2⟩
        · split at h
          · rename_i l hl
            rcases cond_some h with ⟨_, h2⟩ | ⟨hne, hh⟩
            · cases h2
            · refine ⟨_, hh, fun m a w hr => ⟨_, run_of (s := convert t u (a.eval x)) (by unfold execOp; simp only [ho]) ?_, .v⟩⟩
              unfold srcB at hl
              split at hl
              · rename_i l' f hs
                cases hl
                have h3 := src_is hr hs (hr.ev x)
                simp only [SKIs] at h3
                obtain ⟨A, c, hv, hc, hrow⟩ := h3
                rw [hv]
                have hlen : 0 < l.length := by cases l with | nil => cases hne | cons _ _ => simp
                obtain ⟨b, of, cs, rfl, hok, hcl, hca, ht⟩ := hrow 0 l[0] (List.getElem?_eq_getElem hlen)
                refine run_convert_bytes_arg w t e hu he b of l.length c l rfl (fun i hi => ?_) u (isStr_ok hd)
                obtain ⟨b', of', cs', hA, _, hcl', hca', ht'⟩ := hrow i l[i] (List.getElem?_eq_getElem hi)
                cases hA
                simp only [TupIs, SKIs] at ht'
                obtain ⟨q, rfl, rfl⟩ := ht'
                have := hca' 0 _ rfl
                rw [List.getD_eq_getElem?_getD, List.getElem?_eq_getElem hi, Option.getD_some]
                simpa using this
              · cases hl
          · cases h
        · cases h2
      · cases h
    · cases h
  · rename_i t x y yt ho
    split at h
    · rename_i k a0 k' b0 hx hy
      rcases cond_some h with ⟨hk, hh⟩ | ⟨_, h2⟩
      · have := of_decide_eq_true hk
        subst this
        refine ⟨_, hh, fun m a w hr => ⟨_, run_bin ho (ev_v hr hx) (ev_v hr hy) guard_int ?_, .v⟩⟩
        simp [binOp, Op.intBits, andI]
      · cases h2
    · cases h
  · cases h
def hkStr (P : Program) : Hook P := ⟨strOn, fun S id0 o κ => strRun P S o fun p => κ ⟨p, []⟩, fun _ h => (str_ok h).sound⟩
end
end Go.Proofs.YtaknikdbnfmlfaaDoor.Ex
