/- An executor of translated code on abstract states, seventh part: new blocks, stores, places in rows, cuts. -/
import Derived.Test.YtggikacbelogcaaGreatExF
namespace Go.Proofs.YtggikacbelogcaaGreat.Ex
open Go Go.RowKit
set_option linter.unusedVariables false
set_option linter.unusedSimpArgs false
theorem own_move' {w w1 : World} {base : Nat} {e : TypeId} {size n : Nat} {v : Value} {xs : List Value} (h : w.ownsRow base e size v n xs) (hm : ∀ k, v.ownBlock = some k → w1.heap[k]? = w.heap[k]?) : w1.ownsRow base e size v n xs := by
  obtain ⟨h1, h2⟩ := h
  refine ⟨h1, ?_⟩
  rcases h2 with h2 | ⟨g, cap, cur, rfl, hg, hh, r⟩
  · exact .inl h2
  · exact .inr ⟨g, cap, cur, rfl, hg, (hm g (by simp [Value.ownBlock])).trans hh, r⟩
theorem RowsIs.move {ok ok' : Nat → Prop} {w w' : World} {s : List SK} {l : List (Tup s)} {xs : List Value} (hs : Stays ok ok' w w') (h : RowsIs ok w s l xs) : RowsIs ok' w' s l xs := fun i x hx => TupIs.move hs (h i x hx)
/-- A block that stands. -/
theorem BlkIs.move {p : Nat → Bool} {m m' : Nm} {B0 : Nat} {w w' : World} {i : Nat} {b : ABlk} (hg : Grows p m m' w w') (hi : b.ids p = true) (hp : b = .no ∨ p i = true) (hk : ∀ k, blkOf m i b = some k → w'.heap[k]? = w.heap[k]? ∧ ¬ m'.F k) (h : BlkIs m B0 w i b) : BlkIs m' B0 w' i b := by
  cases b with
  | no => trivial
  | box T cs =>
    obtain ⟨h1, h2, vs, h3, h4⟩ := h
    have hpi : p i = true := hp.resolve_left (by simp)
    have hk' := hk _ rfl
    simp only [BlkIs]
    rw [hg.b i hpi]
    exact ⟨h1, hk'.2, vs, RepVs.move hg h3 hi, hk'.1.trans h4⟩
  | own fr T s l =>
    obtain ⟨xs, h1, h2, h3⟩ := h
    have hpi : p i = true := hp.resolve_left (by simp)
    simp only [BlkIs]
    rw [hg.v i hpi]
    exact ⟨xs, own_move' h1 (fun k hq => (hk k hq).1), RowsIs.move (hg.ok _ _) h2, fun k hq => (hk k hq).2⟩
  | mset l =>
    obtain ⟨h1, h2, es, cl, h3, h4⟩ := h
    have hpi : p i = true := hp.resolve_left (by simp)
    have hk' := hk _ rfl
    simp only [BlkIs]
    rw [hg.b i hpi]
    exact ⟨h1, hk'.2, es, cl, hk'.1.trans h3, h4⟩
theorem blkOf.same {p : Nat → Bool} {m m' : Nm} {w w' : World} {i : Nat} {b : ABlk} (hg : Grows p m m' w w') (hp : b = .no ∨ p i = true) : blkOf m' i b = blkOf m i b := by
  cases b with
  | no => rfl
  | box T cs => simp only [blkOf]; rw [hg.b i (hp.resolve_left (by simp))]
  | mset l => simp only [blkOf]; rw [hg.b i (hp.resolve_left (by simp))]
  | own fr T s l => simp only [blkOf]; rw [hg.v i (hp.resolve_left (by simp))]
theorem blk_lt {w0 : Org} {w : World} {m : Nm} {σ : Nat → ABlk} (h : Heap w0 m σ w) {i k : Nat} (hk : blkOf m i (σ i) = some k) : k < w.heap.size ∧ ¬ m.F k ∧ w0.heap.size ≤ k := by
  have hb := h.blk i
  cases hσ : σ i with
  | no => rw [hσ] at hk; cases hk
  | box T cs =>
    rw [hσ] at hk hb
    cases hk
    obtain ⟨h1, h2, vs, h3, h4⟩ := hb
    exact ⟨(Array.getElem?_eq_some_iff.1 h4).1, h2, h1⟩
  | mset l =>
    rw [hσ] at hk hb
    cases hk
    obtain ⟨h1, h2, es, cl, h3, h4⟩ := hb
    exact ⟨(Array.getElem?_eq_some_iff.1 h3).1, h2, h1⟩
  | own fr T s l =>
    rw [hσ] at hk hb
    obtain ⟨xs, h1, h2, h3⟩ := hb
    have := h1.lt k hk
    exact ⟨this.2, h3 k hk, this.1⟩
/-- The blocks behind a step: those that U names anew are told; all others stand. -/
theorem Heap.step {w0 : Org} {w w' : World} {m m' : Nm} {σ σ' : Nat → ABlk} {p : Nat → Bool} (U : Nat → Prop) (h : Heap w0 m σ w) (hg : Grows p m m' w w') (hids : ∀ i, (σ i).ids p = true) (hp : ∀ i, ¬ U i → σ' i = σ i ∧ (σ i = .no ∨ p i = true))
    (hst : ∀ i k, ¬ U i → blkOf m i (σ i) = some k → w'.heap[k]? = w.heap[k]? ∧ ¬ m'.F k) (hU : ∀ i, U i → BlkIs m' w0.heap.size w' i (σ' i))
    (hap : ∀ i j k, i ≠ j → U i → blkOf m' i (σ' i) = some k → blkOf m' j (σ' j) = some k → False) (hF : ∀ k, m'.F k → k < w'.heap.size) (hb : Below w0.heap.size w0.toWorld w') : Heap w0 m' σ' w' := by
  refine ⟨fun i => ?_, fun i j k hij hi hj => ?_, hF, hb, fun k ob hk => ⟨(hg.F k (h.kept k ob hk).1).1, (hg.F k (h.kept k ob hk).1).2.trans (h.kept k ob hk).2⟩⟩
  · by_cases hu : U i
    · exact hU i hu
    · obtain ⟨h1, h2⟩ := hp i hu
      rw [h1]
      exact BlkIs.move hg (hids i) h2 (fun k hk => hst i k hu hk) (h.blk i)
  · by_cases hui : U i
    · exact hap i j k hij hui hi hj
    · by_cases huj : U j
      · exact hap j i k (Ne.symm hij) huj hj hi
      · obtain ⟨h1, h2⟩ := hp i hui
        obtain ⟨h3, h4⟩ := hp j huj
        rw [h1, blkOf.same hg h2] at hi
        rw [h3, blkOf.same hg h4] at hj
        exact h.apart i j k hij hi hj
theorem Fresh.p {id0 : Nat} {s : AS} (h : Fresh id0 s) (i : Nat) : s.σ i = .no ∨ old id0 i = true := by
  cases ho : old id0 i with
  | true => exact .inr rfl
  | false => exact .inl (h.no i ho)
theorem old_new {id0 k : Nat} (hk : k < 8) : old id0 (id0 + k) = false := by
  unfold old
  have h1 : Nat.blt (id0 + k) id0 = false := by
    cases h : Nat.blt (id0 + k) id0 with
    | false => rfl
    | true => have := Nat.le_of_ble_eq_true h; omega
  have h2 : Nat.ble (id0 + 8) (id0 + k) = false := by
    cases h : Nat.ble (id0 + 8) (id0 + k) with
    | false => rfl
    | true => have := Nat.le_of_ble_eq_true h; omega
  rw [h1, h2]; rfl
theorem old_ne {id0 k i : Nat} (hk : k < 8) (h : old id0 i = true) : i ≠ id0 + k := fun e => by
  rw [e, old_new hk] at h
  cases h
theorem updσ_one (σ : Nat → ABlk) (i : Nat) (b : ABlk) (j : Nat) : updσ σ [(i, b)] j = if j = i then b else σ j := by
  show (bif Nat.beq j i then b else σ j) = _
  by_cases h : j = i
  · subst h; simp
  · have hb : Nat.beq j i = false := by
      cases hq : Nat.beq j i with
      | true => exact absurd (Nat.eq_of_beq_eq_true hq) h
      | false => rfl
    simp [hb, h]
def setAt {α : Type} (f : Nat → α) (i : Nat) (x : α) : Nat → α := fun j => if j = i then x else f j
theorem setAt_self {α : Type} (f : Nat → α) (i : Nat) (x : α) : setAt f i x i = x := by simp [setAt]
theorem setAt_ne {α : Type} {f : Nat → α} {i j : Nat} {x : α} (h : j ≠ i) : setAt f i x j = f j := by simp [setAt, h]
/-- A new box. -/
theorem Heap.newbox {w0 : Org} {w : World} {m : Nm} {s : AS} {id0 : Nat} {T : TypeId} {cs : List PV} {vs : List Value} (h : Heap w0 m s.σ w) (hf : Fresh id0 s) (hr : RepVs m w0.heap.size w cs vs) (hi : idsL (old id0) cs = true) :
    ∃ m', Grows (old id0) m m' w (w.alloc (.cells vs.toArray T)) ∧ Heap w0 m' (updσ s.σ [(id0, .box T cs)]) (w.alloc (.cells vs.toArray T)) ∧ m'.b id0 = w.heap.size := by
  let m' : Nm := ⟨m.v, setAt m.b id0 w.heap.size, m.F⟩
  have hg : Grows (old id0) m m' w (w.alloc (.cells vs.toArray T)) := ⟨fun _ _ => rfl, fun i hi => setAt_ne (old_ne (k := 0) (by decide) hi), fun b hb => ⟨hb, Below.heap_alloc w _ b (h.flt b hb)⟩⟩
  refine ⟨m', hg, ?_, setAt_self _ _ _⟩
  have hb0 : w0.heap.size ≤ w.heap.size := h.below.size
  refine Heap.step (fun i => i = id0) h hg hf.σ (fun i hi => ⟨by rw [updσ_one, if_neg hi], hf.p i⟩) (fun i k hi hk => ⟨Below.heap_alloc w _ k (blk_lt h hk).1, (blk_lt h hk).2.1⟩) (fun i hi' => ?_) (fun i j k hij hi' h1 h2 => ?_) (fun k hk => Nat.lt_of_lt_of_le (h.flt k hk) (by simp)) (h.below.alloc hb0 _)
  · subst hi'
    rw [updσ_one, if_pos rfl]
    refine ⟨by show w0.heap.size ≤ setAt m.b i w.heap.size i; rw [setAt_self]; exact hb0, by show ¬ m.F (setAt m.b i w.heap.size i); rw [setAt_self]; exact fun hh => absurd (h.flt _ hh) (by omega), vs, RepVs.move hg hr hi, ?_⟩
    show (w.alloc _).heap[setAt m.b i w.heap.size i]? = _
    rw [setAt_self]
    exact Array.getElem?_push_size
  · subst hi'
    rw [updσ_one, if_pos rfl] at h1
    have h1' : w.heap.size = k := by
      have : setAt m.b i w.heap.size i = k := Option.some.inj h1
      rwa [setAt_self] at this
    rw [updσ_one, if_neg (Ne.symm hij)] at h2
    have h3 : blkOf m' j (s.σ j) = blkOf m j (s.σ j) := blkOf.same hg (hf.p j)
    rw [h3] at h2
    have := (blk_lt h h2).1
    omega
section
variable {P : Program} {w0 : Org} {w : World} {N : Nat} {S : AS} {o : Oper} {ρ : Type} {r : ρ} {id0 : Nat}
def opNew (id0 : Nat) (T : TypeId) (cs : List PV) (κ : Eff → Option ρ) : Option ρ := bif idsL (old id0) cs then κ ⟨.ptr id0 0, [(id0, .box T cs)]⟩ else none
theorem new_ok {T : TypeId} {cs : List PV} {κ : Eff → Option ρ} (h : opNew id0 T cs κ = some r) (hrun : ∀ m a w, Rep w0 N m S a w → ∃ vs : List Value, RepVs m w0.heap.size w cs vs ∧ (execOp a.eval o).run P w = .ok (.value (.pointer (some ⟨w.heap.size, 0, none⟩))) (w.alloc (.cells vs.toArray T))) : Sound P w0 N S id0 o κ r := by
  unfold opNew at h
  rcases cond_some h with ⟨hi, h⟩ | ⟨_, h2⟩
  · refine ⟨_, h, ?_⟩
    intro S' m a w hl hf hr K Q hK
    obtain ⟨vs, hvs, hrun⟩ := hrun m a w (hr.le hl)
    obtain ⟨m', hg, hh, hb⟩ := Heap.newbox (T := T) hr.heap hf hvs hi
    unfold Oper.wp
    rw [hrun, Oper.upon_value]
    refine hK m' _ _ hg hh ?_
    have : (⟨w.heap.size, 0, none⟩ : Addr) = ⟨m'.b id0, 0, none⟩ := by rw [hb]
    rw [this]
    exact .ptr
  · cases h2
def opAlloc (P : Program) (id0 : Nat) (T : TypeId) (κ : Eff → Option ρ) : Option ρ := match zeroB P T with
  | some z => opNew id0 T (z.cells.toList.map .v) κ
  | none => none
theorem alloc_ok {T : TypeId} {κ : Eff → Option ρ} (ho : o.op = .alloc T) (h : opAlloc P id0 T κ = some r) : Sound P w0 N S id0 o κ r := by
  unfold opAlloc at h
  split at h
  · rename_i z hz
    refine new_ok h (fun m a w hr => ⟨z.cells.toList, RepVs.exact _, ?_⟩)
    refine (run_of_w (s := Instr.alloc T true (.tuple #[])) (by unfold execOp; simp only [ho]) ?_)
    simp only [Instr.alloc, Sem.run_bind, zeroB_ok hz, Result.andThen_ok]
    rfl
  · cases h
def opBox (S : AS) (id0 : Nat) (T : TypeId) (x : PV) (κ : Eff → Option ρ) : Option ρ := match x.cells with
  | some cs => opNew id0 T cs κ
  | none => none
theorem box_ok {T : TypeId} {x : Operand} {κ : Eff → Option ρ} (ho : o.op = .box T x) (h : opBox S id0 T (S.ev x) κ = some r) : Sound P w0 N S id0 o κ r := by
  unfold opBox at h
  split at h
  · rename_i cs hc
    refine new_ok h (fun m a w hr => ⟨(a.eval x).cells.toList, PV.cells_ok (hr.ev x) hc, ?_⟩)
    unfold execOp
    simp only [ho]
    rfl
  · cases h
end
end Go.Proofs.YtggikacbelogcaaGreat.Ex
