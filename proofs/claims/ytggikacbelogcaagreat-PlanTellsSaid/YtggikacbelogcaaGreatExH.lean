/- An executor of translated code on abstract states, eighth part: stores, places in rows, cuts. -/
import Derived.Test.YtggikacbelogcaaGreatExG
import Derived.Laws.IdiomCopy
import Derived.Laws.Slices
namespace Go.Proofs.YtggikacbelogcaaGreat.Ex
open Go Go.RowKit
set_option linter.unusedVariables false
set_option linter.unusedSimpArgs false
/-! ### cells set -/
def setFrom (cs : Array Value) : Nat → List Value → Array Value
  | _, [] => cs
  | o, v :: r => setFrom (cs.setIfInBounds o v) (o + 1) r
theorem setFrom_toList : ∀ (vs : List Value) (o : Nat) (cs : Array Value), o + vs.length ≤ cs.toList.length → (setFrom cs o vs).toList = cs.toList.take o ++ (vs ++ cs.toList.drop (o + vs.length))
  | [], o, cs, h => by simp [setFrom]
  | v :: r, o, cs, h => by
    simp only [List.length_cons] at h
    rw [setFrom, setFrom_toList r (o + 1) _ (by rw [Array.toList_setIfInBounds, List.length_set]; omega), Array.toList_setIfInBounds, set_take _ _ _ (by omega), List.drop_set_of_lt (by omega)]
    simp only [List.append_assoc, List.length_cons, List.cons_append, List.nil_append]
    congr 4
    omega
theorem heap_setCell {w : World} {b o : Nat} {cs : Array Value} {T : TypeId} {v : Value} (h : w.heap[b]? = some (.cells cs T (0, 0))) : (w.setCell ⟨b, o, none⟩ v).heap[b]? = some (.cells (cs.setIfInBounds o v) T (0, 0)) := by
  have hlt := (Array.getElem?_eq_some_iff.1 h).1
  have hv := (Array.getElem?_eq_some_iff.1 h).2
  simp only [World.setCell]
  rw [Array.getElem?_eq_getElem (by simpa using hlt), Array.getElem_modify]
  simp [hv]
theorem heap_setCells {b : Nat} {T : TypeId} : ∀ (vs : List Value) (o : Nat) (w : World) (cs : Array Value), w.heap[b]? = some (.cells cs T (0, 0)) → (w.setCells b o vs).heap[b]? = some (.cells (setFrom cs o vs) T (0, 0))
  | [], _, _, _, h => h
  | v :: r, o, w, cs, h => heap_setCells r (o + 1) _ _ (heap_setCell h)
theorem heap_setCells_other {b i : Nat} (hi : i ≠ b) : ∀ (vs : List Value) (o : Nat) (w : World), (w.setCells b o vs).heap[i]? = w.heap[i]?
  | [], _, _ => rfl
  | v :: r, o, w => (heap_setCells_other hi r (o + 1) _).trans (Below.heap_setCell _ _ _ _ hi)
theorem size_setCells {b : Nat} : ∀ (vs : List Value) (o : Nat) (w : World), (w.setCells b o vs).heap.size = w.heap.size
  | [], _, _ => rfl
  | v :: r, o, w => (size_setCells r (o + 1) _).trans (by simp [World.setCell])
theorem below_setCells {b B : Nat} (hB : B ≤ b) : ∀ (vs : List Value) (o : Nat) (w : World), Below B w (w.setCells b o vs)
  | [], _, w => Below.refl _ _
  | v :: r, o, w => ((Below.refl B w).setCell (p := ⟨b, o, none⟩) hB v).trans (below_setCells hB r (o + 1) _)
theorem blk_cell {w : World} {b i : Nat} {cs : Array Value} {T : TypeId} (h : w.heap[b]? = some (.cells cs T (0, 0))) : w.cell? ⟨b, i, none⟩ = cs[i]? := by simp [World.cell?, h]
theorem blk_frozen {w : World} {b i : Nat} {cs : Array Value} {T : TypeId} (h : w.heap[b]? = some (.cells cs T (0, 0))) : w.frozen? ⟨b, i, none⟩ = false := by simp [World.frozen?, h]
theorem run_store {P : Program} {w : World} {b o : Nat} {t T : TypeId} {cs : Array Value} {v : Value} (h : w.heap[b]? = some (.cells cs T (0, 0))) (hs : sizeB P t = some v.cells.size) (hle : o + v.cells.size ≤ cs.size) (h1 : ∀ u ∈ v.cells.toList, u.oneCell' = true) :
    (Instr.storeAt t (.pointer (some ⟨b, o, none⟩)) v).run P w = .ok () (w.setCells b o v.cells.toList) := by
  have := run_storeCells_cells (P := P) b o v.cells.toList 0 w (fun j hj => by rw [blk_cell h, Array.getElem?_eq_getElem (by simp at hj; omega)]; rfl) (fun j hj => blk_frozen h) h1
  simp only [Nat.add_zero] at this
  simp only [Instr.storeAt, Instr.sureAddr, storeVar, Sem.run_bind, Sem.run_pure, Result.andThen_ok, sizeB_ok hs]
  simp [this]
/-- Cells of an abstract block set. -/
def setPV (cs : List PV) (off : Nat) (vs : List PV) : List PV := cs.take off ++ (vs ++ cs.drop (off + vs.length))
theorem all_one {m : Nm} {B0 : Nat} {w : World} : ∀ {ps : List PV} {vs : List Value}, RepVs m B0 w ps vs → ps.all PV.one = true → ∀ u ∈ vs, u.oneCell' = true
  | [], _, .nil, _, u, hu => by cases hu
  | p :: ps, _, .cons h hs, ha, u, hu => by
    simp only [List.all_cons, Bool.and_eq_true] at ha
    rcases List.mem_cons.1 hu with rfl | hu
    · exact PV.one_ok h ha.1
    · exact all_one hs ha.2 u hu
/-! ### data made of cells -/
section
def flatK : SK → Bool
  | .row _ => false
  | .ptr _ => false
  | _ => true
/-- A cell's value as data; whether it leads to what is fresh alone. -/
def unK (S : AS) : (k : SK) → PV → Option (k.ty × Bool × List Nat)
  | .int k, x => match x with
    | .v (.int k' n) => bif decide (k = k') then some (n, true, []) else none
    | _ => none
  | .bool, x => match x with
    | .v (.bool b) => some (b, true, [])
    | _ => none
  | .str, x => match x with
    | .v (.string s) => some (s, true, [])
    | _ => none
  | .row s, x => match x with
    | .row fr s' l => match asRows s' s l with
      | some l' => some (l', fr, [])
      | none => none
    | .own i => match S.σ i with
      | .own fr T s' l => match asRows s' s l with
        | some l' => some (l', fr, [i])
        | none => none
      | _ => none
    | .v (.slice none 0 _) => some ([], true, [])
    | _ => none
  | .ptr _, _ => none
  | .adr, x => match x with
    | .v (.pointer (some a)) => match a with
      | ⟨b, o, none⟩ => some ((b, o), true, [])
      | _ => none
    | _ => none
  | .fnc f, x => match x with
    | .fn g caps => bif Nat.beq f g && caps.isEmpty then some ((), true, []) else none
    | _ => none
def unT (S : AS) : (s : List SK) → List PV → Option (Tup s × Bool × List Nat)
  | [] => fun cs => match cs with
    | [] => some ((), true, [])
    | _ => none
  | k :: r => match r with
    | [] => fun cs => match cs with
      | [c] => unK S k c
      | _ => none
    | k' :: r' => fun cs => match cs with
      | c :: cs => match unK S k c, unT S (k' :: r') cs with
        | some (x, f, i), some (y, g, j) => some ((x, y), f && g, i ++ j)
        | _, _ => none
      | [] => none
end
/-- What holds of data made so: its rows are fresh, if told; the rows named are let go of. -/
def frz (m : Nm) (l : List Nat) : Nat → Prop := fun k => m.F k ∨ ∃ i ∈ l, (m.v i).ownBlock = some k
theorem frz_stays {m : Nm} {w : World} {B0 : Nat} {fr : Bool} (l : List Nat) : Stays (okOf m B0 fr) (okOf ⟨m.v, m.b, frz m l⟩ B0 fr) w w := fun b hb => ⟨⟨.inl hb.1, hb.2⟩, rfl⟩
theorem frz_app {m : Nm} {w : World} {B0 : Nat} {fr : Bool} (l l' l2 : List Nat) (hl : ∀ i ∈ l, i ∈ l2) : Stays (okOf ⟨m.v, m.b, frz m l⟩ B0 fr) (okOf ⟨m.v, m.b, frz m l2⟩ B0 fr) w w := fun b hb => ⟨⟨hb.1.imp id (fun ⟨i, hi, h⟩ => ⟨i, hl i hi, h⟩), hb.2⟩, rfl⟩
theorem okOf_weak {m : Nm} {w : World} {B0 : Nat} {f g : Bool} (h : g = true → f = true) : Stays (okOf m B0 f) (okOf m B0 g) w w := fun b hb => ⟨⟨hb.1, fun hg => hb.2 (h hg)⟩, rfl⟩
/-- A row of the call's own as data. -/
theorem own_is {B0 : Nat} {w : World} {T : TypeId} {s : List SK} {l : List (Tup s)} {xs : List Value} {v : Value} {ok : Nat → Prop} (h : w.ownsRow B0 T s.length v l.length xs) (hR : RowsIs ok w s l xs) (hk : ∀ k, v.ownBlock = some k → ok k) : SKIs ok w (.row s) l v := by
  simp only [SKIs]
  rcases h.2 with ⟨rfl, h2⟩ | ⟨g, cap, cur, rfl, hb, hg, hle, rest⟩
  · refine ⟨none, 0, by rw [h2], by rw [h2]; exact Nat.le_refl _, fun i x hx => ?_⟩
    have : i < l.length := (List.getElem?_eq_some_iff.1 hx).1
    omega
  · refine ⟨some ⟨g, 0, none⟩, cap, rfl, hle, fun i x hx => ?_⟩
    have hi : i < l.length := (List.getElem?_eq_some_iff.1 hx).1
    obtain ⟨_, hc, ht⟩ := own_cells (j := i) h hR rfl hi
    refine ⟨g, 0, _, rfl, hk g rfl, TupIs.len ht, by rw [Nat.zero_add]; exact hc, ?_⟩
    have hx' : l.getD i (zT s) = x := by rw [List.getD_eq_getElem?_getD, hx]; rfl
    rw [hx'] at ht
    exact ht
theorem unK_ok {w0 : Org} {N : Nat} {m : Nm} {S : AS} {a : Act} {w : World} (hr : Rep w0 N m S a w) {k : SK} {x : PV} {v : Value} {y : k.ty} {f : Bool} {l : List Nat} (h : unK S k x = some (y, f, l)) (hx : RepV m w0.heap.size w x v) : SKIs (okOf ⟨m.v, m.b, frz m l⟩ w0.heap.size f) w k y v := by
  cases k with
  | int k =>
    simp only [unK] at h
    split at h
    · rename_i k' n
      rcases cond_some h with ⟨h1, h2⟩ | ⟨_, h2⟩
      · cases h2; cases hx
        have := of_decide_eq_true h1
        subst this
        simp only [SKIs]
      · cases h2
    · cases h
  | bool =>
    simp only [unK] at h
    split at h
    · cases h; cases hx; simp only [SKIs]
    · cases h
  | str =>
    simp only [unK] at h
    split at h
    · cases h; cases hx; simp only [SKIs]
    · cases h
  | adr =>
    simp only [unK] at h
    split at h
    · split at h
      · cases h; cases hx; simp only [SKIs]
      · cases h
    · cases h
  | fnc f =>
    simp only [unK] at h
    split at h
    · rename_i g caps
      rcases cond_some h with ⟨h1, h2⟩ | ⟨_, h2⟩
      · cases h2
        rw [Bool.and_eq_true] at h1
        have e := Nat.eq_of_beq_eq_true h1.1
        subst e
        have : caps = [] := by simpa using h1.2
        subst this
        cases hx with | fn hx =>
        cases hx
        simp only [SKIs]
      · cases h2
    · cases h
  | row s =>
    simp only [unK] at h
    split at h
    · rename_i fr s' l'
      split at h
      · rename_i l2 hl
        cases h
        obtain ⟨rfl, rfl⟩ := asRows_some hl
        cases hx with | row hx =>
        exact SKIs.move (frz_stays []) hx
      · cases h
    · rename_i i
      split at h
      · rename_i fr T s' l' hσ
        split at h
        · rename_i l2 hl
          cases h
          obtain ⟨rfl, rfl⟩ := asRows_some hl
          cases hx with | own hx =>
          have hb := hr.heap.blk i
          rw [hσ] at hb
          obtain ⟨xs, h1, h2, h3⟩ := hb
          rw [← hx]
          refine own_is h1 (RowsIs.move (frz_stays [i]) h2) (fun k hk => ⟨.inr ⟨i, by simp, hk⟩, fun _ => (h1.lt k hk).1⟩)
        · cases h
      · cases h
    · cases h
      cases hx
      simp only [SKIs]
      exact ⟨none, _, rfl, Nat.zero_le _, fun i x hx => by simp at hx⟩
    · cases h
  | ptr s => simp [unK] at h
theorem unT_ok {w0 : Org} {N : Nat} {m : Nm} {S : AS} {a : Act} {w : World} (hr : Rep w0 N m S a w) : ∀ {s : List SK} {cs : List PV} {vs : List Value} {y : Tup s} {f : Bool} {l : List Nat}, unT S s cs = some (y, f, l) → RepVs m w0.heap.size w cs vs → TupIs (okOf ⟨m.v, m.b, frz m l⟩ w0.heap.size f) w s y vs
  | [], cs, vs, y, f, l, h, hx => by
    simp only [unT] at h
    split at h
    · cases hx; simp only [TupIs]
    · cases h
  | [k], cs, vs, y, f, l, h, hx => by
    match cs, h, hx with
    | [], h, _ => simp only [unT] at h; exact absurd h (by simp)
    | [c], h, .cons hx .nil => simp only [unT] at h; simp only [TupIs]; exact ⟨_, rfl, unK_ok hr h hx⟩
    | _ :: _ :: _, h, _ => simp only [unT] at h; exact absurd h (by simp)
  | k :: k' :: r, cs, vs, y, f, l, h, hx => by
    simp only [unT] at h
    split at h
    · rename_i c cs
      split at h
      · rename_i x1 f1 i1 y1 g1 j1 h1 h2
        cases h
        cases hx with | cons hx hs =>
        simp only [TupIs]
        refine ⟨_, _, rfl, SKIs.move (fun b hb => ?_) (unK_ok hr h1 hx), TupIs.move (fun b hb => ?_) (unT_ok hr h2 hs)⟩
        · exact ⟨⟨hb.1.imp id (fun ⟨i, hi, h⟩ => ⟨i, List.mem_append_left _ hi, h⟩), fun hfg => hb.2 (by simp at hfg; exact hfg.1)⟩, rfl⟩
        · exact ⟨⟨hb.1.imp id (fun ⟨i, hi, h⟩ => ⟨i, List.mem_append_right _ hi, h⟩), fun hfg => hb.2 (by simp at hfg; exact hfg.2)⟩, rfl⟩
      · cases h
    · cases h
end Go.Proofs.YtggikacbelogcaaGreat.Ex
