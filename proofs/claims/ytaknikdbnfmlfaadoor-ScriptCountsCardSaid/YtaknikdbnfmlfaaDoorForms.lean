/- direct.forms: the map of the six looks, filled in whatever order; what its function values hand back. -/
import Derived.Test.YtaknikdbnfmlfaaDoorG1
import Derived.Orders
import Derived.Maps.RangeRun
import Derived.WalkKit
namespace Go.Proofs.YtaknikdbnfmlfaaDoor.Ex
open Go Go.RowKit
set_option linter.unusedVariables false
set_option linter.unusedSimpArgs false
section
variable {P : Program} {ops : Array Oper} {Q : Exit → Act → World → Prop} {md : Region.Mode}
def cntF : List Bool → Nat
  | [] => 0
  | b :: r => (if b then 0 else 1) + cntF r
theorem cntF_set : ∀ {L : List Bool} {i : Nat}, L[i]? = some false → cntF (L.set i true) + 1 = cntF L
  | [], i, h => by simp at h
  | b :: r, 0, h => by simp at h; subst h; simp [cntF]; omega
  | b :: r, i + 1, h => by
    have := cntF_set (L := r) (i := i) (by simpa using h)
    simp only [List.set_cons_succ, cntF]
    omega
theorem cntF_zero : ∀ {L : List Bool}, cntF L = 0 → L = List.replicate L.length true
  | [], _ => rfl
  | b :: r, h => by
    simp only [cntF] at h
    cases b with
    | true => rw [cntF_zero (L := r) (by simpa using h)]; simp [List.replicate_succ]
    | false => simp at h
theorem cntF_pos : ∀ {L : List Bool}, 0 < cntF L → ∃ i : Nat, L[i]? = some false ∧ ∀ j, j < i → L[j]? = some true
  | [], h => by simp [cntF] at h
  | b :: r, h => by
    cases b with
    | false => exact ⟨0, rfl, fun j hj => by omega⟩
    | true =>
      obtain ⟨i, h1, h2⟩ := cntF_pos (L := r) (by simpa [cntF] using h)
      refine ⟨i + 1, by simpa using h1, fun j hj => ?_⟩
      cases j with
      | zero => rfl
      | succ j => simpa using h2 j (by omega)
def acL (md : Region.Mode) : Nat → List Oper → Bool
  | _, [] => true
  | i, o :: r => (match o.guard with | none => true | some _ => false) && (o.after.toList.all (fun e => !Region.binds md e || Nat.blt e.on i) && acL md (i + 1) r)
theorem acL_ok : ∀ {l : List Oper} {i j : Nat} {o : Oper}, acL md i l = true → l[j]? = some o → o.guard = none ∧ ∀ e ∈ o.after, Region.binds md e = true → e.on < i + j
  | [], i, j, o, _, h => by simp at h
  | x :: r, i, j, o, h, hj => by
    simp only [acL, Bool.and_eq_true] at h
    cases j with
    | zero =>
      simp at hj
      subst hj
      have hg : x.guard = none := by
        cases hg : x.guard with
        | none => rfl
        | some q => rw [hg] at h; cases h.1
      refine ⟨hg, fun e he hb => ?_⟩
      have := List.all_eq_true.1 h.2.1 e (by simpa using he)
      rw [hb] at this
      have : Nat.blt e.on i = true := by simpa using this
      exact Nat.le_of_ble_eq_true this
    | succ j =>
      have := acL_ok h.2.2 (by simpa using hj)
      rwa [show i + 1 + j = i + (j + 1) by omega] at this
theorem acB_ok (h : acL md 0 ops.toList = true) : ∀ (i : Nat) o, ops[i]? = some o → o.guard = none ∧ ∀ e ∈ o.after, Region.binds md e = true → e.on < i := fun i o ho => by
  have := acL_ok h (j := i) (o := o) (by simpa using ho)
  rwa [Nat.zero_add] at this
/-- A region of open order, by what holds at each point of it. -/
theorem any_inv (I : List Bool → Act → World → Prop) (hac : ∀ (i : Nat) o, ops[i]? = some o → o.guard = none ∧ ∀ e ∈ o.after, Region.binds md e = true → e.on < i)
    (hstep : ∀ (L : List Bool) a w (i : Nat) o, L.length = ops.size → ops[i]? = some o → L[i]? = some false → (∀ e ∈ o.after, Region.binds md e = true → L[e.on]? = some true) → I L a w → o.wp P a w (fun a' w' => I (L.set i true) a' w') Q)
    (hend : ∀ a w, I (List.replicate ops.size true) a w → Q .normal a w) : ∀ (fuel : Nat) (L : List Bool) a w, L.length = ops.size → cntF L = fuel → I L a w → wpAny P md ops Q fuel L.toArray a w
  | fuel, L, a, w, hL, hc, hI => by
    have get : ∀ (i : Nat) (d : Bool), i < L.length → L.toArray.getD i d = L[i]?.getD d := fun i d hi => by simp [Array.getD, hi]
    have rdy : ∀ i : Nat, i ∈ Region.ready md ops L.toArray ↔ L[i]? = some false ∧ ∃ o, ops[i]? = some o ∧ ∀ e ∈ o.after, Region.binds md e = true → L[e.on]? = some true := by
      intro i
      rw [mem_ready]
      constructor
      · rintro ⟨h1, o, h2, h3⟩
        have hi : i < L.length := by rw [hL]; exact (Array.getElem?_eq_some_iff.1 h2).1
        rw [get i true hi, List.getElem?_eq_getElem hi] at h1
        refine ⟨by rw [List.getElem?_eq_getElem hi]; simpa using h1, o, h2, fun e he hb => ?_⟩
        have hlt : e.on < L.length := by have := (hac i o h2).2 e he hb; omega
        have := h3 e he hb
        rw [get e.on false hlt, List.getElem?_eq_getElem hlt] at this
        rw [List.getElem?_eq_getElem hlt]
        simpa using this
      · rintro ⟨h1, o, h2, h3⟩
        have hi : i < L.length := (List.getElem?_eq_some_iff.1 h1).1
        refine ⟨by rw [get i true hi, h1]; rfl, o, h2, fun e he hb => ?_⟩
        have := h3 e he hb
        rw [get e.on false (List.getElem?_eq_some_iff.1 this).1, this]; rfl
    have nil : cntF L = 0 → Q .normal a w := fun h0 => hend a w (by rw [← hL, ← cntF_zero h0]; exact hI)
    have some_ : 0 < cntF L → Region.ready md ops L.toArray ≠ [] := fun h0 he => by
      obtain ⟨i, h1, h2⟩ := cntF_pos h0
      have hi : i < ops.size := by rw [← hL]; exact (List.getElem?_eq_some_iff.1 h1).1
      have : i ∈ Region.ready md ops L.toArray := (rdy i).2 ⟨h1, ops[i], Array.getElem?_eq_getElem hi, fun e he hb => h2 e.on ((hac i _ (Array.getElem?_eq_getElem hi)).2 e he hb)⟩
      rw [he] at this
      cases this
    cases fuel with
    | zero =>
      refine ⟨?_, nil hc⟩
      refine List.eq_nil_iff_forall_not_mem.2 fun i hi => ?_
      obtain ⟨h1, _⟩ := (rdy i).1 hi
      have := cntF_set h1
      omega
    | succ fuel =>
      refine ⟨fun he => absurd he (some_ (by omega)), fun i hi => ?_⟩
      obtain ⟨h1, o, h2, h3⟩ := (rdy i).1 hi
      unfold wpOp
      rw [h2]
      simp only [Region.wanted, (hac i o h2).1, if_true]
      left
      refine Oper.wp_mono (fun a' w' h => ?_) (hstep L a w i o hL h2 h1 h3 hI)
      have hset : L.toArray.setIfInBounds i true = (L.set i true).toArray := by simp
      rw [hset]
      exact any_inv I hac hstep hend fuel (L.set i true) a' w' (by simp [hL]) (by have := cntF_set h1; omega) h
theorem region_inv (I : List Bool → Act → World → Prop) {id : Nat} {a : Act} {w : World} (hm : P.follows .mixedOrders = true) (hac : ∀ (i : Nat) o, ops[i]? = some o → o.guard = none ∧ ∀ e ∈ o.after, Region.binds .any e = true → e.on < i)
    (hstep : ∀ (L : List Bool) a w (i : Nat) o, L.length = ops.size → ops[i]? = some o → L[i]? = some false → (∀ e ∈ o.after, Region.binds .any e = true → L[e.on]? = some true) → I L a w → o.wp P a w (fun a' w' => I (L.set i true) a' w') Q)
    (hend : ∀ a w, I (List.replicate ops.size true) a w → Q .normal a w) (h0 : I (List.replicate ops.size false) a { w with drawn := w.drawn + 1 }) : (Code.region id ops true).wp P Q a w := by
  refine wp_region_any hm ?_
  have h1 : Array.replicate ops.size false = (List.replicate ops.size false).toArray := by simp
  rw [h1]
  refine any_inv I hac hstep hend _ _ _ _ (by simp) ?_ h0
  generalize ops.size = n
  induction n with
  | zero => rfl
  | succ n ih => simp only [List.replicate_succ, cntF, ih]; simp; omega
end
open Tryd
/-! ### one step of the region -/
mutual
def exV : PV → Option Value
  | .v x => some x
  | .agg cs => match exVs cs with
    | some l => some (.agg l.toArray)
    | none => none
  | _ => none
def exVs : List PV → Option (List Value)
  | [] => some []
  | x :: r => match exV x, exVs r with
    | some v, some vs => some (v :: vs)
    | _, _ => none
end
mutual
theorem exV_ok {m : Nm} {B0 : Nat} {w : World} : ∀ {p : PV} {v u : Value}, exV p = some v → RepV m B0 w p u → u = v
  | .v x, v, u, h, hr => by simp only [exV] at h; cases h; cases hr; rfl
  | .agg cs, v, u, h, hr => by
    simp only [exV] at h
    split at h
    · rename_i l hl
      cases h
      cases hr with | agg hr =>
      rw [exVs_ok hl hr]
    · cases h
  | .un, v, u, h, hr => by simp [exV] at h
  | .row _ _ _, v, u, h, hr => by simp [exV] at h
  | .own _, v, u, h, hr => by simp [exV] at h
  | .ptr _ _, v, u, h, hr => by simp [exV] at h
  | .rptr _ _ _ _, v, u, h, hr => by simp [exV] at h
  | .eptr _ _ _ _, v, u, h, hr => by simp [exV] at h
  | .mp _, v, u, h, hr => by simp [exV] at h
  | .ocut _ _ _, v, u, h, hr => by simp [exV] at h
  | .prow _ _, v, u, h, hr => by simp [exV] at h
  | .pcel _ _, v, u, h, hr => by simp [exV] at h
  | .rmap _ _, v, u, h, hr => by simp [exV] at h
  | .fn _ _, v, u, h, hr => by simp [exV] at h
  | .tup _, v, u, h, hr => by simp [exV] at h
theorem exVs_ok {m : Nm} {B0 : Nat} {w : World} : ∀ {p : List PV} {v u : List Value}, exVs p = some v → RepVs m B0 w p u → u = v
  | [], v, u, h, hr => by simp only [exVs] at h; cases h; cases hr; rfl
  | x :: r, v, u, h, hr => by
    cases hr with | cons hx hs =>
    simp only [exVs] at h
    split at h
    · rename_i v1 v2 h1 h2
      cases h
      rw [exV_ok h1 hx, exVs_ok h2 hs]
    · cases h
end
theorem rep0 {N : Nat} {l : List (Nat × Value)} {a : Act} {w : World} (hgk : GK w) (hs : a.tmps.size = N) (hd : a.defers = []) (hl : ∀ e ∈ l, a.tmps[e.1]? = some e.2) :
    Rep ⟨w, fun _ => none, hgk⟩ N ⟨fun _ => undef, fun _ => 0, fun _ => False⟩ ⟨slotOf (l.map fun e => (e.1, .v e.2)), fun _ => .no⟩ a w := by
  refine ⟨hs, hd, fun t => ?_, ⟨fun i => trivial, fun i j k _ h => (by cases h), fun k hk => hk.elim, Below.refl _ _, fun k ob hk => (by cases hk)⟩⟩
  induction l with
  | nil => exact .un
  | cons e l ih =>
    show RepV _ _ w (bif Nat.beq t e.1 then .v e.2 else slotOf (l.map fun e => (e.1, .v e.2)) t) _
    cases hb : Nat.beq t e.1 with
    | true =>
      rw [Nat.eq_of_beq_eq_true hb]
      have := hl e List.mem_cons_self
      have hlt := (Array.getElem?_eq_some_iff.1 this).1
      have hv : a.tmps.getD e.1 undef = e.2 := by
        rw [Array.getD_eq_getD_getElem?, this]; rfl
      show RepV _ _ w (.v e.2) _
      rw [hv]
      exact .v
    | false => exact ih (fun e he => hl e (List.mem_cons_of_mem _ he))
theorem run_exV {P : Program} {N : Nat} {l : List (Nat × Value)} {a : Act} {w : World} {o : Oper} {v : Value} {hgk : GK w} (h : SoundV P ⟨w, fun _ => none, hgk⟩ N ⟨slotOf (l.map fun e => (e.1, .v e.2)), fun _ => .no⟩ o exV v) (hs : a.tmps.size = N) (hd : a.defers = []) (hl : ∀ e ∈ l, a.tmps[e.1]? = some e.2) : (execOp a.eval o).run P w = .ok (.value v) w := by
  obtain ⟨p, hp, hr⟩ := h
  obtain ⟨u, hu, hv⟩ := hr _ _ _ (rep0 hgk hs hd hl)
  rw [hu, exV_ok hp hv]
/-! ### the looks -/
def fv (f : FuncId) : Value := .func (.func f) #[] #[]
def fc (f : FuncId) (H : Nat) : Value := .func (.func f) #[] #[.pointer (some ⟨H, 0, none⟩)]
def lkV (H : Nat) : Int × Int → Value
  | (1, 1) => .agg #[.string ⟨#[97]⟩, .string ⟨#[99, 111, 110, 116, 97, 99, 116]⟩, fv 75]
  | (2, 1) => .agg #[.string ⟨#[100]⟩, .string ⟨#[99, 111, 110, 116, 97, 99, 116]⟩, fv 73]
  | (3, 1) => .agg #[.string ⟨#[99]⟩, .string ⟨#[99, 111, 110, 116, 97, 99, 116]⟩, fv 74]
  | (1, 2) => .agg #[.string ⟨#[97]⟩, .string ⟨#[114, 97, 110, 103, 101]⟩, fc 78 H]
  | (2, 2) => .agg #[.string ⟨#[100]⟩, .string ⟨#[114, 97, 110, 103, 101]⟩, fv 76]
  | (3, 2) => .agg #[.string ⟨#[99]⟩, .string ⟨#[114, 97, 110, 103, 101]⟩, fc 77 H]
  | _ => undef
def fSlot : Nat → Option Nat
  | 0 => some 9
  | 1 => some 10
  | 2 => some 11
  | 3 => some 12
  | 5 => some 13
  | 6 => some 14
  | 7 => some 15
  | 9 => some 16
  | 10 => some 17
  | 11 => some 18
  | 13 => some 19
  | 14 => some 20
  | 15 => some 21
  | 17 => some 22
  | 18 => some 23
  | 19 => some 24
  | 21 => some 25
  | 22 => some 26
  | 23 => some 27
  | 25 => some 28
  | 26 => some 0
  | _ => none
def fVal (H bm : Nat) : Nat → Value
  | 0 => .map (some bm)
  | 1 => keyV 1 1
  | 2 => fv 75
  | 3 => lkV H (1, 1)
  | 5 => keyV 2 1
  | 6 => fv 73
  | 7 => lkV H (2, 1)
  | 9 => keyV 3 1
  | 10 => fv 74
  | 11 => lkV H (3, 1)
  | 13 => keyV 1 2
  | 14 => fc 78 H
  | 15 => lkV H (1, 2)
  | 17 => keyV 2 2
  | 18 => fv 76
  | 19 => lkV H (2, 2)
  | 21 => keyV 3 2
  | 22 => fc 77 H
  | 23 => lkV H (3, 2)
  | 25 => .map (some bm)
  | 26 => .map (some bm)
  | _ => undef
def fIns : Nat → Option (Int × Int)
  | 4 => some (1, 1)
  | 8 => some (2, 1)
  | 12 => some (3, 1)
  | 16 => some (1, 2)
  | 20 => some (2, 2)
  | 24 => some (3, 2)
  | _ => none
def fBase (H : Nat) : List (Nat × Value) := [(1, fv 73), (2, fv 74), (3, fv 75), (4, .pointer (some ⟨H, 0, none⟩)), (5, fc 77 H), (6, fc 78 H)]
theorem fSlot_inj : ∀ i, i < 27 → ∀ j, j < 27 → fSlot i ≠ none → fSlot i = fSlot j → i = j := by decide
theorem fIns_inj : ∀ i, i < 27 → ∀ j, j < 27 → fIns i ≠ none → fIns i = fIns j → i = j := by decide
theorem fBase_ne (H : Nat) : ∀ e ∈ fBase H, ∀ i, i < 27 → fSlot i ≠ some e.1 := by
  intro e he i hi
  have : e.1 = 1 ∨ e.1 = 2 ∨ e.1 = 3 ∨ e.1 = 4 ∨ e.1 = 5 ∨ e.1 = 6 := by
    simp only [fBase, List.mem_cons, List.not_mem_nil, or_false] at he
    rcases he with rfl | rfl | rfl | rfl | rfl | rfl <;> simp
  have key : ∀ t, 1 ≤ t → t ≤ 6 → ∀ i, i < 27 → fSlot i ≠ some t := by
    intro t h1 h2
    have : t = 1 ∨ t = 2 ∨ t = 3 ∨ t = 4 ∨ t = 5 ∨ t = 6 := by omega
    rcases this with rfl | rfl | rfl | rfl | rfl | rfl <;> decide
  exact key e.1 (by omega) (by omega) i hi
/-- The slots at each point of the region. -/
structure Sl (H bm : Nat) (L : List Bool) (a : Act) : Prop where
  len : L.length = 27
  size : a.tmps.size = 29
  defs : a.defers = []
  base : ∀ e ∈ fBase H, a.tmps[e.1]? = some e.2
  done : ∀ i t, fSlot i = some t → L[i]? = some true → a.tmps[t]? = some (fVal H bm i)
theorem set_get {L : List Bool} {i j : Nat} (h : (L.set i true)[j]? = some true) (hn : j ≠ i) : L[j]? = some true := by rwa [List.getElem?_set_ne (Ne.symm hn)] at h
theorem Sl.put {H bm : Nat} {L : List Bool} {a : Act} (h : Sl H bm L a) {i t : Nat} (hi : i < 27) (ht : fSlot i = some t) (hlt : t < 29) : Sl H bm (L.set i true) (a.put (some t) (fVal H bm i)) := by
  have hL : L.length = 27 := h.len
  refine ⟨by rw [List.length_set]; exact hL, by simp [Act.put, h.size], h.defs, fun e he => ?_, fun j u hj hLj => ?_⟩
  · have hne : e.1 ≠ t := fun e' => fBase_ne H e he i hi (by rw [e']; exact ht)
    show (a.tmps.setIfInBounds t _)[e.1]? = _
    rw [Array.getElem?_setIfInBounds_ne (Ne.symm hne)]
    exact h.base e he
  · show (a.tmps.setIfInBounds t _)[u]? = _
    by_cases hji : j = i
    · subst hji
      rw [ht] at hj
      cases hj
      rw [Array.getElem?_setIfInBounds_self_of_lt (by rw [h.size]; exact hlt)]
    · have hjl : j < 27 := by
        have := (List.getElem?_eq_some_iff.1 hLj).1
        rw [List.length_set, hL] at this; exact this
      have hne : u ≠ t := fun e' => hji (fSlot_inj j hjl i hi (by rw [hj]; simp) (by rw [hj, ht, e']))
      rw [Array.getElem?_setIfInBounds_ne (Ne.symm hne)]
      exact h.done j u hj (set_get hLj hji)
theorem Sl.skip {H bm : Nat} {L : List Bool} {a : Act} (h : Sl H bm L a) {i : Nat} (ht : fSlot i = none) : Sl H bm (L.set i true) a :=
  ⟨by rw [List.length_set]; exact h.len, h.size, h.defs, h.base, fun j u hj hLj => h.done j u hj (set_get hLj (fun e => by rw [e, ht] at hj; cases hj))⟩
/-- What holds at each point of the region. -/
structure FI (W : World) (H bm : Nat) (L : List Bool) (a : Act) (w : World) : Prop where
  gk : GK W
  wm : W.heap.size = bm
  sl : Sl H bm L a
  os : w.os = W.os ∧ w.tape = W.tape ∧ w.output = W.output
  oth : ∀ k, k < bm → w.heap[k]? = W.heap[k]?
  off : L[0]? = some false → w.heap = W.heap ∧ ∀ i p, fIns i = some p → L[i]? = some false
  on : L[0]? = some true → w.heap.size = bm + 1 ∧ ∃ es c, ∃ l : List (Int × Int), (es.toList.map (·.born) = List.range l.length ∧ c = l.length) ∧ w.heap[bm]? = some (.map es c) ∧ es.toList.map (fun e => (e.key, e.val)) = l.map (fun p => (keyV p.1 p.2, lkV H p)) ∧ l.Nodup ∧ ∀ p, p ∈ l ↔ ∃ i, fIns i = some p ∧ L[i]? = some true
theorem Below.alloc_drawn (w : World) (ob : Obj) : Below w.heap.size w { (w.alloc ob) with drawn := w.drawn } := ⟨rfl, rfl, rfl, by show w.heap.size ≤ (w.heap.push ob).size; rw [Array.size_push]; omega, fun k hk => by
  show (w.heap.push ob)[k]? = _
  rw [Array.getElem?_push, if_neg (by omega)]⟩
theorem FI.gkw {W : World} {H bm : Nat} {L : List Bool} {a : Act} {w : World} (h : FI W H bm L a w) : GK w := by
  refine h.gk.below ⟨h.os.1, h.os.2.1, h.os.2.2, ?_, fun k hk => h.oth k (h.wm ▸ hk)⟩
  have hl : 0 < L.length := by rw [h.sl.len]; decide
  rw [h.wm]
  cases hb : L[0] with
  | false =>
    have := (h.off (by rw [List.getElem?_eq_getElem hl, hb])).1
    rw [this, h.wm]; exact Nat.le_refl _
  | true =>
    have := (h.on (by rw [List.getElem?_eq_getElem hl, hb])).1
    omega
/-- A step that yields a value and turns nothing. -/
theorem FI.pure {W : World} {H bm : Nat} {L : List Bool} {a : Act} {w : World} (h : FI W H bm L a w) {i t : Nat} (hi : i < 27) (h0 : i ≠ 0) (ht : fSlot i = some t) (hlt : t < 29) : FI W H bm (L.set i true) (a.put (some t) (fVal H bm i)) w := by
  have hin : fIns i = none := by
    have key : ∀ i, i < 27 → fSlot i ≠ none → fIns i = none := by decide
    exact key i hi (by rw [ht]; simp)
  have h0' : ∀ b, (L.set i true)[0]? = some b → L[0]? = some b := fun b hb => by rwa [List.getElem?_set_ne h0] at hb
  have hins : ∀ j p, fIns j = some p → (L.set i true)[j]? = L[j]? := fun j p hj => List.getElem?_set_ne (fun e => by rw [← e, hin] at hj; cases hj)
  refine ⟨h.gk, h.wm, h.sl.put hi ht hlt, h.os, h.oth, fun hz => ?_, fun hz => ?_⟩
  · obtain ⟨h1, h2⟩ := h.off (h0' _ hz)
    exact ⟨h1, fun j p hj => by rw [hins j p hj]; exact h2 j p hj⟩
  · obtain ⟨h1, es, c, l, hbn, h2, h3, h4, h5⟩ := h.on (h0' _ hz)
    refine ⟨h1, es, c, l, hbn, h2, h3, h4, fun p => ?_⟩
    rw [h5]
    constructor
    · rintro ⟨j, j1, j2⟩; exact ⟨j, j1, by rw [hins j p j1]; exact j2⟩
    · rintro ⟨j, j1, j2⟩; exact ⟨j, j1, by rw [← hins j p j1]; exact j2⟩
theorem FI.pstep {Q : Exit → Act → World → Prop} {W : World} {H bm : Nat} {L : List Bool} {a : Act} {w : World} (h : FI W H bm L a w) {i t : Nat} {o : Oper} (hi : i < 27) (h0 : i ≠ 0) (ht : fSlot i = some t) (hlt : t < 29) (hd : o.dst = some t) {l : List (Nat × Value)} (hl : ∀ e ∈ l, a.tmps[e.1]? = some e.2)
    (hs : SoundV Tryd.prog ⟨w, fun _ => none, h.gkw⟩ 29 ⟨slotOf (l.map fun e => (e.1, .v e.2)), fun _ => .no⟩ o exV (fVal H bm i)) : o.wp Tryd.prog a w (fun a' w' => FI W H bm (L.set i true) a' w') Q := by
  unfold Oper.wp
  rw [run_exV hs h.sl.size h.sl.defs hl, Oper.upon_value, hd]
  exact h.pure hi h0 ht hlt
noncomputable def fT : MapT Tryd.prog := ⟨74, 77, 73, .agg #[.string ByteArray.empty, .string ByteArray.empty, .nilFunc], Tryd.underlying74, ⟨_, Tryd.underlying77⟩,
  fun w a b c d => eqB_ok (P := Tryd.prog) (m := ⟨fun _ => undef, fun _ => 0, fun _ => False⟩) (B0 := 0) (w := w) (d := 40) (t := 77) (x := .agg [.v (.int .i64 a), .v (.int .i64 b)]) (y := .agg [.v (.int .i64 c), .v (.int .i64 d)]) (by kernel_rfl) (.agg (.cons .v (.cons .v .nil))) (.agg (.cons .v (.cons .v .nil))) 10000 (by decide) w,
  fun w e a b => by
    have key : ∀ d, (Instr.checkKey e (d + 1 + 1) 77 (keyV a b)).run Tryd.prog w = .ok () w := fun d => by
      unfold keyV
      simp [Instr.checkKey, run_underlying Tryd.underlying77, run_underlying Tryd.underlying3, go_sem]
    exact key 9998,
  fun w => zeroB_ok (by kernel_rfl) w⟩
theorem insert_g {w : World} {b : Nat} {es : Array MapEntry} {c : Nat} {x y : Int} {v : Value} (hb : w.heap[b]? = some (.map es c)) (hk : ∀ e ∈ es.toList, ∃ p q, e.key = keyV p q) (hn : ∀ e ∈ es.toList, e.key ≠ keyV x y) :
    (Instr.mapUpdate fT.t (.map (some b)) (keyV x y) v).run Tryd.prog w = .ok () { w with heap := w.heap.setIfInBounds b (.map (es.push { key := keyV x y, val := v, born := c }) (c + 1)) } := by
  obtain ⟨r, h1, _, h3⟩ := findKey_g fT x y w es.toList hk
  rw [h3 hn] at h1
  simp [Instr.mapUpdate, Sem.run_bind, run_underlying fT.hu, Result.andThen_ok, getObj, Sem.run, hb, fT.hc, h1]
  simp [setObj, Sem.run, hb]
/-- The map is made. -/
theorem FI.make {Q : Exit → Act → World → Prop} {W : World} {H bm : Nat} {L : List Bool} {a : Act} {w : World} (h : FI W H bm L a w) (hbm : W.heap.size = bm) {o : Oper} (ho : o.op = .makeMap fT.t none) (hd : o.dst = some 9) (hL : L[0]? = some false) : o.wp Tryd.prog a w (fun a' w' => FI W H bm (L.set 0 true) a' w') Q := by
  obtain ⟨h1, h2⟩ := h.off hL
  have hsz : w.heap.size = bm := by rw [h1]; exact hbm
  have hrun : (execOp a.eval o).run Tryd.prog w = .ok (.value (.map (some w.heap.size))) (w.alloc (.map #[] 0)) := by
    unfold execOp
    simp only [ho]
    rfl
  unfold Oper.wp
  rw [hrun, Oper.upon_value, hd, hsz]
  have hL0 : L.length = 27 := h.sl.len
  refine ⟨h.gk, h.wm, h.sl.put (i := 0) (by decide) rfl (by decide), h.os, fun k hk => ?_, fun hz => ?_, fun _ => ?_⟩
  · rw [Below.heap_alloc _ _ _ (by omega)]; exact h.oth k hk
  · rw [List.getElem?_set_self (by omega)] at hz; cases hz
  · refine ⟨by show (w.heap.push _).size = _; rw [Array.size_push, hsz], #[], 0, [], ⟨rfl, rfl⟩, ?_, rfl, List.nodup_nil, fun p => ⟨fun h => (by cases h), ?_⟩⟩
    · show (w.heap.push _)[bm]? = _
      rw [← hsz, Array.getElem?_push_size]
    · rintro ⟨i, i1, i2⟩
      have hi0 : i ≠ 0 := fun e => by subst e; cases i1
      rw [List.getElem?_set_ne (Ne.symm hi0), h2 i p i1] at i2
      cases i2
/-- A look is laid in the map. -/
theorem FI.ins {Q : Exit → Act → World → Prop} {W : World} {H bm : Nat} {L : List Bool} {a : Act} {w : World} (h : FI W H bm L a w) {i ks vs : Nat} {x y : Int} {o : Oper} (hi : i < 27) (hin : fIns i = some (x, y)) (ho : o.op = .insert fT.t (.tmp 9) (.tmp ks) (.tmp vs)) (hd : o.dst = none) (hL : L[i]? = some false)
    (hL0 : L[0]? = some true) (hk : a.tmps[ks]? = some (keyV x y)) (hv : a.tmps[vs]? = some (lkV H (x, y))) : o.wp Tryd.prog a w (fun a' w' => FI W H bm (L.set i true) a' w') Q := by
  obtain ⟨h1, es, c, l, hbn, h2, h3, h4, h5⟩ := h.on hL0
  have hm : a.tmps[9]? = some (.map (some bm)) := h.sl.done 0 9 rfl hL0
  have hi0 : i ≠ 0 := fun e => by subst e; cases hin
  have hxy : (x, y) ∉ l := fun hm => by
    obtain ⟨j, j1, j2⟩ := (h5 _).1 hm
    have hjl : j < 27 := by rw [← h.sl.len]; exact (List.getElem?_eq_some_iff.1 j2).1
    have : j = i := fIns_inj j hjl i hi (by rw [j1]; simp) (by rw [j1, hin])
    subst this
    rw [hL] at j2; cases j2
  have hkeys : ∀ e ∈ es.toList, ∃ p ∈ l, e.key = keyV p.1 p.2 := fun e he => by
    have : (e.key, e.val) ∈ es.toList.map fun e => (e.key, e.val) := List.mem_map.2 ⟨e, he, rfl⟩
    rw [h3] at this
    obtain ⟨p, hp, e2⟩ := List.mem_map.1 this
    exact ⟨p, hp, (congrArg Prod.fst e2).symm⟩
  have hrun := insert_g (v := lkV H (x, y)) (x := x) (y := y) h2 (fun e he => by obtain ⟨p, _, hp⟩ := hkeys e he; exact ⟨_, _, hp⟩) (fun e he he' => by
    obtain ⟨p, hp, hpe⟩ := hkeys e he
    rw [he'] at hpe
    simp [keyV] at hpe
    exact hxy (by rw [show (x, y) = p from Prod.ext hpe.1 hpe.2]; exact hp))
  have ev : ∀ t v, a.tmps[t]? = some v → a.eval (.tmp t) = v := fun t v ht => by
    show a.tmps.getD t undef = v
    rw [Array.getD_eq_getD_getElem?, ht]; rfl
  have hex : (execOp a.eval o).run Tryd.prog w = .ok .skip { w with heap := w.heap.setIfInBounds bm (.map (es.push { key := keyV x y, val := lkV H (x, y), born := c }) (c + 1)) } := by
    unfold execOp
    simp only [ho, ev _ _ hm, ev _ _ hk, ev _ _ hv, Sem.run_bind, hrun, Result.andThen_ok]
    rfl
  unfold Oper.wp
  rw [hex, Oper.upon_skip, hd]
  have hbl : bm < w.heap.size := by omega
  refine ⟨h.gk, h.wm, h.sl.skip ?_, h.os, fun k hk => ?_, fun hz => ?_, fun _ => ⟨by simp [h1], es.push { key := keyV x y, val := lkV H (x, y), born := c }, c + 1, l ++ [(x, y)], ⟨by rw [Array.toList_push, List.map_append, hbn.1, List.length_append]; simp [List.range_succ, hbn.2], by rw [hbn.2]; simp⟩, ?_, ?_, ?_, fun p => ?_⟩⟩
  · have key : ∀ i, i < 27 → fIns i ≠ none → fSlot i = none := by decide
    exact key i hi (by rw [hin]; simp)
  · show (w.heap.setIfInBounds bm _)[k]? = _
    rw [Array.getElem?_setIfInBounds_ne (by omega)]
    exact h.oth k hk
  · rw [List.getElem?_set_ne hi0, hL0] at hz; cases hz
  · show (w.heap.setIfInBounds bm _)[bm]? = _
    rw [Array.getElem?_setIfInBounds_self_of_lt hbl]
  · simp [h3]
  · rw [List.nodup_append]; exact ⟨h4, by simp, fun u hu v hv => by simp at hv; subst hv; exact fun e => hxy (e ▸ hu)⟩
  · rw [List.mem_append, h5, List.mem_singleton]
    constructor
    · rintro (⟨j, j1, j2⟩ | rfl)
      · refine ⟨j, j1, ?_⟩
        by_cases e : i = j
        · subst e; rw [List.getElem?_set_self (by rw [h.sl.len]; exact hi)]
        · rw [List.getElem?_set_ne e]; exact j2
      · exact ⟨i, hin, by rw [List.getElem?_set_self (by rw [h.sl.len]; exact hi)]⟩
    · rintro ⟨j, j1, j2⟩
      by_cases e : i = j
      · subst e; rw [hin] at j1; cases j1; exact .inr rfl
      · rw [List.getElem?_set_ne e] at j2; exact .inl ⟨j, j1, j2⟩
/-- The box is read. -/
theorem FI.load {Q : Exit → Act → World → Prop} {W : World} {H bm : Nat} {L : List Bool} {a : Act} {w : World} (h : FI W H bm L a w) {o : Oper} (hH : H < bm) (hW : W.heap[H]? = some (.cells #[fv 76] 71 (0, 0))) (ho : o.op = .load 71 (.tmp 4)) (hd : o.dst = some 23) : o.wp Tryd.prog a w (fun a' w' => FI W H bm (L.set 18 true) a' w') Q := by
  have hw : w.heap[H]? = some (.cells #[fv 76] 71 (0, 0)) := (h.oth H hH).trans hW
  have h4 : a.tmps[4]? = some (.pointer (some ⟨H, 0, none⟩)) := h.sl.base (4, _) (by simp [fBase])
  have ev : a.eval (.tmp 4) = .pointer (some ⟨H, 0, none⟩) := by
    show a.tmps.getD 4 undef = _
    rw [Array.getD_eq_getD_getElem?, h4]; rfl
  obtain ⟨v, hv, hr⟩ := load_cells (P := Tryd.prog) (m := ⟨fun _ => undef, fun _ => 0, fun _ => False⟩) (B0 := 0) (w := w) (t := 71) (cs := [.v (fv 76)]) (vs := [fv 76]) (b := H) (o := 0) (off := 0) (p := .v (fv 76)) (.cons .v .nil) (CellsAt.of_block hw) (by kernel_rfl)
  cases hr
  have hrun : (execOp a.eval o).run Tryd.prog w = .ok (.value (fv 76)) w := run_of (s := Instr.loadAt 71 (a.eval (.tmp 4))) (by unfold execOp; simp only [ho]) (by rw [ev]; exact hv)
  unfold Oper.wp
  rw [hrun, Oper.upon_value, hd]
  exact h.pure (i := 18) (by decide) (by decide) rfl (by decide)
set_option maxRecDepth 100000 in
set_option maxHeartbeats 4000000 in
theorem forms_calls (w : World) (hgk : GK w) : Calls Tryd.prog 41 #[] w fun e w' => ∃ H b es c, ∃ l : List (Int × Int), (es.toList.map (·.born) = List.range l.length ∧ c = l.length) ∧ e = .returned (.map (some b)) ∧ w.heap.size ≤ H ∧ H < b ∧ w'.heap[H]? = some (.cells #[fv 76] 71 (0, 0)) ∧ w'.heap[b]? = some (.map es c) ∧ es.toList.map (fun e => (e.key, e.val)) = l.map (fun p => (keyV p.1 p.2, lkV H p)) ∧ l.Nodup ∧ (∀ p, p ∈ l ↔ ∃ i, i < 27 ∧ fIns i = some p) ∧ Below w.heap.size w w' := by
  have hmf : ∀ (fn : Fn) (first cap : Array Value) (w : World), (Instr.makeFunc fn first cap).run Tryd.prog w = .ok (.func fn first cap) w := fun _ _ _ _ => rfl
  have hsf := fun (a : Addr) (w : World) => Go.run_store Tryd.prog w a (.func (.func 76) #[] #[]) .plain rfl
  go_enter Tryd.func41, Tryd.ntmps41
  go_wp2_with fail
  refine region_inv (FI { (w.alloc (.cells #[fv 76] 71)) with drawn := w.drawn } w.heap.size (w.heap.size + 1)) (by kernel_rfl) ?hac ?hstep ?hend ?h0
  case hac => exact acB_ok (by kernel_rfl)
  case hstep =>
    intro L a w' i o hlen ho hLi dep h
    have hi : i < 27 := by rw [← h.sl.len]; exact (List.getElem?_eq_some_iff.1 hLi).1
    have hbm : (w.alloc (.cells #[fv 76] 71)).heap.size = w.heap.size + 1 := by show (w.heap.push _).size = _; rw [Array.size_push]
    have hH : w.heap.size < w.heap.size + 1 := Nat.lt_succ_self _
    have hW : (w.alloc (.cells #[fv 76] 71)).heap[w.heap.size]? = some (.cells #[fv 76] 71 (0, 0)) := heap_alloc_new w _
    obtain rfl | rfl | rfl | rfl | rfl | rfl | rfl | rfl | rfl | rfl | rfl | rfl | rfl | rfl | rfl | rfl | rfl | rfl | rfl | rfl | rfl | rfl | rfl | rfl | rfl | rfl | rfl : i = 0 ∨ i = 1 ∨ i = 2 ∨ i = 3 ∨ i = 4 ∨ i = 5 ∨ i = 6 ∨ i = 7 ∨ i = 8 ∨ i = 9 ∨ i = 10 ∨ i = 11 ∨ i = 12 ∨ i = 13 ∨ i = 14 ∨ i = 15 ∨ i = 16 ∨ i = 17 ∨ i = 18 ∨ i = 19 ∨ i = 20 ∨ i = 21 ∨ i = 22 ∨ i = 23 ∨ i = 24 ∨ i = 25 ∨ i = 26 := by omega
    · obtain rfl := Option.some.inj ho
      exact h.make hbm rfl rfl hLi
    · obtain rfl := Option.some.inj ho
      exact h.pstep (by decide) (by decide) rfl (by decide) rfl (l := []) (fun e he => by cases he) (build_ok (κ := exV) rfl (by kernel_rfl))
    · obtain rfl := Option.some.inj ho
      exact h.pstep (by decide) (by decide) rfl (by decide) rfl (l := [(3, fv 75)]) (fun e he => by simp at he; subst he; exact h.sl.base _ (by simp [fBase])) (move_ok (κ := exV) (.inl rfl) (by kernel_rfl))
    · obtain rfl := Option.some.inj ho
      exact h.pstep (by decide) (by decide) rfl (by decide) rfl (l := [(11, fVal w.heap.size (w.heap.size + 1) 2)]) (fun e he => by simp at he; subst he; exact (h.sl.done 2 _ rfl (dep ⟨2, .data⟩ (by simp) rfl))) (build_ok (κ := exV) rfl (by kernel_rfl))
    · obtain rfl := Option.some.inj ho
      exact h.ins (x := 1) (y := 1) (by decide) rfl rfl rfl hLi (dep ⟨0, .data⟩ (by simp) rfl) (h.sl.done 1 _ rfl (dep ⟨1, .data⟩ (by simp) rfl)) (h.sl.done 3 _ rfl (dep ⟨3, .data⟩ (by simp) rfl))
    · obtain rfl := Option.some.inj ho
      exact h.pstep (by decide) (by decide) rfl (by decide) rfl (l := []) (fun e he => by cases he) (build_ok (κ := exV) rfl (by kernel_rfl))
    · obtain rfl := Option.some.inj ho
      exact h.pstep (by decide) (by decide) rfl (by decide) rfl (l := [(1, fv 73)]) (fun e he => by simp at he; subst he; exact h.sl.base _ (by simp [fBase])) (move_ok (κ := exV) (.inl rfl) (by kernel_rfl))
    · obtain rfl := Option.some.inj ho
      exact h.pstep (by decide) (by decide) rfl (by decide) rfl (l := [(14, fVal w.heap.size (w.heap.size + 1) 6)]) (fun e he => by simp at he; subst he; exact (h.sl.done 6 _ rfl (dep ⟨6, .data⟩ (by simp) rfl))) (build_ok (κ := exV) rfl (by kernel_rfl))
    · obtain rfl := Option.some.inj ho
      exact h.ins (x := 2) (y := 1) (by decide) rfl rfl rfl hLi (dep ⟨0, .data⟩ (by simp) rfl) (h.sl.done 5 _ rfl (dep ⟨5, .data⟩ (by simp) rfl)) (h.sl.done 7 _ rfl (dep ⟨7, .data⟩ (by simp) rfl))
    · obtain rfl := Option.some.inj ho
      exact h.pstep (by decide) (by decide) rfl (by decide) rfl (l := []) (fun e he => by cases he) (build_ok (κ := exV) rfl (by kernel_rfl))
    · obtain rfl := Option.some.inj ho
      exact h.pstep (by decide) (by decide) rfl (by decide) rfl (l := [(2, fv 74)]) (fun e he => by simp at he; subst he; exact h.sl.base _ (by simp [fBase])) (move_ok (κ := exV) (.inl rfl) (by kernel_rfl))
    · obtain rfl := Option.some.inj ho
      exact h.pstep (by decide) (by decide) rfl (by decide) rfl (l := [(17, fVal w.heap.size (w.heap.size + 1) 10)]) (fun e he => by simp at he; subst he; exact (h.sl.done 10 _ rfl (dep ⟨10, .data⟩ (by simp) rfl))) (build_ok (κ := exV) rfl (by kernel_rfl))
    · obtain rfl := Option.some.inj ho
      exact h.ins (x := 3) (y := 1) (by decide) rfl rfl rfl hLi (dep ⟨0, .data⟩ (by simp) rfl) (h.sl.done 9 _ rfl (dep ⟨9, .data⟩ (by simp) rfl)) (h.sl.done 11 _ rfl (dep ⟨11, .data⟩ (by simp) rfl))
    · obtain rfl := Option.some.inj ho
      exact h.pstep (by decide) (by decide) rfl (by decide) rfl (l := []) (fun e he => by cases he) (build_ok (κ := exV) rfl (by kernel_rfl))
    · obtain rfl := Option.some.inj ho
      exact h.pstep (by decide) (by decide) rfl (by decide) rfl (l := [(6, fc 78 w.heap.size)]) (fun e he => by simp at he; subst he; exact h.sl.base _ (by simp [fBase])) (move_ok (κ := exV) (.inl rfl) (by kernel_rfl))
    · obtain rfl := Option.some.inj ho
      exact h.pstep (by decide) (by decide) rfl (by decide) rfl (l := [(20, fVal w.heap.size (w.heap.size + 1) 14)]) (fun e he => by simp at he; subst he; exact (h.sl.done 14 _ rfl (dep ⟨14, .data⟩ (by simp) rfl))) (build_ok (κ := exV) rfl (by kernel_rfl))
    · obtain rfl := Option.some.inj ho
      exact h.ins (x := 1) (y := 2) (by decide) rfl rfl rfl hLi (dep ⟨0, .data⟩ (by simp) rfl) (h.sl.done 13 _ rfl (dep ⟨13, .data⟩ (by simp) rfl)) (h.sl.done 15 _ rfl (dep ⟨15, .data⟩ (by simp) rfl))
    · obtain rfl := Option.some.inj ho
      exact h.pstep (by decide) (by decide) rfl (by decide) rfl (l := []) (fun e he => by cases he) (build_ok (κ := exV) rfl (by kernel_rfl))
    · obtain rfl := Option.some.inj ho
      exact h.load hH hW rfl rfl
    · obtain rfl := Option.some.inj ho
      exact h.pstep (by decide) (by decide) rfl (by decide) rfl (l := [(23, fVal w.heap.size (w.heap.size + 1) 18)]) (fun e he => by simp at he; subst he; exact (h.sl.done 18 _ rfl (dep ⟨18, .data⟩ (by simp) rfl))) (build_ok (κ := exV) rfl (by kernel_rfl))
    · obtain rfl := Option.some.inj ho
      exact h.ins (x := 2) (y := 2) (by decide) rfl rfl rfl hLi (dep ⟨0, .data⟩ (by simp) rfl) (h.sl.done 17 _ rfl (dep ⟨17, .data⟩ (by simp) rfl)) (h.sl.done 19 _ rfl (dep ⟨19, .data⟩ (by simp) rfl))
    · obtain rfl := Option.some.inj ho
      exact h.pstep (by decide) (by decide) rfl (by decide) rfl (l := []) (fun e he => by cases he) (build_ok (κ := exV) rfl (by kernel_rfl))
    · obtain rfl := Option.some.inj ho
      exact h.pstep (by decide) (by decide) rfl (by decide) rfl (l := [(5, fc 77 w.heap.size)]) (fun e he => by simp at he; subst he; exact h.sl.base _ (by simp [fBase])) (move_ok (κ := exV) (.inl rfl) (by kernel_rfl))
    · obtain rfl := Option.some.inj ho
      exact h.pstep (by decide) (by decide) rfl (by decide) rfl (l := [(26, fVal w.heap.size (w.heap.size + 1) 22)]) (fun e he => by simp at he; subst he; exact (h.sl.done 22 _ rfl (dep ⟨22, .data⟩ (by simp) rfl))) (build_ok (κ := exV) rfl (by kernel_rfl))
    · obtain rfl := Option.some.inj ho
      exact h.ins (x := 3) (y := 2) (by decide) rfl rfl rfl hLi (dep ⟨0, .data⟩ (by simp) rfl) (h.sl.done 21 _ rfl (dep ⟨21, .data⟩ (by simp) rfl)) (h.sl.done 23 _ rfl (dep ⟨23, .data⟩ (by simp) rfl))
    · obtain rfl := Option.some.inj ho
      exact h.pstep (by decide) (by decide) rfl (by decide) rfl (l := [(9, .map (some (w.heap.size + 1)))]) (fun e he => by simp at he; subst he; exact (h.sl.done 0 _ rfl (dep ⟨0, .data⟩ (by simp) rfl))) (move_ok (κ := exV) (.inl rfl) (by kernel_rfl))
    · obtain rfl := Option.some.inj ho
      exact h.pstep (by decide) (by decide) rfl (by decide) rfl (l := [(28, .map (some (w.heap.size + 1)))]) (fun e he => by simp at he; subst he; exact (h.sl.done 25 _ rfl (dep ⟨25, .data⟩ (by simp) rfl))) (move_ok (κ := exV) (.inr rfl) (by kernel_rfl))
  case hend =>
    intro a w' h
    have hL : ∀ j, j < 27 → (List.replicate 27 true)[j]? = some true := fun j hj => by rw [List.getElem?_replicate, if_pos hj]
    obtain ⟨h1, es, c, l, hbn, h2, h3, h4, h5⟩ := h.on (hL 0 (by decide))
    have hz := h.sl.done 26 0 rfl (hL 26 (by decide))
    rename_i K hK
    refine hK _ _ ?_
    refine wp_ret ?_
    refine bodyPost_ret (results_tmp rfl _ _ _) h.sl.defs ?_
    have hg : a.tmps.getD 0 undef = .map (some (w.heap.size + 1)) := by rw [Array.getD_eq_getD_getElem?, hz]; rfl
    refine ⟨w.heap.size, w.heap.size + 1, es, c, l, hbn, by rw [hg], Nat.le_refl _, Nat.lt_succ_self _, (h.oth _ (Nat.lt_succ_self _)).trans (heap_alloc_new w _), h2, h3, h4, fun p => ?_, ⟨h.os.1, h.os.2.1, h.os.2.2, by omega, fun k hk => (h.oth k (by omega)).trans (Below.heap_alloc w _ k hk)⟩⟩
    rw [h5]
    constructor
    · rintro ⟨i, i1, i2⟩
      exact ⟨i, by have := (List.getElem?_eq_some_iff.1 i2).1; simpa using this, i1⟩
    · rintro ⟨i, i0, i1⟩; exact ⟨i, i1, hL i i0⟩
  case h0 =>
    have hL : ∀ j b, (List.replicate 27 false)[j]? = some b → b = false := fun j b hj => by
      rw [List.getElem?_replicate] at hj
      split at hj
      · cases hj; rfl
      · cases hj
    refine ⟨hgk.below (Below.alloc_drawn w _), by show (w.heap.push _).size = _; rw [Array.size_push], ⟨rfl, rfl, rfl, fun e he => ?_, fun i t _ hi => by cases hL i true hi⟩, ⟨rfl, rfl, rfl⟩, fun k hk => rfl, fun _ => ⟨rfl, fun i p hp => ?_⟩, fun hi => by cases hL 0 true hi⟩
    · simp only [fBase, List.mem_cons, List.not_mem_nil, or_false] at he
      rcases he with rfl | rfl | rfl | rfl | rfl | rfl <;> rfl
    · have hi : i < 27 := by
        have key : ∀ i, fIns i ≠ none → i < 27 := by
          intro i hi
          refine Classical.byContradiction fun hn => hi ?_
          unfold fIns
          split <;> first | omega | rfl
        exact key i (by rw [hp]; simp)
      show (List.replicate 27 false)[i]? = some false
      rw [List.getElem?_replicate, if_pos hi]
def fKs : List (Int × Int) := [(1, 1), (2, 1), (3, 1), (1, 2), (2, 2), (3, 2)]
def fVs : List PV := [.agg [.v (.string ⟨#[97]⟩), .v (.string ⟨#[99, 111, 110, 116, 97, 99, 116]⟩), .fn 75 []], .agg [.v (.string ⟨#[100]⟩), .v (.string ⟨#[99, 111, 110, 116, 97, 99, 116]⟩), .fn 73 []], .agg [.v (.string ⟨#[99]⟩), .v (.string ⟨#[99, 111, 110, 116, 97, 99, 116]⟩), .fn 74 []], .agg [.v (.string ⟨#[97]⟩), .v (.string ⟨#[114, 97, 110, 103, 101]⟩), .fn 78 [.rptr true [.fnc 76] () 0]], .agg [.v (.string ⟨#[100]⟩), .v (.string ⟨#[114, 97, 110, 103, 101]⟩), .fn 76 []], .agg [.v (.string ⟨#[99]⟩), .v (.string ⟨#[114, 97, 110, 103, 101]⟩), .fn 77 [.rptr true [.fnc 76] () 0]]]
theorem fIns_mem (p : Int × Int) : (∃ i, i < 27 ∧ fIns i = some p) ↔ p ∈ fKs := by
  constructor
  · rintro ⟨i, hi, h⟩
    have key : ∀ i, i < 27 → fIns i = none ∨ ∃ q ∈ fKs, fIns i = some q := by decide
    rcases key i hi with h1 | ⟨q, hq, h1⟩
    · rw [h1] at h; cases h
    · rw [h1] at h; cases h; exact hq
  · intro h
    have key : ∀ q ∈ fKs, ∃ i, i < 27 ∧ fIns i = some q := by decide
    exact key p h
noncomputable def fC : MapC Tryd.prog where
  f := 41
  ks := fKs
  vs := fVs
  ids p := rfl
  enters := fun _ _ => by kernel_rfl
  ok w hgk := by
    refine (forms_calls w hgk).mono fun e w' hh => ?_
    obtain ⟨H, b, es, c, l, _, rfl, h1, h2, h3, h4, h5, h6, h7, h8⟩ := hh
    have hb : b < w'.heap.size := (Array.getElem?_eq_some_iff.1 h4).1
    refine ⟨b, es, c, fKs.map (lkV H), rfl, by omega, h4, by simp, ?_, fun m B0 hB hF => ?_, h8⟩
    · rw [h5]
      have hz : ∀ (l : List (Int × Int)), (l.map fun k => Value.agg #[.int .i64 k.1, .int .i64 k.2]).zip (l.map (lkV H)) = l.map fun p => (keyV p.1 p.2, lkV H p) := fun l => by
        induction l with
        | nil => rfl
        | cons p l ih => simp only [List.map_cons, List.zip_cons_cons, ih]; rfl
      rw [hz]
      refine List.Perm.map _ ?_
      exact (List.perm_ext_iff_of_nodup h6 (by decide)).2 fun p => (h7 p).trans (fIns_mem p)
    · have hbox : RepV m B0 w' (.rptr true [.fnc 76] () 0) (.pointer (some ⟨H, 0, none⟩)) := by
        refine .rptr (b := H) (o := 0) ?_
        simp only [SKIs]
        exact ⟨H, 0, [fv 76], rfl, ⟨hF H h1 (by omega), fun _ => Nat.le_trans hB h1⟩, rfl, CellsAt.of_block h3, by simp only [TupIs, SKIs]; exact ⟨_, rfl, rfl⟩⟩
      have look : ∀ (s1 s2 : ByteArray) (f : FuncId) (caps : List PV) (cv : List Value), RepVs m B0 w' caps cv → RepV m B0 w' (.agg [.v (.string s1), .v (.string s2), .fn f caps]) (.agg #[.string s1, .string s2, .func (.func f) #[] cv.toArray]) := fun s1 s2 f caps cv h => .agg (.cons .v (.cons .v (.cons (.fn h) .nil)))
      exact .cons (look _ _ _ _ _ .nil) (.cons (look _ _ _ _ _ .nil) (.cons (look _ _ _ _ _ .nil) (.cons (look _ _ _ _ _ (.cons hbox .nil)) (.cons (look _ _ _ _ _ .nil) (.cons (look _ _ _ _ _ (.cons hbox .nil)) .nil)))))
noncomputable def fClo1 : CloT Tryd.prog := ⟨73, 80, [2], none, clo_of0 (F := forms_1 0) (forms_1_e 0).ok (fun b => by kernel_rfl), fun _ _ => by kernel_rfl⟩
noncomputable def fClo2 : CloT Tryd.prog := ⟨74, 80, [2, 7], none, clo_of0 (F := forms_2 0) (forms_2_e 0).ok (fun b => by kernel_rfl), fun _ _ => by kernel_rfl⟩
noncomputable def fClo3 : CloT Tryd.prog := ⟨75, 80, [2, 3, 4, 5, 6, 7], none, clo_of0 (F := forms_3 0) (forms_3_e 0).ok (fun b => by kernel_rfl), fun _ _ => by kernel_rfl⟩
noncomputable def fClo4 : CloT Tryd.prog := ⟨76, 80, [8, 9, 10], none, clo_of0 (F := forms_4 0) (forms_4_e 0).ok (fun b => by kernel_rfl), fun _ _ => by kernel_rfl⟩
noncomputable def fClo5 : CloT Tryd.prog := ⟨77, 80, [8, 9, 10, 12], some 76, clo_of1 (F := forms_5 0) (forms_5_e 0).ok (fun b => by kernel_rfl), fun _ _ => by kernel_rfl⟩
noncomputable def fClo6 : CloT Tryd.prog := ⟨78, 80, [8, 9, 10, 11, 12], some 76, clo_of1 (F := forms_6 0) (forms_6_e 0).ok (fun b => by kernel_rfl), fun _ _ => by kernel_rfl⟩
noncomputable def fHooks : List (Hook Tryd.prog) := [hkMapC fC, hkMap fT, hkClo [fClo1, fClo2, fClo3, fClo4, fClo5, fClo6], hkRow Tryd.prog]
end Go.Proofs.YtaknikdbnfmlfaaDoor.Ex
