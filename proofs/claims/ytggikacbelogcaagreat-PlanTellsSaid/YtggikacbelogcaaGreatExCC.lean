/- An executor of translated code on abstract states: slices.Sort of numbers, by the library's contract. -/
import Derived.Test.YtggikacbelogcaaGreatExZ
import Derived.Sort.Grow
namespace Go.Proofs.YtggikacbelogcaaGreat.Ex
open Go Go.RowKit Go.Sort
set_option linter.unusedVariables false
set_option linter.unusedSimpArgs false
def ins1 (x : Int) : List Int → List Int
  | [] => [x]
  | y :: r => bif decide (x ≤ y) then x :: y :: r else y :: ins1 x r
def sorted : List Int → List Int
  | [] => []
  | x :: r => ins1 x (sorted r)
theorem ins1_perm (x : Int) : ∀ l : List Int, (ins1 x l).Perm (x :: l)
  | [] => List.Perm.refl _
  | y :: r => by
    unfold ins1
    cases decide (x ≤ y) with
    | true => exact List.Perm.refl _
    | false => exact ((ins1_perm x r).cons y).trans (List.Perm.swap x y r)
theorem sorted_perm0 : ∀ l : List Int, (sorted l).Perm l
  | [] => List.Perm.refl _
  | x :: r => (ins1_perm x _).trans ((sorted_perm0 r).cons x)
theorem ins1_pw (x : Int) : ∀ l : List Int, l.Pairwise (· ≤ ·) → (ins1 x l).Pairwise (· ≤ ·)
  | [], _ => List.pairwise_singleton _ _
  | y :: r, h => by
    unfold ins1
    cases hd : decide (x ≤ y) with
    | true =>
      have hxy := of_decide_eq_true hd
      refine List.pairwise_cons.2 ⟨fun z hz => ?_, h⟩
      rcases List.mem_cons.1 hz with rfl | hz
      · exact hxy
      · exact Int.le_trans hxy ((List.pairwise_cons.1 h).1 z hz)
    | false =>
      have hxy := of_decide_eq_false hd
      refine List.pairwise_cons.2 ⟨fun z hz => ?_, ins1_pw x r (List.pairwise_cons.1 h).2⟩
      rcases List.mem_cons.1 ((ins1_perm x r).mem_iff.1 hz) with rfl | hz
      · omega
      · exact (List.pairwise_cons.1 h).1 z hz
theorem sorted_pw0 : ∀ l : List Int, (sorted l).Pairwise (· ≤ ·)
  | [] => List.Pairwise.nil
  | x :: r => ins1_pw x _ (sorted_pw0 r)
theorem sorted_eq (l : List Int) : sorted l = l.mergeSort fun x y => decide (x ≤ y) := by
  refine List.Perm.eq_of_pairwise (le := (· ≤ ·)) (fun a b _ _ h1 h2 => Int.le_antisymm h1 h2) (sorted_pw0 l) ?_ ((sorted_perm0 l).trans (List.mergeSort_perm _ _).symm)
  have := List.pairwise_mergeSort (le := fun (x y : Int) => decide (x ≤ y)) (fun a b c h1 h2 => by simp at *; omega) (fun a b => by simp; omega) l
  exact this.imp fun h => by simpa using h
def sortF (l : List Int) (_ : Unit) : Option (List Int) := bif decide (l.length < 4611686018427387904) then some (sorted l) else none
theorem sort_mut {P : Program} {f : FuncId} {T : TypeId}
    (hs : ∀ (blk off cap : Nat) (zs : List Int) (w : World), Holds (Value.int .i64) w blk off zs.toArray → blk < w.heap.size → zs.length < 4611686018427387904 →
      Calls P f #[.slice (some ⟨blk, off, none⟩) zs.length cap] w fun e w' => e = .returned (.tuple #[]) ∧ ∃ n os, w' = grow (putRow (Value.int .i64) (Sort.ahead w n) blk off (zs.mergeSort fun x y => decide (x ≤ y)).toArray) os)
    (hn : ∀ (p : Option Addr) (cap : Nat) (w : World), Calls P f #[.slice p 0 cap] w fun e w' => e = .returned (.tuple #[]) ∧ w' = w) : MutOk P f T [.int .i64] [] true sortF := by
  intro l x r w v vals base Fz Rd xs hx hown hbase hrows hFz hRd hno hargs
  simp only [PTIs] at hargs
  subst hargs
  change List Int at l
  rcases cond_some hx with ⟨hc, hh⟩ | ⟨_, h2⟩
  · have hlen := of_decide_eq_true hc
    cases hh
    rcases hown.2 with ⟨rfl, h0⟩ | ⟨g, cap, cur, rfl, hg, hh0, hle, hmax, hsz, htk⟩
    · have hl0 : l = [] := List.eq_nil_of_length_eq_zero h0
      subst hl0
      refine (hn none 0 w).mono fun e w' hw => ?_
      obtain ⟨rfl, rfl⟩ := hw
      refine ⟨_, xs, rfl, fun _ => rfl, by simpa [sorted] using hown, by simpa [sorted] using hrows, fun k hk => .inl hk, ⟨rfl, rfl, rfl⟩, hbase, fun k hk _ => rfl⟩
    · have hle' : List.length (α := Int) l ≤ cap := hle
      have hcell : ∀ j (hj : j < l.length), cur[j]? = some (.int .i64 l[j]) := fun j hj => by
        have h1 := hrows j l[j] (List.getElem?_eq_getElem hj)
        simp only [TupIs, SKIs, List.length_cons, List.length_nil, Nat.zero_add, Nat.mul_one] at h1
        obtain ⟨u, hu, hu2⟩ := h1
        have h2 : ((xs.drop j).take 1)[0]? = some u := by rw [hu]; rfl
        rw [List.getElem?_take_of_lt (by omega), List.getElem?_drop, Nat.add_zero, ← htk, List.getElem?_take_of_lt (by show j < List.length (α := Int) l * 1; omega)] at h2
        rw [hu2] at h2
        simpa using h2
      have hH : Holds (Value.int .i64) w g 0 l.toArray := fun j hj => by
        have hj' : j < l.length := by simpa using hj
        rw [Nat.zero_add]
        refine ⟨?_, by simp [World.frozen?, hh0]⟩
        simp only [World.cell?, hh0]
        rw [hcell j hj', getElem!_pos l.toArray j hj]
        simp
      have hgs : g < w.heap.size := (Array.getElem?_eq_some_iff.1 hh0).1
      refine (hs g 0 cap l w hH hgs hlen).mono fun e w' hw => ?_
      obtain ⟨rfl, n, os, rfl⟩ := hw
      have hsl : (sorted l).length = l.length := by rw [sorted_eq, List.length_mergeSort]
      have hsl' : (l.mergeSort fun x y => decide (x ≤ y)).length = l.length := List.length_mergeSort _
      generalize hd : (l.mergeSort fun x y => decide (x ≤ y)) = d at *
      have hds : sorted l = d := (sorted_eq l).trans hd
      have hcs : l.length ≤ cur.size := by rw [hsz]; show l.length ≤ cap * 1; omega
      have hput : (grow (putRow (Value.int .i64) (Sort.ahead w n) g 0 d.toArray) os).heap[g]? = some (.cells (putCells (Value.int .i64) 0 d.toArray cur) T (0, 0)) := by
        rw [heap_grow_old _ _ (by simpa using hgs)]
        unfold putRow mapBlock
        simp only [Array.getElem?_modify, if_true]
        show (w.heap[g]?).map _ = _
        rw [hh0]
        rfl
      have hother : ∀ k, k < w.heap.size → k ≠ g → (grow (putRow (Value.int .i64) (Sort.ahead w n) g 0 d.toArray) os).heap[k]? = w.heap[k]? := fun k hk hne => by
        rw [heap_grow_old _ _ (by simpa using hk)]
        unfold putRow mapBlock
        simp only [Array.getElem?_modify, if_neg (Ne.symm hne)]
        rfl
      have hxs' : ((putCells (Value.int .i64) 0 d.toArray cur).toList.take d.length) = d.map (Value.int .i64) := by
        apply List.ext_getElem?
        intro q
        by_cases hq : q < d.length
        · rw [List.getElem?_take_of_lt hq, List.getElem?_map, List.getElem?_eq_getElem hq, Array.getElem?_toList]
          unfold putCells
          rw [Array.getElem?_mapIdx, Array.getElem?_eq_getElem (by omega)]
          simp only [Option.map_some, Nat.zero_le, true_and, Nat.zero_add, List.size_toArray, hq, if_true, Nat.sub_zero]
          rw [getElem!_pos d.toArray q (by simpa using hq)]
          simp
        · rw [List.getElem?_eq_none (by rw [List.length_take]; omega), List.getElem?_eq_none (by simpa using hq)]
      refine ⟨_, d.map (Value.int .i64), rfl, fun _ => rfl, ⟨by rw [hds, List.length_map]; show d.length = d.length * 1; omega, .inr ⟨g, cap, _, by rw [hds]; exact congrArg (fun q => Value.slice (some ⟨g, 0, none⟩) q cap) hsl'.symm, hg, hput, by rw [hds]; exact Nat.le_trans (Nat.le_of_eq hsl') hle', hmax, by simpa [putCells] using hsz, by rw [hds]; show List.take (d.length * 1) _ = _; rw [Nat.mul_one]; exact hxs'⟩⟩, ?_, fun k hk => .inl hk, ⟨rfl, rfl, rfl⟩, ?_, fun k hk hne => ?_⟩
      · intro i z hz
        rw [hds] at hz
        have hz' : d[i]? = some (show Int from z) := hz
        have hi : i < d.length := (List.getElem?_eq_some_iff.1 hz').1
        simp only [TupIs, SKIs, List.length_cons, List.length_nil, Nat.zero_add, Nat.mul_one]
        refine ⟨.int .i64 z, ?_, rfl⟩
        apply List.ext_getElem?
        intro q
        cases q with
        | zero => rw [List.getElem?_take_of_lt (by omega), List.getElem?_drop, Nat.add_zero, List.getElem?_map, hz']; rfl
        | succ q => rw [List.getElem?_eq_none (by rw [List.length_take]; omega), List.getElem?_eq_none (by simp)]
      · simp; omega
      · exact hother k hk (fun e => hne (by rw [e]; rfl))
  · cases h2
end Go.Proofs.YtggikacbelogcaaGreat.Ex
