/- Part 4 of what the statements' rows lean on: the executor, the functions' trees, and what they come to in plain words. -/
import Derived.Test.YthlhbnaloefncaaGreatDoorS3
import Derived.Test.YthlhbnaloefncaaGreatDoorProg
import Derived.Lib.Walk
import Derived.Lib.SliceRun
import Derived.Lib.AppendZeros
import Derived.Laws.Externs
import Derived.Laws.NewBlocks
import Derived.OwnWalk
import Derived.KernelRfl
import Derived.Lib.SpaceUEq
import Derived.Lib.FieldsU
import Derived.Laws.RangeAny
import Derived.Lib.SplitLaws
import Derived.Lib.IndexBytes
import Derived.Lib.Strings
namespace Go.Proofs.YthlhbnaloefncaaGreatDoor.Ex
open Go
set_option linter.unusedVariables false
set_option linter.unusedSimpArgs false
theorem w64_id {n : Int} (h0 : -9223372036854775808 ≤ n) (h1 : n ≤ 9223372036854775807) : w64 n = n := by
  unfold w64 IntKind.wrap
  simp [IntKind.signed, IntKind.bits, Int.bmod]
  omega
theorem num_In_spec (k : Nat) (n lo hi : Int) : num_In k (n, lo, hi) = some (decide (lo ≤ n ∧ n ≤ hi)) := by
  unfold num_In
  by_cases h1 : lo ≤ n <;> by_cases h2 : n ≤ hi <;> simp [h1, h2]
def nodeB (n : Int) : Bool := decide (1 ≤ n ∧ n ≤ 255)
theorem check_Node_spec (k : Nat) (n : Int) : check_Node k n = some (nodeB n) := by
  unfold check_Node
  rw [num_In_spec]
  unfold nodeB
  by_cases h : (1 ≤ n ∧ n ≤ 255) <;> simp [h]
def wayB (a b : Int) : Bool := nodeB a && nodeB b && !decide (a = b)
theorem check_way_spec (k : Nat) (a b : Int) : check_way k (a, b) = some (wayB a b) := by
  unfold check_way wayB
  simp only [check_Node_spec, Option.bind_some]
  cases nodeB a <;> cases nodeB b <;> by_cases h : a = b <;> simp [h]
def spanB (s e : Int) : Bool := decide (0 ≤ s ∧ s < e ∧ e ≤ 2147483647)
theorem check_span_spec (k : Nat) (s e : Int) (he : -9223372036854775808 ≤ e) (he' : e ≤ 9223372036854775807) (hs : -9223372036854775808 ≤ s) (hs' : s ≤ 9223372036854775807) : check_span k (s, e) = some (spanB s e) := by
  unfold check_span spanB
  simp only [num_In_spec, Option.bind_some]
  by_cases h0 : e = -9223372036854775808
  · subst h0
    have : w64 (-9223372036854775808 - 1) = 9223372036854775807 := by decide
    rw [this]
    by_cases h1 : 0 ≤ s <;> simp [h1, hs'] <;> omega
  · rw [w64_id (by omega) (by omega)]
    by_cases h1 : 0 ≤ s <;> by_cases h2 : s ≤ e - 1 <;> by_cases h3 : 1 ≤ e <;> by_cases h4 : e ≤ 2147483647 <;> simp [h1, h2, h3, h4] <;> omega
def conB (c : GContact) : Bool := wayB c.2.1 c.2.2.1 && spanB c.2.2.2.1 c.2.2.2.2.1 && decide (1 ≤ c.1 ∧ c.1 ≤ 1048576) && decide (1 ≤ c.2.2.2.2.2 ∧ c.2.2.2.2.2 ≤ 2147483647)
theorem check_Contact_spec (k : Nat) (c : GContact) (h1 : -9223372036854775808 ≤ c.2.2.2.1 ∧ c.2.2.2.1 ≤ 9223372036854775807) (h2 : -9223372036854775808 ≤ c.2.2.2.2.1 ∧ c.2.2.2.2.1 ≤ 9223372036854775807) : check_Contact k c = some (conB c) := by
  unfold check_Contact conB
  simp only [check_way_spec, check_span_spec _ _ _ h2.1 h2.2 h1.1 h1.2, num_In_spec, Option.bind_some]
  cases wayB c.2.1 c.2.2.1 <;> cases spanB c.2.2.2.1 c.2.2.2.2.1 <;> by_cases h3 : (1 ≤ c.1 ∧ c.1 ≤ 1048576) <;> by_cases h4 : (1 ≤ c.2.2.2.2.2 ∧ c.2.2.2.2.2 ≤ 2147483647) <;> simp [h3, h4]
def cmpI (a b : Int) : Int := if a < b then -1 else if b < a then 1 else 0
theorem cmp_Compare_spec (k : Nat) (a b : Int) : cmp_Compare_int k (a, b) = some (cmpI a b) := by
  unfold cmp_Compare_int cmpI cmp_isNaN_int
  by_cases h1 : a < b <;> by_cases h2 : b < a <;> simp [h1, h2]
theorem cmp_Or4_spec (k : Nat) (a b c d : Int) : cmp_Or_int (k + 5) [a, b, c, d] = some (if a ≠ 0 then a else if b ≠ 0 then b else if c ≠ 0 then c else d) := by
  unfold cmp_Or_int
  have e1 : w64 (0 + 1) = 1 := by decide
  have e2 : w64 (1 + 1) = 2 := by decide
  have e3 : w64 (2 + 1) = 3 := by decide
  have e4 : w64 (3 + 1) = 4 := by decide
  simp only [cmp_Or_int_L0, List.length_cons, List.length_nil, e1, e2, e3, e4]
  by_cases h1 : a = 0 <;> by_cases h2 : b = 0 <;> by_cases h3 : c = 0 <;> by_cases h4 : d = 0 <;> simp [h1, h2, h3, h4, e1, e2, e3, e4]
def cmpC (a b : GContact) : Int := if cmpI a.2.1 b.2.1 ≠ 0 then cmpI a.2.1 b.2.1 else if cmpI a.2.2.1 b.2.2.1 ≠ 0 then cmpI a.2.2.1 b.2.2.1 else if cmpI a.2.2.2.1 b.2.2.2.1 ≠ 0 then cmpI a.2.2.2.1 b.2.2.2.1 else cmpI a.1 b.1
theorem contacts_Compare_spec (k : Nat) (a b : GContact) : contacts_Compare (k + 5) (a, b) = some (cmpC a b) := by
  unfold contacts_Compare cmpC
  simp only [cmp_Compare_spec, Option.bind_some, cmp_Or4_spec]
def ovB (a b : GContact) : Bool := decide (a.2.1 = b.2.1) && decide (a.2.2.1 = b.2.2.1) && decide (max a.2.2.2.1 b.2.2.2.1 < min a.2.2.2.2.1 b.2.2.2.2.1)
theorem contacts_overlap_spec (k : Nat) (a b : GContact) : contacts_overlap k (a, b) = some (ovB a b) := by
  unfold contacts_overlap ovB
  have hx : ∀ x y : Int, mx x y = max x y := by intro x y; unfold mx; omega
  have hn : ∀ x y : Int, mn x y = min x y := by intro x y; unfold mn; omega
  simp only [hx, hn]
  by_cases h1 : a.2.1 = b.2.1 <;> by_cases h2 : a.2.2.1 = b.2.2.1 <;> by_cases h3 : max a.2.2.2.1 b.2.2.2.1 < min a.2.2.2.2.1 b.2.2.2.2.1 <;> simp [h1, h2, h3]
theorem contacts_of_spec (k : Nat) (id : Int) : contacts_of k id = some id := by unfold contacts_of; rfl
theorem of1_spec (k : Nat) (c : GContact) (id : Int) : contacts_of_1 k (c, id) = some (decide (c.1 = id)) := by
  unfold contacts_of_1
  by_cases h : c.1 = id <;> simp [h]
theorem getD_drop {α : Type} {s : List α} {i : Nat} {d : α} (h : i < s.length) : s.drop i = s.getD i d :: s.drop (i + 1) := by
  rw [List.drop_eq_getElem_cons h, List.getD_eq_getElem?_getD, List.getElem?_eq_getElem h]; rfl
theorem i_lt {i n : Nat} : decide ((i : Int) < Int.ofNat n) = decide (i < n) := by
  simp
theorem w64_succ {i : Nat} (h : i < 4611686018427387904) : w64 ((i : Int) + 1) = ((i + 1 : Nat) : Int) := by
  rw [w64_id (by omega) (by omega)]; omega
def firstI (p : GContact → Bool) (s : List GContact) (i : Nat) : Unit ⊕ Int := match (s.drop i).findIdx? p with
  | none => .inl ()
  | some j => .inr ((i + j : Nat) : Int)
theorem firstI_end {p : GContact → Bool} {s : List GContact} {i : Nat} (h : s.length ≤ i) : firstI p s i = .inl () := by
  unfold firstI; rw [List.drop_eq_nil_of_le h]; rfl
theorem firstI_step {p : GContact → Bool} {s : List GContact} {i : Nat} {d : GContact} (h : i < s.length) : firstI p s i = if p (s.getD i d) then .inr (i : Int) else firstI p s (i + 1) := by
  unfold firstI
  rw [getD_drop (d := d) h, List.findIdx?_cons]
  generalize s.getD i d = x
  by_cases hp : p x = true
  · simp [hp]
  · simp only [hp]
    cases (s.drop (i + 1)).findIdx? p with
    | none => rfl
    | some j => simp; omega
theorem IndexFunc_of_L0_spec (s : List GContact) (f : Int) (hs : s.length < 4611686018427387904) : ∀ (n i k : Nat), s.length - i = n → n < k → IndexFunc_of_L0 k (s, f, Int.ofNat s.length, (i : Int)) = some (firstI (fun c => decide (c.1 = f)) s i)
  | 0, i, k + 1, hn, hk => by
    rw [firstI_end (by omega)]
    simp only [IndexFunc_of_L0]
    rw [i_lt, decide_eq_false (by omega)]
    rfl
  | n + 1, i, k + 1, hn, hk => by
    have hi : i < s.length := by omega
    rw [firstI_step (d := (0, 0, 0, 0, 0, 0)) hi]
    simp only [IndexFunc_of_L0]
    rw [i_lt, decide_eq_true hi, decide_eq_true (Int.natCast_nonneg i)]
    simp only [cond_true, of1_spec, Option.bind_some, Int.toNat_natCast, w64_succ (by omega : i < 4611686018427387904), IndexFunc_of_L0_spec s f hs n (i + 1) k (by omega) (by omega)]
    generalize s.getD i (0, 0, 0, 0, 0, 0) = x
    by_cases h : x.1 = f <;> simp [h]
def findIx (p : GContact → Bool) (s : List GContact) : Int := match s.findIdx? p with
  | none => -1
  | some j => (j : Int)
theorem IndexFunc_of_spec (s : List GContact) (f : Int) (k : Nat) (hs : s.length < 4611686018427387904) (hk : s.length < k) : IndexFunc_of k (s, f) = some (findIx (fun c => decide (c.1 = f)) s) := by
  unfold IndexFunc_of findIx
  have := IndexFunc_of_L0_spec s f hs s.length 0 k (by omega) hk
  rw [Int.natCast_zero] at this
  simp only [this, Option.bind_some]
  unfold firstI
  rw [List.drop_zero]
  cases s.findIdx? (fun c => decide (c.1 = f)) <;> simp
def findC (l : List GContact) (id : Int) : GContact × Bool := match l.find? (fun c => decide (c.1 = id)) with
  | some c => (c, true)
  | none => ((0, 0, 0, 0, 0, 0), false)
theorem contacts_Find_spec (l : List GContact) (id : Int) (k : Nat) (hs : l.length < 4611686018427387904) (hk : l.length < k) : contacts_Find k (l, id) = some (findC l id) := by
  unfold contacts_Find findC
  simp only [contacts_of_spec, Option.bind_some, IndexFunc_of_spec l id k hs hk]
  unfold findIx
  cases h : l.findIdx? (fun c => decide (c.1 = id)) with
  | none =>
    have : l.find? (fun c => decide (c.1 = id)) = none := by
      rw [List.find?_eq_none]
      intro x hx
      have := List.findIdx?_eq_none_iff.1 h x hx
      simpa using this
    rw [this]
    simp
  | some j =>
    obtain ⟨hj, hp, hlt⟩ := List.findIdx?_eq_some_iff_getElem.1 h
    have : l.find? (fun c => decide (c.1 = id)) = some l[j] := by
      rw [List.find?_eq_some_iff_getElem]
      exact ⟨hp, j, hj, rfl, fun q hq => by simpa using hlt q hq⟩
    rw [this]
    have hg : List.getD l j (0, 0, 0, 0, 0, 0) = l[j] := by rw [List.getD_eq_getElem?_getD, List.getElem?_eq_getElem hj]; rfl
    simp [hj, hg]
theorem drop_same {α : Type} {a b : List α} {i : Nat} {d : α} (h : i < a.length) (hl : a.length = b.length) : (a.drop i = b.drop i) ↔ (a.getD i d = b.getD i d ∧ a.drop (i + 1) = b.drop (i + 1)) := by
  rw [getD_drop (s := a) (d := d) h, getD_drop (s := b) (d := d) (hl ▸ h), List.cons.injEq]
theorem eq6 (x y : GContact) : (x.1 == y.1 && (x.2.1 == y.2.1 && (x.2.2.1 == y.2.2.1 && (x.2.2.2.1 == y.2.2.2.1 && (x.2.2.2.2.1 == y.2.2.2.2.1 && x.2.2.2.2.2 == y.2.2.2.2.2))))) = decide (x = y) := by
  obtain ⟨a, b, c, d, e, f⟩ := x
  obtain ⟨a', b', c', d', e', f'⟩ := y
  rw [Bool.eq_iff_iff]
  simp
def sameI {α : Type} [DecidableEq α] (a b : List α) (i : Nat) : Unit ⊕ Bool := if a.drop i = b.drop i then .inl () else .inr false
theorem sameI_step {α : Type} [DecidableEq α] {a b : List α} {i : Nat} (d : α) (h : i < a.length) (hl : a.length = b.length) : sameI a b i = if a.getD i d = b.getD i d then sameI a b (i + 1) else .inr false := by
  unfold sameI
  by_cases h1 : a.getD i d = b.getD i d
  · rw [if_pos h1]
    by_cases h2 : a.drop (i + 1) = b.drop (i + 1)
    · rw [if_pos h2, if_pos ((drop_same h hl).2 ⟨h1, h2⟩)]
    · rw [if_neg h2, if_neg (fun h3 => h2 ((drop_same (d := d) h hl).1 h3).2)]
  · rw [if_neg h1, if_neg (fun h3 => h1 ((drop_same h hl).1 h3).1)]
theorem sameI_end {α : Type} [DecidableEq α] {a b : List α} {i : Nat} (h : a.length ≤ i) (hl : a.length = b.length) : sameI a b i = .inl () := by
  unfold sameI
  rw [List.drop_eq_nil_of_le h, List.drop_eq_nil_of_le (hl ▸ h), if_pos rfl]
theorem Equal_L0_spec (a b : List GContact) (hs : a.length < 4611686018427387904) (hl : a.length = b.length) : ∀ (n i k : Nat), a.length - i = n → n < k → slices_Equal_api_Contact_api_Contact_L0 k (a, b, Int.ofNat a.length, (i : Int)) = some (sameI a b i)
  | 0, i, k + 1, hn, hk => by
    rw [sameI_end (by omega) hl]
    simp only [slices_Equal_api_Contact_api_Contact_L0]
    rw [i_lt, decide_eq_false (by omega)]
    rfl
  | n + 1, i, k + 1, hn, hk => by
    have hi : i < a.length := by omega
    rw [sameI_step (0, 0, 0, 0, 0, 0) hi hl]
    simp only [slices_Equal_api_Contact_api_Contact_L0, eq6]
    rw [i_lt, decide_eq_true hi, decide_eq_true (Int.natCast_nonneg i), i_lt, decide_eq_true (hl ▸ hi : i < b.length)]
    simp only [cond_true, Int.toNat_natCast, w64_succ (by omega : i < 4611686018427387904), Equal_L0_spec a b hs hl n (i + 1) k (by omega) (by omega)]
    by_cases h : a.getD i (0, 0, 0, 0, 0, 0) = b.getD i (0, 0, 0, 0, 0, 0)
    · rw [if_pos h, decide_eq_true h]; rfl
    · rw [if_neg h, decide_eq_false h]; rfl
theorem Equal_spec (a b : List GContact) (k : Nat) (hs : a.length < 4611686018427387904) (hk : a.length < k) : slices_Equal_api_Contact_api_Contact k (a, b) = some (decide (a = b)) := by
  unfold slices_Equal_api_Contact_api_Contact
  dsimp only
  by_cases hl : a.length = b.length
  · have := Equal_L0_spec a b hs hl a.length 0 k (by omega) hk
    rw [Int.natCast_zero] at this
    rw [decide_eq_true (by rw [hl] : Int.ofNat a.length = Int.ofNat b.length)]
    simp only [this, Bool.not_true, cond_false, Option.bind_some]
    unfold sameI
    by_cases h : a = b <;> simp [h]
  · have : ¬ a = b := fun h => hl (by rw [h])
    have h' : ¬ (Int.ofNat a.length = Int.ofNat b.length) := fun h => hl (Int.ofNat.inj h)
    rw [decide_eq_false h', decide_eq_false this]
    rfl
theorem Clone_spec (l : List GContact) (k : Nat) (h : l.length ≤ 1000000000) : slices_Clone_api_Contact_api_Contact k l = some l := by
  unfold slices_Clone_api_Contact_api_Contact
  rw [decide_eq_true (by omega)]
  rfl
def keepC (id : Int) (c : GContact) : Bool := !decide (c.1 = id)
theorem filter_take_succ {α : Type} {p : α → Bool} {s : List α} {j : Nat} (d : α) (h : j < s.length) : (s.take (j + 1)).filter p = (s.take j).filter p ++ (if p (s.getD j d) then [s.getD j d] else []) := by
  rw [List.take_add_one, List.getD_eq_getElem?_getD, List.getElem?_eq_getElem h, List.filter_append]
  congr 1
  simp only [Option.toList, Option.getD_some]
  by_cases hp : p s[j] = true <;> simp [hp]
theorem take_set_self {α : Type} {t : List α} {i : Nat} {x : α} (h : i < t.length) : (t.set i x).take (i + 1) = t.take i ++ [x] := by
  rw [List.take_add_one, List.getElem?_set_self h, List.take_set_of_le (Nat.le_refl i)]
  rfl
theorem DeleteFunc_L0_spec (s : List GContact) (f : Int) (hs : s.length < 4611686018427387904) : ∀ (n i j k : Nat) (t : List GContact), t.length = s.length → s.length - j = n → n < k → i ≤ j → j ≤ s.length → t.take i = (s.take j).filter (keepC f) → t.drop j = s.drop j →
    ∃ (t' : List GContact) (i' : Nat), DeleteFunc_of_L0 k (t, f, (i : Int), (j : Int)) = some (.inl (t', (i' : Int))) ∧ t'.length = s.length ∧ i' ≤ s.length ∧ t'.take i' = s.filter (keepC f)
  | 0, i, j, k + 1, t, hl, hn, hk, hij, hj, h1, h2 => by
    refine ⟨t, i, ?_, hl, by omega, ?_⟩
    · simp only [DeleteFunc_of_L0]
      rw [i_lt, decide_eq_false (by omega)]
      rfl
    · rw [h1, List.take_of_length_le (by omega)]
  | n + 1, i, j, k + 1, t, hl, hn, hk, hij, hj, h1, h2 => by
    have hjt : j < t.length := by omega
    have hjs : j < s.length := by omega
    have hx : t.getD j (0, 0, 0, 0, 0, 0) = s.getD j (0, 0, 0, 0, 0, 0) := by
      have h3 := h2
      rw [getD_drop (d := (0, 0, 0, 0, 0, 0)) hjt, getD_drop (d := (0, 0, 0, 0, 0, 0)) hjs, List.cons.injEq] at h3
      exact h3.1
    have hd : t.drop (j + 1) = s.drop (j + 1) := by
      have h3 := h2
      rw [getD_drop (d := (0, 0, 0, 0, 0, 0)) hjt, getD_drop (d := (0, 0, 0, 0, 0, 0)) hjs, List.cons.injEq] at h3
      exact h3.2
    have hf := filter_take_succ (p := keepC f) (0, 0, 0, 0, 0, 0) hjs
    simp only [DeleteFunc_of_L0]
    rw [i_lt, decide_eq_true hjt, decide_eq_true (Int.natCast_nonneg j)]
    simp only [cond_true, of1_spec, Option.bind_some, Int.toNat_natCast, hx, w64_succ (by omega : j < 4611686018427387904), w64_succ (by omega : i < 4611686018427387904)]
    rw [i_lt, decide_eq_true (by omega : i < t.length), decide_eq_true (Int.natCast_nonneg i)]
    generalize hxx : s.getD j (0, 0, 0, 0, 0, 0) = x at *
    by_cases h : x.1 = f
    · rw [decide_eq_true h]
      refine DeleteFunc_L0_spec s f hs n i (j + 1) k t hl (by omega) (by omega) (by omega) (by omega) ?_ hd
      rw [hf, h1]
      simp [keepC, h]
    · rw [decide_eq_false h]
      simp only [cond_true, cond_false]
      refine DeleteFunc_L0_spec s f hs n (i + 1) (j + 1) k (t.set i x) (by simp [hl]) (by omega) (by omega) (by omega) (by omega) ?_ ?_
      · rw [take_set_self (by omega), hf, h1]
        simp [keepC, h]
      · rw [List.drop_set_of_lt (by omega)]
        exact hd
theorem findIx_cases (p : GContact → Bool) (s : List GContact) : (findIx p s = -1 ∧ ∀ x ∈ s, p x = false) ∨ ∃ j : Nat, findIx p s = (j : Int) ∧ ∃ h : j < s.length, p s[j] = true ∧ ∀ q (hq : q < j), p (s[q]'(by omega)) = false := by
  unfold findIx
  cases h : s.findIdx? p with
  | none => exact .inl ⟨rfl, List.findIdx?_eq_none_iff.1 h⟩
  | some j =>
    obtain ⟨hj, hp, hlt⟩ := List.findIdx?_eq_some_iff_getElem.1 h
    exact .inr ⟨j, rfl, hj, hp, fun q hq => by simpa using hlt q hq⟩
theorem DeleteFunc_spec (s : List GContact) (f : Int) (k : Nat) (hs : s.length < 4611686018427387904) (hk : s.length < k) : DeleteFunc_of k s f = some (s.filter (keepC f)) := by
  unfold DeleteFunc_of
  simp only [IndexFunc_of_spec s f k hs hk, Option.bind_some]
  rcases findIx_cases (fun c => decide (c.1 = f)) s with ⟨h1, h2⟩ | ⟨j, h1, hj, hp, hlt⟩
  · rw [h1]
    have : s.filter (keepC f) = s := List.filter_eq_self.2 (fun x hx => by have := h2 x hx; simp [keepC]; simpa using this)
    rw [this]
    rfl
  · rw [h1, decide_eq_false (by omega)]
    simp only [cond_false, w64_succ (by omega : j < 4611686018427387904)]
    have hpre : (s.take j).filter (keepC f) = s.take j := List.filter_eq_self.2 (fun x hx => by
      obtain ⟨q, hq, rfl⟩ := List.mem_iff_getElem.1 hx
      have hq' : q < j := by rw [List.length_take] at hq; omega
      have := hlt q hq'
      simp only [List.getElem_take, keepC]
      simpa using this)
    obtain ⟨t', i', e1, e2, e3, e4⟩ := DeleteFunc_L0_spec s f hs (s.length - (j + 1)) j (j + 1) k s rfl rfl (by omega) (by omega) (by omega) (by
      rw [filter_take_succ (p := keepC f) (0, 0, 0, 0, 0, 0) hj, hpre, List.getD_eq_getElem?_getD, List.getElem?_eq_getElem hj]
      have : s[j].1 = f := by simpa using hp
      simp [keepC, this]) rfl
    rw [e1]
    have hcl : (clearL t' i' ((0, 0, 0, 0, 0, 0) : GContact)).length = t'.length := by
      unfold clearL
      rw [List.length_append, List.length_take, List.length_replicate]; omega
    have htk : (clearL t' i' ((0, 0, 0, 0, 0, 0) : GContact)).take i' = t'.take i' := by
      unfold clearL
      rw [List.take_append_of_le_length (by rw [List.length_take]; omega), List.take_take, Nat.min_self]
    have hle : decide ((i' : Int) ≤ Int.ofNat t'.length) = true := decide_eq_true (by rw [e2]; exact Int.ofNat_le.2 e3)
    simp only [Option.bind_some, Int.toNat_natCast, decide_eq_true (Int.natCast_nonneg i'), hle, hcl, cond_true, htk, e4]
theorem contacts_Delete_spec (l : List GContact) (id : Int) (k : Nat) (hs : l.length ≤ 1000000000) (hk : l.length < k) : contacts_Delete k (l, id) = some (l.filter (keepC id), if (l.filter (keepC id)).length = l.length then 6 else 0) := by
  unfold contacts_Delete
  simp only [Clone_spec l k hs, contacts_of_spec, Option.bind_some, DeleteFunc_spec l id k (by omega) hk]
  by_cases h : (l.filter (keepC id)).length = l.length
  · rw [decide_eq_true (by rw [h]), if_pos h]; rfl
  · rw [decide_eq_false (fun e => h (Int.ofNat.inj e)), if_neg h]; rfl
theorem drop_filter {p : GContact → Bool} {s : List GContact} {i : Nat} (d : GContact) (h : i < s.length) : (s.drop i).filter p = (bif p (s.getD i d) then [s.getD i d] else []) ++ (s.drop (i + 1)).filter p := by
  rw [getD_drop (d := d) h, List.filter_cons]
  cases hp : p (s.getD i d) <;> simp
def rated (c : GContact) (r : Int) : GContact := (c.1, c.2.1, c.2.2.1, c.2.2.2.1, c.2.2.2.2.1, r)
def chgC (l : List GContact) (id rate : Int) : List GContact × Int :=
  if rate < 1 ∨ 2147483647 < rate then (l, 1) else match l.findIdx? (fun c => decide (c.1 = id)) with
    | none => (l, 6)
    | some j => (l.set j (rated (l.getD j (0, 0, 0, 0, 0, 0)) rate), 0)
theorem contacts_Change_spec (l : List GContact) (id rate : Int) (k : Nat) (hs : l.length ≤ 1000000000) (hk : l.length < k) : contacts_Change k (l, id, rate) = some (chgC l id rate) := by
  unfold contacts_Change chgC
  simp only [Clone_spec l k hs, contacts_of_spec, Option.bind_some, IndexFunc_of_spec l id k (by omega) hk]
  by_cases h1 : rate < 1
  · simp [h1]
  · by_cases h2 : 2147483647 < rate
    · simp [h1, h2]
    · rw [if_neg (by omega), decide_eq_false h1, decide_eq_false h2]
      simp only [cond_false]
      unfold findIx
      cases h : l.findIdx? (fun c => decide (c.1 = id)) with
      | none => rfl
      | some j =>
        obtain ⟨hj, _, _⟩ := List.findIdx?_eq_some_iff_getElem.1 h
        have e1 : decide ((j : Int) < 0) = false := decide_eq_false (by omega)
        simp only [e1, cond_false, decide_eq_true (Int.natCast_nonneg j), cond_true, Int.toNat_natCast]
        rw [i_lt, decide_eq_true hj]
        rfl
theorem cmpI_cases (a b : Int) : (a < b ∧ cmpI a b = -1) ∨ (a = b ∧ cmpI a b = 0) ∨ (b < a ∧ cmpI a b = 1) := by
  unfold cmpI
  by_cases h1 : a < b
  · exact .inl ⟨h1, if_pos h1⟩
  · by_cases h2 : b < a
    · exact .inr (.inr ⟨h2, by rw [if_neg h1, if_pos h2]⟩)
    · exact .inr (.inl ⟨by omega, by rw [if_neg h1, if_neg h2]⟩)
theorem cmp_neg (a b : GContact) : cmpC b a = - cmpC a b := by
  unfold cmpC cmpI
  repeat' split <;> omega
def leftC (now : Int) (l : List GContact) : List GContact := l.filter fun c => decide (now < c.2.2.2.2.1)
def goneC (now : Int) (l : List GContact) : List Int := (l.filter fun c => !decide (now < c.2.2.2.2.1)).map fun c => c.1
theorem leftC_step {now : Int} {l : List GContact} {i : Nat} (d : GContact) (h : i < l.length) : leftC now (l.drop i) = (bif decide (now < (l.getD i d).2.2.2.2.1) then [l.getD i d] else []) ++ leftC now (l.drop (i + 1)) := by
  unfold leftC
  exact drop_filter d h
theorem goneC_step {now : Int} {l : List GContact} {i : Nat} (d : GContact) (h : i < l.length) : goneC now (l.drop i) = (bif decide (now < (l.getD i d).2.2.2.2.1) then [] else [(l.getD i d).1]) ++ goneC now (l.drop (i + 1)) := by
  unfold goneC
  rw [drop_filter d h, List.map_append]
  cases decide (now < (l.getD i d).2.2.2.2.1) <;> rfl
theorem leftC_len (now : Int) (l : List GContact) : (leftC now l).length ≤ l.length := List.length_filter_le _ _
theorem goneC_len (now : Int) (l : List GContact) : (goneC now l).length ≤ l.length := by unfold goneC; rw [List.length_map]; exact List.length_filter_le _ _
theorem Expire_L0_spec (l : List GContact) (now : Int) (hs : l.length ≤ 1000000000) : ∀ (n i k : Nat) (a : List GContact) (g : List Int), l.length - i = n → n < k → a.length ≤ i → g.length ≤ i → i ≤ l.length → contacts_Expire_L0 k (now, a, g, l, Int.ofNat l.length, (i : Int)) = some (.inl (a ++ leftC now (l.drop i), g ++ goneC now (l.drop i)))
  | 0, i, k + 1, a, g, hn, hk, ha, hg, hi => by
    rw [List.drop_eq_nil_of_le (by omega)]
    simp only [contacts_Expire_L0]
    rw [i_lt, decide_eq_false (by omega)]
    simp [leftC, goneC]
  | n + 1, i, k + 1, a, g, hn, hk, ha, hg, _ => by
    have hi : i < l.length := by omega
    rw [leftC_step (0, 0, 0, 0, 0, 0) hi, goneC_step (0, 0, 0, 0, 0, 0) hi]
    simp only [contacts_Expire_L0]
    rw [i_lt, decide_eq_true hi, decide_eq_true (Int.natCast_nonneg i), Int.toNat_natCast]
    simp only [cond_true, w64_succ (by omega : i < 4611686018427387904)]
    generalize l.getD i (0, 0, 0, 0, 0, 0) = x
    have h1 : decide ((List.length a + List.length [x]) * 48 ≤ 140737488355328) = true := decide_eq_true (by simp only [List.length_cons, List.length_nil]; omega)
    have h2 : decide ((List.length g + List.length [x.1]) * 8 ≤ 140737488355328) = true := decide_eq_true (by simp only [List.length_cons, List.length_nil]; omega)
    rw [h1, h2]
    by_cases h : now < x.2.2.2.2.1
    · rw [decide_eq_true h]
      simp only [cond_true, Expire_L0_spec l now hs n (i + 1) k (a ++ [x]) g (by omega) (by omega) (by simp; omega) (by omega) (by omega)]
      simp
    · rw [decide_eq_false h]
      simp only [cond_true, cond_false, Expire_L0_spec l now hs n (i + 1) k a (g ++ [x.1]) (by omega) (by omega) (by omega) (by simp; omega) (by omega)]
      simp
theorem contacts_Expire_spec (l : List GContact) (now : Int) (k : Nat) (hs : l.length ≤ 1000000000) (hk : l.length < k) : contacts_Expire k (l, now) = some (leftC now l, sorted (goneC now l)) := by
  unfold contacts_Expire
  have := Expire_L0_spec l now hs l.length 0 k [] [] (by omega) hk (by simp) (by simp) (by omega)
  rw [Int.natCast_zero, List.drop_zero, List.nil_append, List.nil_append] at this
  simp only [this, Option.bind_some, slices_Sort, sortF]
  rw [decide_eq_true (by have := goneC_len now l; omega)]
  rfl
theorem sorted_perm (l : List Int) : (sorted l).Perm l := sorted_perm0 l
theorem Compare_spec (k : Nat) (a b : GContact) (h : 5 ≤ k) : contacts_Compare k (a, b) = some (cmpC a b) := by
  obtain ⟨k', rfl⟩ : ∃ k', k = k' + 5 := ⟨k - 5, by omega⟩
  exact contacts_Compare_spec k' a b
def rngC (c : GContact) : Prop := (-9223372036854775808 ≤ c.2.2.2.1 ∧ c.2.2.2.1 ≤ 9223372036854775807) ∧ (-9223372036854775808 ≤ c.2.2.2.2.1 ∧ c.2.2.2.2.1 ≤ 9223372036854775807)
abbrev z28 : GContact := (0, 0, 0, 0, 0, 0)
def okAt (l : List GContact) (i : Nat) : Bool := conB (l.getD i z28) && (!decide ((l.getD i z28).1 ∈ (l.take i).map (·.1)) && (bif decide (0 < i) then decide (cmpC (l.getD (i - 1) z28) (l.getD i z28) < 0) && !ovB (l.getD (i - 1) z28) (l.getD i z28) else true))
def chkR (l : List GContact) : Nat → Nat → Bool
  | 0, _ => true
  | n + 1, i => okAt l i && chkR l n (i + 1)
theorem has_put (x n : Int) (l : List Int) : hasN x (putN n l) = (decide (x = n) || hasN x l) := by
  unfold putN
  rw [Bool.eq_iff_iff]
  cases h : hasN n l with
  | true =>
    simp only [cond_true, Bool.or_eq_true, decide_eq_true_eq]
    constructor
    · exact .inr
    · rintro (rfl | h')
      · exact h
      · exact h'
  | false =>
    simp only [cond_false, Bool.or_eq_true, decide_eq_true_eq]
    rw [hasN_iff, hasN_iff, List.mem_append, List.mem_singleton]
    exact Or.comm
theorem mem_take_succ {l : List GContact} {i : Nat} (h : i < l.length) (x : Int) : decide (x ∈ (l.take (i + 1)).map (·.1)) = (decide (x = (l.getD i z28).1) || decide (x ∈ (l.take i).map (·.1))) := by
  rw [List.take_add_one, List.getElem?_eq_getElem h, List.getD_eq_getElem?_getD, List.getElem?_eq_getElem h, Bool.eq_iff_iff]
  simp only [Option.toList, List.map_append, List.mem_append, List.map_cons, List.map_nil, List.mem_singleton, Option.getD_some, Bool.or_eq_true, decide_eq_true_eq]
  exact Or.comm
theorem Right_L0_spec (l : List GContact) (hs : l.length ≤ 1000000000) (hr : ∀ c ∈ l, rngC c) : ∀ (n i k : Nat) (had : List Int), l.length - i = n → n + 5 < k → i ≤ l.length → (∀ x, hasN x had = decide (x ∈ (l.take i).map (·.1))) → contacts_Right_L0 k (l, had, l, Int.ofNat l.length, (i : Int)) = some (bif chkR l n i then .inl l else .inr false)
  | 0, i, k + 1, had, hn, hk, hi, hh => by
    simp only [contacts_Right_L0]
    rw [i_lt, decide_eq_false (by omega)]
    rfl
  | n + 1, i, k + 1, had, hn, hk, _, hh => by
    have hi : i < l.length := by omega
    have hx : l.getD i z28 ∈ l := by rw [List.getD_eq_getElem?_getD, List.getElem?_eq_getElem hi]; exact List.getElem_mem hi
    obtain ⟨r1, r2⟩ := hr _ hx
    have ih := Right_L0_spec l hs hr n (i + 1) k (putN (l.getD i z28).1 had) (by omega) (by omega) (by omega) (fun x => by rw [has_put, hh, mem_take_succ hi])
    have hcmp : ∀ a b, contacts_Compare k (a, b) = some (cmpC a b) := fun a b => Compare_spec k a b (by omega)
    simp only [contacts_Right_L0, chkR, okAt]
    rw [i_lt, decide_eq_true hi, decide_eq_true (Int.natCast_nonneg i), Int.toNat_natCast]
    simp only [cond_true, check_Contact_spec _ _ r1 r2, Option.bind_some, w64_succ (by omega : i < 4611686018427387904), hh, ih, hcmp, contacts_overlap_spec]
    cases conB (l.getD i z28) with
    | false => rfl
    | true =>
      cases decide ((l.getD i z28).1 ∈ (l.take i).map (·.1)) with
      | true => rfl
      | false =>
        by_cases h0 : 0 < i
        · have e1 : w64 ((i : Int) - 1) = ((i - 1 : Nat) : Int) := by rw [w64_id (by omega) (by omega)]; omega
          have e2 : decide ((0 : Int) < (i : Int)) = true := decide_eq_true (by omega)
          rw [e2, e1, decide_eq_true (Int.natCast_nonneg (i - 1)), Int.toNat_natCast, i_lt, decide_eq_true (by omega : i - 1 < l.length), decide_eq_true h0]
          generalize cmpC (l.getD (i - 1) z28) (l.getD i z28) = c
          generalize ovB (l.getD (i - 1) z28) (l.getD i z28) = v
          by_cases hc : 0 ≤ c
          · rw [decide_eq_true hc, decide_eq_false (by omega : ¬ c < 0)]
            cases v <;> rfl
          · rw [decide_eq_false hc, decide_eq_true (by omega : c < 0)]
            cases v
            · simp
            · rfl
        · have e2 : decide ((0 : Int) < (i : Int)) = false := decide_eq_false (by omega)
          rw [e2, decide_eq_false h0]
          simp
theorem contacts_Right_spec0 (l : List GContact) (k : Nat) (hs : l.length ≤ 1000000000) (hr : ∀ c ∈ l, rngC c) (hk : l.length + 5 < k) : contacts_Right k l = some (chkR l l.length 0 && decide (l.length ≤ 4096)) := by
  unfold contacts_Right
  have := Right_L0_spec l hs hr l.length 0 k [] (by omega) hk (by omega) (fun x => by simp [hasN])
  rw [Int.natCast_zero] at this
  simp only [this, Option.bind_some]
  cases chkR l l.length 0 with
  | false => rfl
  | true =>
    simp only [cond_true, Bool.true_and]
    by_cases h : l.length ≤ 4096
    · rw [decide_eq_true h, decide_eq_true (show Int.ofNat l.length ≤ 4096 from by have : Int.ofNat l.length = (l.length : Int) := rfl; omega)]; rfl
    · rw [decide_eq_false h, decide_eq_false (show ¬ Int.ofNat l.length ≤ 4096 from by have : Int.ofNat l.length = (l.length : Int) := rfl; omega)]; rfl
def ovR (a b : GContact) : Bool := decide (a.2.1 = b.2.1) && (decide (a.2.2.1 = b.2.2.1) && (decide (a.2.2.2.1 < b.2.2.2.2.1) && decide (b.2.2.2.1 < a.2.2.2.2.1)))
theorem chkR_all (l : List GContact) : ∀ n i, chkR l n i = true ↔ ∀ q, i ≤ q → q < i + n → okAt l q = true
  | 0, i => by simp [chkR]; omega
  | n + 1, i => by
    simp only [chkR, Bool.and_eq_true, chkR_all l n (i + 1)]
    constructor
    · rintro ⟨h1, h2⟩ q hq hq'
      rcases Nat.eq_or_lt_of_le hq with rfl | h
      · exact h1
      · exact h2 q h (by omega)
    · intro h
      exact ⟨h i (Nat.le_refl i) (by omega), fun q hq hq' => h q (by omega) (by omega)⟩
theorem cmp_lt_iff (a b : GContact) : cmpC a b < 0 ↔ a.2.1 < b.2.1 ∨ (a.2.1 = b.2.1 ∧ (a.2.2.1 < b.2.2.1 ∨ (a.2.2.1 = b.2.2.1 ∧ (a.2.2.2.1 < b.2.2.2.1 ∨ (a.2.2.2.1 = b.2.2.2.1 ∧ a.1 < b.1))))) := by
  unfold cmpC
  rcases cmpI_cases a.2.1 b.2.1 with ⟨h1, e1⟩ | ⟨h1, e1⟩ | ⟨h1, e1⟩ <;> rcases cmpI_cases a.2.2.1 b.2.2.1 with ⟨h2, e2⟩ | ⟨h2, e2⟩ | ⟨h2, e2⟩ <;> rcases cmpI_cases a.2.2.2.1 b.2.2.2.1 with ⟨h3, e3⟩ | ⟨h3, e3⟩ | ⟨h3, e3⟩ <;> rcases cmpI_cases a.1 b.1 with ⟨h4, e4⟩ | ⟨h4, e4⟩ | ⟨h4, e4⟩ <;> rw [e1, e2, e3, e4] <;> simp <;> omega
theorem cmp_trans {a b c : GContact} (h1 : cmpC a b < 0) (h2 : cmpC b c < 0) : cmpC a c < 0 := by
  rw [cmp_lt_iff] at *
  omega
theorem con_span {c : GContact} (h : conB c = true) : c.2.2.2.1 < c.2.2.2.2.1 := by
  unfold conB spanB at h
  simp only [Bool.and_eq_true, decide_eq_true_eq] at h
  omega
theorem ov_iff {a b : GContact} (ha : conB a = true) (hb : conB b = true) : ovB a b = ovR a b := by
  have h1 := con_span ha
  have h2 := con_span hb
  unfold ovB ovR
  rw [Bool.eq_iff_iff]
  simp only [Bool.and_eq_true, decide_eq_true_eq]
  omega
theorem ovR_false {a b : GContact} : ovR a b = false ↔ ¬ (a.2.1 = b.2.1 ∧ a.2.2.1 = b.2.2.1 ∧ a.2.2.2.1 < b.2.2.2.2.1 ∧ b.2.2.2.1 < a.2.2.2.2.1) := by
  unfold ovR
  rw [← Bool.not_eq_true]
  simp only [Bool.and_eq_true, decide_eq_true_eq]
theorem mem_take_ids {l : List GContact} {i : Nat} (hi : i ≤ l.length) (x : Int) : x ∈ (l.take i).map (·.1) ↔ ∃ j, j < i ∧ (l.getD j z28).1 = x := by
  rw [List.mem_map]
  constructor
  · rintro ⟨c, hc, rfl⟩
    obtain ⟨q, hq, rfl⟩ := List.mem_iff_getElem.1 hc
    have hq' : q < i := by rw [List.length_take] at hq; omega
    exact ⟨q, hq', by rw [List.getD_eq_getElem?_getD, List.getElem?_eq_getElem (by omega), List.getElem_take]; rfl⟩
  · rintro ⟨j, hj, rfl⟩
    refine ⟨l.getD j z28, ?_, rfl⟩
    rw [List.getD_eq_getElem?_getD, List.getElem?_eq_getElem (by omega)]
    exact List.mem_iff_getElem.2 ⟨j, by rw [List.length_take]; omega, by rw [List.getElem_take]; rfl⟩
theorem right_pairs {l : List GContact} {n : Nat} (hn : n ≤ l.length) (h : ∀ q, q < n → okAt l q = true) : ∀ i, i < n → ∀ j, j < i → cmpC (l.getD j z28) (l.getD i z28) < 0 ∧ ((l.getD j z28).2.1 = (l.getD i z28).2.1 → (l.getD j z28).2.2.1 = (l.getD i z28).2.2.1 → (l.getD j z28).2.2.2.2.1 ≤ (l.getD i z28).2.2.2.1) := by
  have hc : ∀ q, q < n → conB (l.getD q z28) = true := fun q hq => by have := h q hq; unfold okAt at this; simp only [Bool.and_eq_true] at this; exact this.1
  have hs : ∀ q, q + 1 < n → cmpC (l.getD q z28) (l.getD (q + 1) z28) < 0 ∧ ovB (l.getD q z28) (l.getD (q + 1) z28) = false := fun q hq => by
    have := h (q + 1) hq
    unfold okAt at this
    rw [decide_eq_true (by omega : 0 < q + 1)] at this
    simp only [Bool.and_eq_true, cond_true, Nat.add_sub_cancel, decide_eq_true_eq, Bool.not_eq_true'] at this
    exact this.2.2
  have step : ∀ q, q + 1 < n → (l.getD q z28).2.1 = (l.getD (q + 1) z28).2.1 → (l.getD q z28).2.2.1 = (l.getD (q + 1) z28).2.2.1 → (l.getD q z28).2.2.2.2.1 ≤ (l.getD (q + 1) z28).2.2.2.1 := fun q hq e1 e2 => by
    obtain ⟨s1, s2⟩ := hs q hq
    rw [ov_iff (hc q (by omega)) (hc (q + 1) hq), ovR_false] at s2
    rw [cmp_lt_iff] at s1
    have c1 := con_span (hc q (by omega))
    have c2 := con_span (hc (q + 1) hq)
    omega
  intro i
  induction i with
  | zero => intro _ j hj; omega
  | succ i ih =>
    intro hi j hj
    rcases Nat.eq_or_lt_of_le (Nat.lt_succ_iff.1 hj) with rfl | hj
    · exact ⟨(hs j hi).1, step j hi⟩
    · obtain ⟨i1, i2⟩ := ih (by omega) j hj
      obtain ⟨s1, _⟩ := hs i hi
      refine ⟨cmp_trans i1 s1, fun e1 e2 => ?_⟩
      rw [cmp_lt_iff] at i1 s1
      have c1 := con_span (hc i (by omega))
      have f1 : (l.getD j z28).2.1 = (l.getD i z28).2.1 := by omega
      have f2 : (l.getD j z28).2.2.1 = (l.getD i z28).2.2.1 := by omega
      have := i2 f1 f2
      omega
end Go.Proofs.YthlhbnaloefncaaGreatDoor.Ex
namespace Go.Proofs.YthlhbnaloefncaaGreatDoor.Ex
open Go
set_option linter.unusedVariables false
theorem mid_id {i j : Nat} (h : i + j < 4611686018427387904) : w64 (Int.fdiv (IntKind.wrap IntKind.u64 (w64 ((i : Int) + (j : Int)))) (2 ^ min (Int.toNat 1) 64)) = (((i + j) / 2 : Nat) : Int) := by
  have e1 : w64 ((i : Int) + (j : Int)) = ((i + j : Nat) : Int) := by rw [w64_id (by omega) (by omega)]; omega
  have e2 : IntKind.wrap IntKind.u64 ((i + j : Nat) : Int) = ((i + j : Nat) : Int) := by
    rw [IntKind.wrap_u64]; omega
  have e3 : (2 : Int) ^ min (Int.toNat 1) 64 = 2 := by decide
  rw [e1, e2, e3, Int.fdiv_eq_ediv_of_nonneg _ (by omega)]
  rw [w64_id (by omega) (by omega)]
  omega
theorem BS_L0_spec (l : List GContact) (t : GContact) (n : Int) (hs : l.length ≤ 1000000000) (hsort : ∀ i j, i < j → j < l.length → cmpC (l.getD i z28) (l.getD j z28) < 0) : ∀ (m i j k : Nat), j - i ≤ m → m + 5 < k → i ≤ j → j ≤ l.length → (∀ q, q < i → cmpC (l.getD q z28) t < 0) → (∀ q, j ≤ q → q < l.length → 0 ≤ cmpC (l.getD q z28) t) →
    ∃ r, r ≤ l.length ∧ (∀ q, q < r → cmpC (l.getD q z28) t < 0) ∧ (∀ q, r ≤ q → q < l.length → 0 ≤ cmpC (l.getD q z28) t) ∧ BinarySearchFunc_C_L0 k (l, (), t, n, (i : Int), (j : Int)) = some (.inl (l, (), t, n, (r : Int)))
  | m, i, j, k + 1, hm, hk, hij, hj, h1, h2 => by
    by_cases hlt : i < j
    · have hh : (i + j) / 2 < j ∧ i ≤ (i + j) / 2 := by omega
      have hcmp := Compare_spec k (l.getD ((i + j) / 2) z28) t (by omega)
      obtain ⟨m', rfl⟩ : ∃ m', m = m' + 1 := ⟨m - 1, by omega⟩
      simp only [BinarySearchFunc_C_L0]
      rw [decide_eq_true (by omega : (i : Int) < (j : Int)), mid_id (by omega), decide_eq_true (Int.natCast_nonneg ((i + j) / 2)), i_lt, decide_eq_true (by omega : (i + j) / 2 < l.length), Int.toNat_natCast]
      simp only [cond_true, hcmp, Option.bind_some, w64_succ (by omega : (i + j) / 2 < 4611686018427387904)]
      by_cases hc : cmpC (l.getD ((i + j) / 2) z28) t < 0
      · rw [decide_eq_true hc]
        exact BS_L0_spec l t n hs hsort m' ((i + j) / 2 + 1) j k (by omega) (by omega) (by omega) hj (fun q hq => by
          rcases Nat.eq_or_lt_of_le (Nat.lt_succ_iff.1 hq) with rfl | hq
          · exact hc
          · exact cmp_trans (hsort q _ hq (by omega)) hc) h2
      · rw [decide_eq_false hc]
        refine BS_L0_spec l t n hs hsort m' i ((i + j) / 2) k (by omega) (by omega) (by omega) (by omega) h1 (fun q hq hql => ?_)
        rcases Nat.eq_or_lt_of_le hq with rfl | hq
        · omega
        · rcases Int.lt_or_le (cmpC (l.getD q z28) t) 0 with h | h
          · exact absurd (cmp_trans (hsort _ q hq hql) h) hc
          · exact h
    · refine ⟨i, by omega, h1, fun q hq => h2 q (by omega), ?_⟩
      simp only [BinarySearchFunc_C_L0]
      rw [decide_eq_false (by omega)]
      rfl
theorem BS_spec (l : List GContact) (t : GContact) (k : Nat) (hs : l.length ≤ 1000000000) (hsort : ∀ i j, i < j → j < l.length → cmpC (l.getD i z28) (l.getD j z28) < 0) (hk : l.length + 6 < k) :
    ∃ r, r ≤ l.length ∧ (∀ q, q < r → cmpC (l.getD q z28) t < 0) ∧ (∀ q, r ≤ q → q < l.length → 0 ≤ cmpC (l.getD q z28) t) ∧ BinarySearchFunc_C k (l, t, ()) = some ((r : Int), decide (r < l.length ∧ cmpC (l.getD r z28) t = 0)) := by
  obtain ⟨r, h1, h2, h3, h4⟩ := BS_L0_spec l t (Int.ofNat l.length) hs hsort l.length 0 l.length k (by omega) (by omega) (by omega) (Nat.le_refl _) (fun q hq => by omega) (fun q hq hq' => by omega)
  refine ⟨r, h1, h2, h3, ?_⟩
  have h4' : BinarySearchFunc_C_L0 k (l, (), t, Int.ofNat l.length, 0, Int.ofNat l.length) = some (.inl (l, (), t, Int.ofNat l.length, (r : Int))) := h4
  unfold BinarySearchFunc_C
  simp only [h4', Option.bind_some]
  have hcmp := Compare_spec k (l.getD r z28) t (by omega)
  rw [i_lt]
  by_cases hr : r < l.length
  · rw [decide_eq_true hr, decide_eq_true (Int.natCast_nonneg r), Int.toNat_natCast]
    simp only [cond_true, hcmp, Option.bind_some, hr, true_and]
    by_cases hc : cmpC (l.getD r z28) t = 0
    · rw [decide_eq_true hc]; rfl
    · rw [decide_eq_false hc]; rfl
  · rw [decide_eq_false hr, decide_eq_false (show ¬ (r < l.length ∧ cmpC (l.getD r z28) t = 0) from fun h => hr h.1)]
    rfl
def insAt (l : List GContact) (r : Nat) (c : GContact) : List GContact := l.take r ++ c :: l.drop r
theorem Add1_spec (k : Nat) (x c : GContact) : contacts_Add_1 k (x, c) = some (ovB x c) := by
  unfold contacts_Add_1
  simp only [contacts_overlap_spec, Option.bind_some]
  cases ovB x c <;> rfl
theorem IndexFunc_ov_L0_spec (s : List GContact) (f : GContact) (hs : s.length < 4611686018427387904) : ∀ (n i k : Nat), s.length - i = n → n < k → IndexFunc_ov_L0 k (s, f, Int.ofNat s.length, (i : Int)) = some (firstI (fun c => ovB c f) s i)
  | 0, i, k + 1, hn, hk => by
    rw [firstI_end (by omega)]
    simp only [IndexFunc_ov_L0]
    rw [i_lt, decide_eq_false (by omega)]
    rfl
  | n + 1, i, k + 1, hn, hk => by
    have hi : i < s.length := by omega
    rw [firstI_step (d := (0, 0, 0, 0, 0, 0)) hi]
    simp only [IndexFunc_ov_L0]
    rw [i_lt, decide_eq_true hi, decide_eq_true (Int.natCast_nonneg i)]
    simp only [cond_true, Add1_spec, Option.bind_some, Int.toNat_natCast, w64_succ (by omega : i < 4611686018427387904), IndexFunc_ov_L0_spec s f hs n (i + 1) k (by omega) (by omega)]
    generalize s.getD i (0, 0, 0, 0, 0, 0) = x
    cases ovB x f <;> simp
theorem IndexFunc_ov_spec (s : List GContact) (f : GContact) (k : Nat) (hs : s.length < 4611686018427387904) (hk : s.length < k) : IndexFunc_ov k (s, f) = some (findIx (fun c => ovB c f) s) := by
  unfold IndexFunc_ov findIx
  have := IndexFunc_ov_L0_spec s f hs s.length 0 k (by omega) hk
  rw [Int.natCast_zero] at this
  simp only [this, Option.bind_some]
  unfold firstI
  rw [List.drop_zero]
  cases s.findIdx? (fun c => ovB c f) <;> simp
theorem findIx_any (p : GContact → Bool) (s : List GContact) : decide (0 ≤ findIx p s) = s.any p := by
  rw [Bool.eq_iff_iff, List.any_eq_true]
  rcases findIx_cases p s with ⟨h1, h2⟩ | ⟨j, h1, hj, hp, _⟩
  · rw [h1]
    constructor
    · intro h; simp at h
    · rintro ⟨x, hx, hp⟩; rw [h2 x hx] at hp; cases hp
  · rw [h1]
    exact ⟨fun _ => ⟨s[j], List.getElem_mem hj, hp⟩, fun _ => decide_eq_true (Int.natCast_nonneg j)⟩
theorem ContainsFunc_of_spec (s : List GContact) (f : Int) (k : Nat) (hs : s.length < 4611686018427387904) (hk : s.length < k) : ContainsFunc_of k (s, f) = some (s.any fun c => decide (c.1 = f)) := by
  unfold ContainsFunc_of
  simp only [IndexFunc_of_spec s f k hs hk, Option.bind_some, findIx_any]
  cases s.any (fun c => decide (c.1 = f)) <;> rfl
theorem ContainsFunc_ov_spec (s : List GContact) (f : GContact) (k : Nat) (hs : s.length < 4611686018427387904) (hk : s.length < k) : ContainsFunc_ov k (s, f) = some (s.any fun c => ovB c f) := by
  unfold ContainsFunc_ov
  simp only [IndexFunc_ov_spec s f k hs hk, Option.bind_some, findIx_any]
  cases s.any (fun c => ovB c f) <;> rfl
end Go.Proofs.YthlhbnaloefncaaGreatDoor.Ex
namespace Go.Proofs.YthlhbnaloefncaaGreatDoor.Ex
open Go
set_option linter.unusedVariables false
set_option linter.unusedSimpArgs false
abbrev z56 : GRange := (0, 0, 0, 0, 0)
def ranB (r : GRange) : Bool := wayB r.1 r.2.1 && spanB r.2.2.1 r.2.2.2.1 && decide (0 ≤ r.2.2.2.2 ∧ r.2.2.2.2 ≤ 2147483647)
def rngR (r : GRange) : Prop := (-9223372036854775808 ≤ r.2.2.1 ∧ r.2.2.1 ≤ 9223372036854775807) ∧ (-9223372036854775808 ≤ r.2.2.2.1 ∧ r.2.2.2.1 ≤ 9223372036854775807)
theorem check_Range_spec (k : Nat) (r : GRange) (h : rngR r) : check_Range k r = some (ranB r) := by
  unfold check_Range ranB
  simp only [check_way_spec, check_span_spec _ _ _ h.2.1 h.2.2 h.1.1 h.1.2, num_In_spec, Option.bind_some]
  cases wayB r.1 r.2.1 <;> cases spanB r.2.2.1 r.2.2.2.1 <;> by_cases h3 : (0 ≤ r.2.2.2.2 ∧ r.2.2.2.2 ≤ 2147483647) <;> simp [h3]
theorem cmp_Or3_spec (k : Nat) (a b c : Int) : cmp_Or_int (k + 4) [a, b, c] = some (if a ≠ 0 then a else if b ≠ 0 then b else c) := by
  unfold cmp_Or_int
  have e1 : w64 (0 + 1) = 1 := by decide
  have e2 : w64 (1 + 1) = 2 := by decide
  have e3 : w64 (2 + 1) = 3 := by decide
  simp only [cmp_Or_int_L0, List.length_cons, List.length_nil, e1, e2, e3]
  by_cases h1 : a = 0 <;> by_cases h2 : b = 0 <;> by_cases h3 : c = 0 <;> simp [h1, h2, h3, e1, e2, e3]
def cmpR (a b : GRange) : Int := if cmpI a.1 b.1 ≠ 0 then cmpI a.1 b.1 else if cmpI a.2.1 b.2.1 ≠ 0 then cmpI a.2.1 b.2.1 else cmpI a.2.2.1 b.2.2.1
theorem CompareR_spec (k : Nat) (a b : GRange) (h : 5 ≤ k) : ranges_Compare k (a, b) = some (cmpR a b) := by
  obtain ⟨m, rfl⟩ : ∃ m, k = m + 4 := ⟨k - 4, by omega⟩
  unfold ranges_Compare cmpR
  simp only [cmp_Compare_spec, Option.bind_some, cmp_Or3_spec]
def ovQ (a b : GRange) : Bool := decide (a.1 = b.1) && decide (a.2.1 = b.2.1) && decide (max a.2.2.1 b.2.2.1 < min a.2.2.2.1 b.2.2.2.1)
theorem ranges_overlap_spec (k : Nat) (a b : GRange) : ranges_overlap k (a, b) = some (ovQ a b) := by
  unfold ranges_overlap ovQ
  have hx : ∀ x y : Int, mx x y = max x y := by intro x y; unfold mx; omega
  have hn : ∀ x y : Int, mn x y = min x y := by intro x y; unfold mn; omega
  simp only [hx, hn]
  by_cases h1 : a.1 = b.1 <;> by_cases h2 : a.2.1 = b.2.1 <;> by_cases h3 : max a.2.2.1 b.2.2.1 < min a.2.2.2.1 b.2.2.2.1 <;> simp [h1, h2, h3]
theorem CloneR_spec (l : List GRange) (k : Nat) (h : l.length ≤ 1000000000) : slices_Clone_api_Range_api_Range k l = some l := by
  unfold slices_Clone_api_Range_api_Range
  rw [decide_eq_true (by omega)]
  rfl
theorem eq5 (x y : GRange) : (x.1 == y.1 && (x.2.1 == y.2.1 && (x.2.2.1 == y.2.2.1 && (x.2.2.2.1 == y.2.2.2.1 && x.2.2.2.2 == y.2.2.2.2)))) = decide (x = y) := by
  obtain ⟨a, b, c, d, e⟩ := x
  obtain ⟨a', b', c', d', e'⟩ := y
  rw [Bool.eq_iff_iff]
  simp
theorem EqualR_L0_spec (a b : List GRange) (hs : a.length < 4611686018427387904) (hl : a.length = b.length) : ∀ (n i k : Nat), a.length - i = n → n < k → slices_Equal_api_Range_api_Range_L0 k (a, b, Int.ofNat a.length, (i : Int)) = some (sameI a b i)
  | 0, i, k + 1, hn, hk => by
    rw [sameI_end (by omega) hl]
    simp only [slices_Equal_api_Range_api_Range_L0]
    rw [i_lt, decide_eq_false (by omega)]
    rfl
  | n + 1, i, k + 1, hn, hk => by
    have hi : i < a.length := by omega
    rw [sameI_step (0, 0, 0, 0, 0) hi hl]
    simp only [slices_Equal_api_Range_api_Range_L0, eq5]
    rw [i_lt, decide_eq_true hi, decide_eq_true (Int.natCast_nonneg i), i_lt, decide_eq_true (hl ▸ hi : i < b.length)]
    simp only [cond_true, Int.toNat_natCast, w64_succ (by omega : i < 4611686018427387904), EqualR_L0_spec a b hs hl n (i + 1) k (by omega) (by omega)]
    by_cases h : a.getD i (0, 0, 0, 0, 0) = b.getD i (0, 0, 0, 0, 0)
    · rw [if_pos h, decide_eq_true h]; rfl
    · rw [if_neg h, decide_eq_false h]; rfl
theorem SameR_spec (a b : List GRange) (k : Nat) (hs : a.length ≤ 1000000000) (hk : a.length < k) : ranges_Same k (a, b) = some (decide (a = b)) := by
  have he : slices_Equal_api_Range_api_Range k (a, b) = some (decide (a = b)) := by
    unfold slices_Equal_api_Range_api_Range
    dsimp only
    by_cases hl : a.length = b.length
    · have := EqualR_L0_spec a b (by omega) hl a.length 0 k (by omega) hk
      rw [Int.natCast_zero] at this
      rw [decide_eq_true (by rw [hl] : Int.ofNat a.length = Int.ofNat b.length)]
      simp only [this, Bool.not_true, cond_false, Option.bind_some]
      unfold sameI
      by_cases h : a = b <;> simp [h]
    · have : ¬ a = b := fun h => hl (by rw [h])
      have h' : ¬ (Int.ofNat a.length = Int.ofNat b.length) := fun h => hl (Int.ofNat.inj h)
      rw [decide_eq_false h', decide_eq_false this]
      rfl
  unfold ranges_Same
  simp only [he, Option.bind_some]
  cases decide (a = b) <;> rfl
def firstA {α : Type} (p : α → Bool) (s : List α) (i : Nat) : Unit ⊕ Int := match (s.drop i).findIdx? p with
  | none => .inl ()
  | some j => .inr ((i + j : Nat) : Int)
theorem firstA_end {α : Type} {p : α → Bool} {s : List α} {i : Nat} (h : s.length ≤ i) : firstA p s i = .inl () := by
  unfold firstA; rw [List.drop_eq_nil_of_le h]; rfl
theorem firstA_step {α : Type} {p : α → Bool} {s : List α} {i : Nat} (d : α) (h : i < s.length) : firstA p s i = bif p (s.getD i d) then .inr (i : Int) else firstA p s (i + 1) := by
  unfold firstA
  rw [getD_drop (d := d) h, List.findIdx?_cons]
  generalize s.getD i d = x
  cases hp : p x with
  | true => simp
  | false =>
    simp only [cond_false]
    cases (s.drop (i + 1)).findIdx? p with
    | none => rfl
    | some j => simp; omega
def findA {α : Type} (p : α → Bool) (s : List α) : Int := match s.findIdx? p with
  | none => -1
  | some j => (j : Int)
theorem findA_first {α : Type} (p : α → Bool) (s : List α) : (match firstA p s 0 with | .inl _ => some (-1) | .inr r => some r) = some (findA p s) := by
  unfold firstA findA
  rw [List.drop_zero]
  cases s.findIdx? p <;> simp
theorem findA_cases {α : Type} (p : α → Bool) (s : List α) : (findA p s = -1 ∧ ∀ x ∈ s, p x = false) ∨ ∃ j : Nat, findA p s = (j : Int) ∧ ∃ h : j < s.length, p s[j] = true ∧ ∀ q (hq : q < j), p (s[q]'(by omega)) = false := by
  unfold findA
  cases h : s.findIdx? p with
  | none => exact .inl ⟨rfl, List.findIdx?_eq_none_iff.1 h⟩
  | some j =>
    obtain ⟨hj, hp, hlt⟩ := List.findIdx?_eq_some_iff_getElem.1 h
    exact .inr ⟨j, rfl, hj, hp, fun q hq => by simpa using hlt q hq⟩
theorem findA_any {α : Type} (p : α → Bool) (s : List α) : decide (0 ≤ findA p s) = s.any p := by
  rw [Bool.eq_iff_iff, List.any_eq_true]
  rcases findA_cases p s with ⟨h1, h2⟩ | ⟨j, h1, hj, hp, _⟩
  · rw [h1]
    constructor
    · intro h; simp at h
    · rintro ⟨x, hx, hp⟩; rw [h2 x hx] at hp; cases hp
  · rw [h1]
    exact ⟨fun _ => ⟨s[j], List.getElem_mem hj, hp⟩, fun _ => decide_eq_true (Int.natCast_nonneg j)⟩
theorem r1_L0_spec (s : List GContact) (f : GPlan) (hs : s.length ≤ 1000000000) : ∀ (n i k : Nat), s.length - i = n → n < k → IndexFunc_r1_L0 k (s, f, Int.ofNat s.length, (i : Int)) = some (firstA (fun c => decide (c.2.2.2.2.1 ≤ f.2.2.1)) s i)
  | 0, i, k + 1, hn, hk => by
    rw [firstA_end (by omega)]
    simp only [IndexFunc_r1_L0]
    rw [i_lt, decide_eq_false (by omega)]
    rfl
  | n + 1, i, k + 1, hn, hk => by
    have hi : i < s.length := by omega
    rw [firstA_step (0, 0, 0, 0, 0, 0) hi]
    simp only [IndexFunc_r1_L0]
    rw [i_lt, decide_eq_true hi, decide_eq_true (Int.natCast_nonneg i)]
    simp only [cond_true, plan_Right_1, Int.toNat_natCast, w64_succ (by omega : i < 4611686018427387904), r1_L0_spec s f hs n (i + 1) k (by omega) (by omega)]
    cases decide ((s.getD i (0, 0, 0, 0, 0, 0)).2.2.2.2.1 ≤ f.2.2.1) <;> rfl
theorem r1_spec (s : List GContact) (f : GPlan) (k : Nat) (hs : s.length ≤ 1000000000) (hk : s.length < k) : ContainsFunc_r1 k (s, f) = some (s.any fun c => decide (c.2.2.2.2.1 ≤ f.2.2.1)) := by
  have h1 : IndexFunc_r1 k (s, f) = some (findA (fun c => decide (c.2.2.2.2.1 ≤ f.2.2.1)) s) := by
    unfold IndexFunc_r1
    have := r1_L0_spec s f hs s.length 0 k (by omega) hk
    rw [Int.natCast_zero] at this
    simp only [this, Option.bind_some]
    exact findA_first _ _
  unfold ContainsFunc_r1
  simp only [h1, Option.bind_some, findA_any]
  cases s.any (fun c => decide (c.2.2.2.2.1 ≤ f.2.2.1)) <;> rfl
theorem r2_L0_spec (s : List GRange) (f : GPlan) (hs : s.length ≤ 1000000000) : ∀ (n i k : Nat), s.length - i = n → n < k → IndexFuncR_r2_L0 k (s, f, Int.ofNat s.length, (i : Int)) = some (firstA (fun c => decide (c.2.2.2.1 ≤ f.2.2.1)) s i)
  | 0, i, k + 1, hn, hk => by
    rw [firstA_end (by omega)]
    simp only [IndexFuncR_r2_L0]
    rw [i_lt, decide_eq_false (by omega)]
    rfl
  | n + 1, i, k + 1, hn, hk => by
    have hi : i < s.length := by omega
    rw [firstA_step (0, 0, 0, 0, 0) hi]
    simp only [IndexFuncR_r2_L0]
    rw [i_lt, decide_eq_true hi, decide_eq_true (Int.natCast_nonneg i)]
    simp only [cond_true, plan_Right_2, Int.toNat_natCast, w64_succ (by omega : i < 4611686018427387904), r2_L0_spec s f hs n (i + 1) k (by omega) (by omega)]
    cases decide ((s.getD i (0, 0, 0, 0, 0)).2.2.2.1 ≤ f.2.2.1) <;> rfl
theorem r2_spec (s : List GRange) (f : GPlan) (k : Nat) (hs : s.length ≤ 1000000000) (hk : s.length < k) : ContainsFuncR_r2 k (s, f) = some (s.any fun c => decide (c.2.2.2.1 ≤ f.2.2.1)) := by
  have h1 : IndexFuncR_r2 k (s, f) = some (findA (fun c => decide (c.2.2.2.1 ≤ f.2.2.1)) s) := by
    unfold IndexFuncR_r2
    have := r2_L0_spec s f hs s.length 0 k (by omega) hk
    rw [Int.natCast_zero] at this
    simp only [this, Option.bind_some]
    exact findA_first _ _
  unfold ContainsFuncR_r2
  simp only [h1, Option.bind_some, findA_any]
  cases s.any (fun c => decide (c.2.2.2.1 ≤ f.2.2.1)) <;> rfl
theorem Add1R_spec (k : Nat) (x c : GRange) : ranges_Add_1 k (x, c) = some (ovQ x c) := by
  unfold ranges_Add_1
  simp only [ranges_overlap_spec, Option.bind_some]
  cases ovQ x c <;> rfl
theorem ovR_L0_spec (s : List GRange) (f : GRange) (hs : s.length ≤ 1000000000) : ∀ (n i k : Nat), s.length - i = n → n < k → IndexFuncR_ov_L0 k (s, f, Int.ofNat s.length, (i : Int)) = some (firstA (fun c => ovQ c f) s i)
  | 0, i, k + 1, hn, hk => by
    rw [firstA_end (by omega)]
    simp only [IndexFuncR_ov_L0]
    rw [i_lt, decide_eq_false (by omega)]
    rfl
  | n + 1, i, k + 1, hn, hk => by
    have hi : i < s.length := by omega
    rw [firstA_step (0, 0, 0, 0, 0) hi]
    simp only [IndexFuncR_ov_L0]
    rw [i_lt, decide_eq_true hi, decide_eq_true (Int.natCast_nonneg i)]
    simp only [cond_true, Add1R_spec, Option.bind_some, Int.toNat_natCast, w64_succ (by omega : i < 4611686018427387904), ovR_L0_spec s f hs n (i + 1) k (by omega) (by omega)]
    cases ovQ (s.getD i (0, 0, 0, 0, 0)) f <;> rfl
theorem ovs_spec (s : List GRange) (f : GRange) (k : Nat) (hs : s.length ≤ 1000000000) (hk : s.length < k) : ContainsFuncR_ov k (s, f) = some (s.any fun c => ovQ c f) := by
  have h1 : IndexFuncR_ov k (s, f) = some (findA (fun c => ovQ c f) s) := by
    unfold IndexFuncR_ov
    have := ovR_L0_spec s f hs s.length 0 k (by omega) hk
    rw [Int.natCast_zero] at this
    simp only [this, Option.bind_some]
    exact findA_first _ _
  unfold ContainsFuncR_ov
  simp only [h1, Option.bind_some, findA_any]
  cases s.any (fun c => ovQ c f) <;> rfl
theorem exR_L0_spec (s : List GRange) (f : Int) (hs : s.length ≤ 1000000000) : ∀ (n i k : Nat), s.length - i = n → n < k → IndexFuncR_ex_L0 k (s, f, Int.ofNat s.length, (i : Int)) = some (firstA (fun c => decide (c.2.2.2.1 ≤ f)) s i)
  | 0, i, k + 1, hn, hk => by
    rw [firstA_end (by omega)]
    simp only [IndexFuncR_ex_L0]
    rw [i_lt, decide_eq_false (by omega)]
    rfl
  | n + 1, i, k + 1, hn, hk => by
    have hi : i < s.length := by omega
    rw [firstA_step (0, 0, 0, 0, 0) hi]
    simp only [IndexFuncR_ex_L0]
    rw [i_lt, decide_eq_true hi, decide_eq_true (Int.natCast_nonneg i)]
    simp only [cond_true, ranges_Expire_1, Int.toNat_natCast, w64_succ (by omega : i < 4611686018427387904), exR_L0_spec s f hs n (i + 1) k (by omega) (by omega)]
    cases decide ((s.getD i (0, 0, 0, 0, 0)).2.2.2.1 ≤ f) <;> rfl
theorem exR_spec (s : List GRange) (f : Int) (k : Nat) (hs : s.length ≤ 1000000000) (hk : s.length < k) : IndexFuncR_ex k (s, f) = some (findA (fun c => decide (c.2.2.2.1 ≤ f)) s) := by
  unfold IndexFuncR_ex
  have := exR_L0_spec s f hs s.length 0 k (by omega) hk
  rw [Int.natCast_zero] at this
  simp only [this, Option.bind_some]
  exact findA_first _ _
def keepR (now : Int) (r : GRange) : Bool := !decide (r.2.2.2.1 ≤ now)
theorem DelFuncR_L0_spec (s : List GRange) (f : Int) (hs : s.length ≤ 1000000000) : ∀ (n i j k : Nat) (t : List GRange), t.length = s.length → s.length - j = n → n < k → i ≤ j → j ≤ s.length → t.take i = (s.take j).filter (keepR f) → t.drop j = s.drop j →
    ∃ (t' : List GRange) (i' : Nat), DeleteFuncR_ex_L0 k (t, f, (i : Int), (j : Int)) = some (.inl (t', (i' : Int))) ∧ t'.length = s.length ∧ i' ≤ s.length ∧ t'.take i' = s.filter (keepR f)
  | 0, i, j, k + 1, t, hl, hn, hk, hij, hj, h1, h2 => by
    refine ⟨t, i, ?_, hl, by omega, ?_⟩
    · simp only [DeleteFuncR_ex_L0]
      rw [i_lt, decide_eq_false (by omega)]
      rfl
    · rw [h1, List.take_of_length_le (by omega)]
  | n + 1, i, j, k + 1, t, hl, hn, hk, hij, hj, h1, h2 => by
    have hjt : j < t.length := by omega
    have hjs : j < s.length := by omega
    have hx : t.getD j z56 = s.getD j z56 := by
      have h3 := h2
      rw [getD_drop (d := z56) hjt, getD_drop (d := z56) hjs, List.cons.injEq] at h3
      exact h3.1
    have hd : t.drop (j + 1) = s.drop (j + 1) := by
      have h3 := h2
      rw [getD_drop (d := z56) hjt, getD_drop (d := z56) hjs, List.cons.injEq] at h3
      exact h3.2
    have hf := filter_take_succ (p := keepR f) z56 hjs
    simp only [DeleteFuncR_ex_L0]
    rw [i_lt, decide_eq_true hjt, decide_eq_true (Int.natCast_nonneg j)]
    simp only [cond_true, ranges_Expire_1, Int.toNat_natCast, hx, w64_succ (by omega : j < 4611686018427387904), w64_succ (by omega : i < 4611686018427387904)]
    rw [i_lt, decide_eq_true (by omega : i < t.length), decide_eq_true (Int.natCast_nonneg i)]
    generalize hxx : s.getD j z56 = x at *
    by_cases h : x.2.2.2.1 ≤ f
    · rw [decide_eq_true h]
      refine DelFuncR_L0_spec s f hs n i (j + 1) k t hl (by omega) (by omega) (by omega) (by omega) ?_ hd
      rw [hf, h1]
      simp [keepR, h]
    · rw [decide_eq_false h]
      simp only [cond_true, cond_false, Option.bind_some]
      refine DelFuncR_L0_spec s f hs n (i + 1) (j + 1) k (t.set i x) (by simp [hl]) (by omega) (by omega) (by omega) (by omega) ?_ ?_
      · rw [take_set_self (by omega), hf, h1]
        simp [keepR, h]
      · rw [List.drop_set_of_lt (by omega)]
        exact hd
theorem DelFuncR_spec (s : List GRange) (f : Int) (k : Nat) (hs : s.length ≤ 1000000000) (hk : s.length < k) : DeleteFuncR_ex k s f = some (s.filter (keepR f)) := by
  unfold DeleteFuncR_ex
  simp only [exR_spec s f k hs hk, Option.bind_some]
  rcases findA_cases (fun c : GRange => decide (c.2.2.2.1 ≤ f)) s with ⟨h1, h2⟩ | ⟨j, h1, hj, hp, hlt⟩
  · rw [h1]
    have : s.filter (keepR f) = s := List.filter_eq_self.2 (fun x hx => by have := h2 x hx; unfold keepR; rw [this]; rfl)
    rw [this]
    rfl
  · rw [h1, decide_eq_false (by omega)]
    simp only [cond_false, w64_succ (by omega : j < 4611686018427387904)]
    have hpre : (s.take j).filter (keepR f) = s.take j := List.filter_eq_self.2 (fun x hx => by
      obtain ⟨q, hq, rfl⟩ := List.mem_iff_getElem.1 hx
      have hq' : q < j := by rw [List.length_take] at hq; omega
      have := hlt q hq'
      simp only [List.getElem_take, keepR]
      rw [this]; rfl)
    obtain ⟨t', i', e1, e2, e3, e4⟩ := DelFuncR_L0_spec s f hs (s.length - (j + 1)) j (j + 1) k s rfl rfl (by omega) (by omega) (by omega) (by
      rw [filter_take_succ (p := keepR f) z56 hj, hpre, List.getD_eq_getElem?_getD, List.getElem?_eq_getElem hj]
      have hkp : keepR f s[j] = false := by unfold keepR; rw [hp]; rfl
      simp [hkp]) rfl
    rw [e1]
    have hcl : (clearL t' i' z56).length = t'.length := by
      unfold clearL
      rw [List.length_append, List.length_take, List.length_replicate]; omega
    have htk : (clearL t' i' z56).take i' = t'.take i' := by
      unfold clearL
      rw [List.take_append_of_le_length (by rw [List.length_take]; omega), List.take_take, Nat.min_self]
    have hle : decide ((i' : Int) ≤ Int.ofNat t'.length) = true := decide_eq_true (by rw [e2]; exact Int.ofNat_le.2 e3)
    simp only [Option.bind_some, Int.toNat_natCast, decide_eq_true (Int.natCast_nonneg i'), hle, hcl, cond_true, htk, e4]
def leftR (now : Int) (l : List GRange) : List GRange := l.filter fun c => decide (now < c.2.2.2.1)
theorem ExpireR_spec (l : List GRange) (now : Int) (k : Nat) (hs : l.length ≤ 1000000000) (hk : l.length < k) : ranges_Expire k (l, now) = some (leftR now l) := by
  unfold ranges_Expire
  simp only [CloneR_spec l k hs, DelFuncR_spec l now k hs hk, Option.bind_some]
  have : keepR now = fun c : GRange => decide (now < c.2.2.2.1) := by
    funext c
    unfold keepR
    rw [Bool.eq_iff_iff]
    simp
  rw [this]
  rfl
end Go.Proofs.YthlhbnaloefncaaGreatDoor.Ex
namespace Go.Proofs.YthlhbnaloefncaaGreatDoor.Ex
open Go
set_option linter.unusedVariables false
set_option linter.unusedSimpArgs false
theorem cmpR_neg (a b : GRange) : cmpR b a = - cmpR a b := by
  unfold cmpR cmpI
  repeat' split <;> omega
theorem cmpR_lt (a b : GRange) : cmpR a b < 0 ↔ (a.1 < b.1 ∨ (a.1 = b.1 ∧ (a.2.1 < b.2.1 ∨ (a.2.1 = b.2.1 ∧ a.2.2.1 < b.2.2.1)))) := by
  unfold cmpR cmpI
  repeat' split <;> omega
theorem cmpR_zero (a b : GRange) : cmpR a b = 0 ↔ (a.1 = b.1 ∧ a.2.1 = b.2.1 ∧ a.2.2.1 = b.2.2.1) := by
  unfold cmpR cmpI
  repeat' split <;> omega
theorem cmpR_trans {a b c : GRange} (h1 : cmpR a b < 0) (h2 : cmpR b c < 0) : cmpR a c < 0 := by
  rw [cmpR_lt] at *; omega
def okQ (l : List GRange) (i : Nat) : Bool := ranB (l.getD i z56) && (bif decide (0 < i) then decide (cmpR (l.getD (i - 1) z56) (l.getD i z56) < 0) && !ovQ (l.getD (i - 1) z56) (l.getD i z56) else true)
def chkQ (l : List GRange) : Nat → Nat → Bool
  | 0, _ => true
  | n + 1, i => okQ l i && chkQ l n (i + 1)
theorem chkQ_all (l : List GRange) : ∀ n i, chkQ l n i = true ↔ ∀ q, i ≤ q → q < i + n → okQ l q = true
  | 0, i => by simp only [chkQ]; exact ⟨fun _ q h1 h2 => by omega, fun _ => trivial⟩
  | n + 1, i => by
    simp only [chkQ, Bool.and_eq_true, chkQ_all l n (i + 1)]
    constructor
    · rintro ⟨h1, h2⟩ q hq1 hq2
      rcases Nat.eq_or_lt_of_le hq1 with rfl | h
      · exact h1
      · exact h2 q (by omega) (by omega)
    · intro h
      exact ⟨h i (Nat.le_refl _) (by omega), fun q h1 h2 => h q (by omega) (by omega)⟩
theorem RightQ_L0_spec (l : List GRange) (hs : l.length ≤ 1000000000) (hr : ∀ c ∈ l, rngR c) : ∀ (n i k : Nat), l.length - i = n → n + 5 < k → i ≤ l.length → ranges_Right_L0 k (l, l, Int.ofNat l.length, (i : Int)) = some (bif chkQ l n i then .inl l else .inr false)
  | 0, i, k + 1, hn, hk, hi => by
    simp only [ranges_Right_L0]
    rw [i_lt, decide_eq_false (by omega)]
    rfl
  | n + 1, i, k + 1, hn, hk, _ => by
    have hi : i < l.length := by omega
    have hg : l.getD i z56 ∈ l := by rw [List.getD_eq_getElem?_getD, List.getElem?_eq_getElem hi]; exact List.getElem_mem hi
    have hc := check_Range_spec k (l.getD i z56) (hr _ hg)
    have ih := RightQ_L0_spec l hs hr n (i + 1) k (by omega) (by omega) (by omega)
    simp only [ranges_Right_L0]
    rw [i_lt, decide_eq_true hi, decide_eq_true (Int.natCast_nonneg i), Int.toNat_natCast]
    simp only [cond_true, hc, Option.bind_some, chkQ, okQ]
    cases ranB (l.getD i z56) with
    | false => rfl
    | true =>
      simp only [cond_true, Bool.true_and, w64_succ (by omega : i < 4611686018427387904), ih]
      by_cases h0 : 0 < i
      · have e0 : w64 ((i : Int) - 1) = ((i - 1 : Nat) : Int) := by rw [w64_id (by omega) (by omega)]; omega
        rw [decide_eq_true (by omega : (0 : Int) < (i : Int)), decide_eq_true h0, e0]
        rw [i_lt, decide_eq_true (by omega : i - 1 < l.length), decide_eq_true (Int.natCast_nonneg (i - 1)), Int.toNat_natCast]
        simp only [cond_true, CompareR_spec k _ _ (by omega : 5 ≤ k), Option.bind_some, ranges_overlap_spec]
        by_cases h1 : cmpR (l.getD (i - 1) z56) (l.getD i z56) < 0
        · rw [decide_eq_false (by omega : ¬ 0 ≤ cmpR (l.getD (i - 1) z56) (l.getD i z56)), decide_eq_true h1]
          cases ovQ (l.getD (i - 1) z56) (l.getD i z56) <;> rfl
        · rw [decide_eq_true (by omega : 0 ≤ cmpR (l.getD (i - 1) z56) (l.getD i z56)), decide_eq_false h1]
          rfl
      · rw [decide_eq_false (by omega : ¬ (0 : Int) < (i : Int)), decide_eq_false h0]
        rfl
theorem ran_span {r : GRange} (h : ranB r = true) : r.2.2.1 < r.2.2.2.1 := by
  unfold ranB spanB at h
  simp only [Bool.and_eq_true, decide_eq_true_eq] at h
  omega
def ovD (a b : GRange) : Prop := a.1 = b.1 ∧ a.2.1 = b.2.1 ∧ a.2.2.1 < b.2.2.2.1 ∧ b.2.2.1 < a.2.2.2.1
theorem ovQ_iff {a b : GRange} (ha : ranB a = true) (hb : ranB b = true) : ovQ a b = true ↔ ovD a b := by
  have := ran_span ha
  have := ran_span hb
  unfold ovQ ovD
  simp only [Bool.and_eq_true, decide_eq_true_eq]
  omega
theorem ovQ_false {a b : GRange} (ha : ranB a = true) (hb : ranB b = true) : ovQ a b = false ↔ ¬ ovD a b := by
  rw [← ovQ_iff ha hb]; simp
def RQ (a b : GRange) : Prop := cmpR a b < 0 ∧ (a.1 = b.1 → a.2.1 = b.2.1 → a.2.2.2.1 ≤ b.2.2.1)
def RightR (l : List GRange) : Prop := (∀ c ∈ l, ranB c = true) ∧ l.Pairwise RQ
theorem getR {l : List GRange} {i : Nat} (h : i < l.length) : l.getD i z56 = l[i] := by rw [List.getD_eq_getElem?_getD, List.getElem?_eq_getElem h]; rfl
theorem RQ_trans {a b c : GRange} (ha : ranB a = true) (hb : ranB b = true) (hc : ranB c = true) (h1 : RQ a b) (h2 : RQ b c) : RQ a c := by
  have s1 := ran_span ha
  have s2 := ran_span hb
  have s3 := ran_span hc
  obtain ⟨p1, p2⟩ := h1
  obtain ⟨q1, q2⟩ := h2
  refine ⟨cmpR_trans p1 q1, fun e1 e2 => ?_⟩
  rw [cmpR_lt] at p1 q1
  omega
theorem rightR_iff (l : List GRange) : chkQ l l.length 0 = true ↔ RightR l := by
  rw [chkQ_all]
  constructor
  · intro h
    have h' : ∀ q, q < l.length → okQ l q = true := fun q hq => h q (Nat.zero_le _) (by omega)
    have hc : ∀ q (hq : q < l.length), ranB l[q] = true := fun q hq => by
      have := h' q hq
      unfold okQ at this
      simp only [Bool.and_eq_true] at this
      rw [getR hq] at this
      exact this.1
    have hn : ∀ q (hq : q + 1 < l.length), RQ l[q] l[q + 1] := fun q hq => by
      have := h' (q + 1) hq
      unfold okQ at this
      rw [decide_eq_true (Nat.succ_pos q), Nat.add_sub_cancel, getR (by omega : q < l.length), getR hq] at this
      simp only [cond_true, Bool.and_eq_true, decide_eq_true_eq, Bool.not_eq_true'] at this
      have s1 := ran_span (hc q (by omega))
      have s2 := ran_span (hc (q + 1) hq)
      obtain ⟨_, h3, h4⟩ := this
      rw [ovQ_false (hc _ _) (hc _ _)] at h4
      refine ⟨h3, fun e1 e2 => ?_⟩
      rw [cmpR_lt] at h3
      unfold ovD at h4
      omega
    refine ⟨fun c hc' => ?_, ?_⟩
    · obtain ⟨q, hq, rfl⟩ := List.mem_iff_getElem.1 hc'
      exact hc q hq
    · rw [List.pairwise_iff_getElem]
      intro i j hi hj hij
      obtain ⟨d, rfl⟩ : ∃ d, j = i + 1 + d := ⟨j - i - 1, by omega⟩
      clear hij
      induction d with
      | zero => exact hn i hj
      | succ d ih => exact RQ_trans (hc _ _) (hc _ (by omega)) (hc _ _) (ih (by omega)) (hn (i + 1 + d) hj)
  · rintro ⟨h1, h2⟩ q _ hq
    have hq : q < l.length := by omega
    rw [List.pairwise_iff_getElem] at h2
    unfold okQ
    simp only [Bool.and_eq_true]
    refine ⟨by rw [getR hq]; exact h1 _ (List.getElem_mem hq), ?_⟩
    by_cases h0 : 0 < q
    · rw [decide_eq_true h0]
      simp only [cond_true, Bool.and_eq_true, decide_eq_true_eq, Bool.not_eq_true']
      have hq1 : q - 1 < l.length := by omega
      rw [getR hq1, getR hq]
      obtain ⟨a1, a3⟩ := h2 (q - 1) q hq1 hq (by omega)
      refine ⟨a1, ?_⟩
      rw [ovQ_false (h1 _ (List.getElem_mem hq1)) (h1 _ (List.getElem_mem hq))]
      rintro ⟨b1, b2, b3, b4⟩
      have := a3 b1 b2
      omega
    · rw [decide_eq_false h0]; rfl
theorem RightR.sort {l : List GRange} (h : RightR l) : ∀ i j, i < j → j < l.length → cmpR (l.getD i z56) (l.getD j z56) < 0 := fun i j hij hj => by
  have := (List.pairwise_iff_getElem.1 h.2) i j (by omega) hj hij
  rw [getR (by omega), getR hj]
  exact this.1
def rightQ (l : List GRange) : Bool := chkQ l l.length 0 && decide (l.length ≤ 4096)
theorem rightQ_iff {l : List GRange} : rightQ l = true ↔ RightR l ∧ l.length ≤ 4096 := by
  unfold rightQ; rw [Bool.and_eq_true, rightR_iff, decide_eq_true_eq]
theorem RightQ_spec (l : List GRange) (k : Nat) (hs : l.length ≤ 1000000000) (hr : ∀ c ∈ l, rngR c) (hk : l.length + 5 < k) : ranges_Right k l = some (rightQ l) := by
  unfold ranges_Right rightQ
  have := RightQ_L0_spec l hs hr l.length 0 k (by omega) hk (by omega)
  rw [Int.natCast_zero] at this
  simp only [this, Option.bind_some]
  cases chkQ l l.length 0 with
  | false => rfl
  | true =>
    simp only [cond_true, Bool.true_and]
    have e : decide (Int.ofNat l.length ≤ 4096) = decide (l.length ≤ 4096) := by
      have : Int.ofNat l.length = (l.length : Int) := rfl
      rw [this]
      by_cases h : l.length ≤ 4096
      · rw [decide_eq_true h, decide_eq_true (by omega)]
      · rw [decide_eq_false h, decide_eq_false (by omega)]
    rw [e]
    cases decide (l.length ≤ 4096) <;> rfl
theorem RightR.nil : RightR [] := ⟨fun c hc => (by cases hc), List.Pairwise.nil⟩
theorem RightR.filter {l : List GRange} (h : RightR l) (p : GRange → Bool) : RightR (l.filter p) := ⟨fun c hc => h.1 c (List.mem_filter.1 hc).1, h.2.filter p⟩
theorem BSR_L0_spec (l : List GRange) (t : GRange) (n : Int) (hs : l.length ≤ 1000000000) (hsort : ∀ i j, i < j → j < l.length → cmpR (l.getD i z56) (l.getD j z56) < 0) : ∀ (m i j k : Nat), j - i ≤ m → m + 5 < k → i ≤ j → j ≤ l.length → (∀ q, q < i → cmpR (l.getD q z56) t < 0) → (∀ q, j ≤ q → q < l.length → 0 ≤ cmpR (l.getD q z56) t) →
    ∃ r, r ≤ l.length ∧ (∀ q, q < r → cmpR (l.getD q z56) t < 0) ∧ (∀ q, r ≤ q → q < l.length → 0 ≤ cmpR (l.getD q z56) t) ∧ BinarySearchFunc_R_L0 k (l, (), t, n, (i : Int), (j : Int)) = some (.inl (l, (), t, n, (r : Int)))
  | m, i, j, k + 1, hm, hk, hij, hj, h1, h2 => by
    by_cases hlt : i < j
    · have hh : (i + j) / 2 < j ∧ i ≤ (i + j) / 2 := by omega
      have hcmp := CompareR_spec k (l.getD ((i + j) / 2) z56) t (by omega)
      obtain ⟨m', rfl⟩ : ∃ m', m = m' + 1 := ⟨m - 1, by omega⟩
      simp only [BinarySearchFunc_R_L0]
      rw [decide_eq_true (by omega : (i : Int) < (j : Int)), mid_id (by omega), decide_eq_true (Int.natCast_nonneg ((i + j) / 2)), i_lt, decide_eq_true (by omega : (i + j) / 2 < l.length), Int.toNat_natCast]
      simp only [cond_true, hcmp, Option.bind_some, w64_succ (by omega : (i + j) / 2 < 4611686018427387904)]
      by_cases hc : cmpR (l.getD ((i + j) / 2) z56) t < 0
      · rw [decide_eq_true hc]
        exact BSR_L0_spec l t n hs hsort m' ((i + j) / 2 + 1) j k (by omega) (by omega) (by omega) hj (fun q hq => by
          rcases Nat.eq_or_lt_of_le (Nat.lt_succ_iff.1 hq) with rfl | hq
          · exact hc
          · exact cmpR_trans (hsort q _ hq (by omega)) hc) h2
      · rw [decide_eq_false hc]
        refine BSR_L0_spec l t n hs hsort m' i ((i + j) / 2) k (by omega) (by omega) (by omega) (by omega) h1 (fun q hq hql => ?_)
        rcases Nat.eq_or_lt_of_le hq with rfl | hq
        · omega
        · rcases Int.lt_or_le (cmpR (l.getD q z56) t) 0 with h | h
          · exact absurd (cmpR_trans (hsort _ q hq hql) h) hc
          · exact h
    · refine ⟨i, by omega, h1, fun q hq => h2 q (by omega), ?_⟩
      simp only [BinarySearchFunc_R_L0]
      rw [decide_eq_false (by omega)]
      rfl
theorem BSR_spec (l : List GRange) (t : GRange) (k : Nat) (hs : l.length ≤ 1000000000) (hsort : ∀ i j, i < j → j < l.length → cmpR (l.getD i z56) (l.getD j z56) < 0) (hk : l.length + 6 < k) :
    ∃ r, r ≤ l.length ∧ (∀ q, q < r → cmpR (l.getD q z56) t < 0) ∧ (∀ q, r ≤ q → q < l.length → 0 ≤ cmpR (l.getD q z56) t) ∧ BinarySearchFunc_R k (l, t, ()) = some ((r : Int), decide (r < l.length ∧ cmpR (l.getD r z56) t = 0)) := by
  obtain ⟨r, h1, h2, h3, h4⟩ := BSR_L0_spec l t (Int.ofNat l.length) hs hsort l.length 0 l.length k (by omega) (by omega) (by omega) (Nat.le_refl _) (fun q hq => by omega) (fun q hq hq' => by omega)
  refine ⟨r, h1, h2, h3, ?_⟩
  have h4' : BinarySearchFunc_R_L0 k (l, (), t, Int.ofNat l.length, 0, Int.ofNat l.length) = some (.inl (l, (), t, Int.ofNat l.length, (r : Int))) := h4
  unfold BinarySearchFunc_R
  simp only [h4', Option.bind_some]
  have hcmp := CompareR_spec k (l.getD r z56) t (by omega)
  rw [i_lt]
  by_cases hr : r < l.length
  · rw [decide_eq_true hr, decide_eq_true (Int.natCast_nonneg r), Int.toNat_natCast]
    simp only [cond_true, hcmp, Option.bind_some, hr, true_and]
    by_cases hc : cmpR (l.getD r z56) t = 0
    · rw [decide_eq_true hc]; rfl
    · rw [decide_eq_false hc]; rfl
  · rw [decide_eq_false hr, decide_eq_false (show ¬ (r < l.length ∧ cmpR (l.getD r z56) t = 0) from fun h => hr h.1)]
    rfl
def insR (l : List GRange) (r : Nat) (c : GRange) : List GRange := l.take r ++ c :: l.drop r
theorem insR_mem {l : List GRange} {r : Nat} {c x : GRange} : x ∈ insR l r c ↔ x = c ∨ x ∈ l := by
  unfold insR
  rw [List.mem_append, List.mem_cons]
  have : x ∈ l ↔ x ∈ l.take r ∨ x ∈ l.drop r := by rw [← List.mem_append, List.take_append_drop]
  rw [this]
  constructor
  · rintro (h | h | h)
    · exact .inr (.inl h)
    · exact .inl h
    · exact .inr (.inr h)
  · rintro (h | h | h)
    · exact .inr (.inl h)
    · exact .inl h
    · exact .inr (.inr h)
theorem insR_len {l : List GRange} {r : Nat} {c : GRange} : (insR l r c).length = l.length + 1 := by
  unfold insR
  rw [List.length_append, List.length_cons, List.length_take, List.length_drop]; omega
theorem RightR.ins {l : List GRange} (h : RightR l) {r : Nat} {c : GRange} (hr : r ≤ l.length) (h1 : ∀ q, q < r → cmpR (l.getD q z56) c < 0) (h2 : ∀ q, r ≤ q → q < l.length → 0 ≤ cmpR (l.getD q z56) c) (hc : ranB c = true) (hov : ∀ x ∈ l, ovQ x c = false) : RightR (insR l r c) := by
  constructor
  · intro x hx
    rcases insR_mem.1 hx with rfl | hx
    · exact hc
    · exact h.1 x hx
  · unfold insR
    have hp := h.2
    rw [← List.take_append_drop r l] at hp
    rw [List.pairwise_append] at hp
    obtain ⟨p1, p2, p3⟩ := hp
    have t1 : ∀ x ∈ l.take r, cmpR x c < 0 := fun x hx => by
      obtain ⟨q, hq, rfl⟩ := List.mem_iff_getElem.1 hx
      have hq' : q < r := by rw [List.length_take] at hq; omega
      have := h1 q hq'
      rw [getR (by omega)] at this
      rw [List.getElem_take]
      exact this
    have t2 : ∀ x ∈ l.drop r, 0 ≤ cmpR x c := fun x hx => by
      obtain ⟨q, hq, rfl⟩ := List.mem_iff_getElem.1 hx
      have hq' : r + q < l.length := by rw [List.length_drop] at hq; omega
      have := h2 (r + q) (by omega) hq'
      rw [getR hq'] at this
      rw [List.getElem_drop]
      exact this
    have sc := ran_span hc
    have o1 : ∀ x ∈ l.take r, RQ x c := fun x hx => by
      have hm := List.mem_of_mem_take hx
      have hlt := t1 x hx
      refine ⟨hlt, fun e1 e2 => ?_⟩
      have hv := hov x hm
      rw [ovQ_false (h.1 x hm) hc] at hv
      unfold ovD at hv
      rw [cmpR_lt] at hlt
      have sx := ran_span (h.1 x hm)
      omega
    have o2 : ∀ x ∈ l.drop r, RQ c x := fun x hx => by
      have hm := List.mem_of_mem_drop hx
      have hge := t2 x hx
      have hv := hov x hm
      rw [ovQ_false (h.1 x hm) hc] at hv
      unfold ovD at hv
      have sx := ran_span (h.1 x hm)
      have hlt : cmpR c x < 0 := by
        rw [cmpR_neg]
        have hne : cmpR x c ≠ 0 := fun e => by
          rw [cmpR_zero] at e
          omega
        omega
      refine ⟨hlt, fun e1 e2 => ?_⟩
      rw [cmpR_lt] at hlt
      omega
    rw [List.pairwise_append, List.pairwise_cons]
    refine ⟨p1, ⟨o2, p2⟩, fun a ha b hb => ?_⟩
    rcases List.mem_cons.1 hb with rfl | hb
    · exact o1 a ha
    · exact p3 a ha b hb
theorem InsertR_one (l : List GRange) (c : GRange) (r k : Nat) (hs : l.length ≤ 1000000000) (hr : r ≤ l.length) : slices_InsertR k l ((r : Int), [c]) = some (insR l r c) := by
  unfold slices_InsertR insF insR
  rw [decide_eq_true (Int.natCast_nonneg r), decide_eq_true (show (r : Int) ≤ Int.ofNat l.length from by have : Int.ofNat l.length = (l.length : Int) := rfl; omega), decide_eq_true (show (l.length + [c].length) * 40 ≤ 140737488355328 from by simp only [List.length_cons, List.length_nil]; omega)]
  simp
theorem AddR_cases {l : List GRange} (h : RightR l) (hl : l.length ≤ 5000) (c : GRange) (hc : rngR c) (k : Nat) (hk : l.length + 6 < k) :
    (∃ e, e ≠ 0 ∧ ranges_Add k (l, c) = some (l, e)) ∨ ∃ r, ranges_Add k (l, c) = some (insR l r c, 0) ∧ RightR (insR l r c) ∧ l.length < 4096 := by
  obtain ⟨r, r1, r2, r3, r4⟩ := BSR_spec l c k (by omega) h.sort hk
  unfold ranges_Add
  simp only [CloneR_spec l k (by omega), check_Range_spec k c hc, ovs_spec l c k (by omega) (by omega), r4, InsertR_one l c r k (by omega) r1, Option.bind_some]
  cases hb : ranB c with
  | false => exact .inl ⟨1, by decide, rfl⟩
  | true =>
    by_cases hful : 4096 ≤ l.length
    · have h4 : decide (4096 ≤ Int.ofNat l.length) = true := decide_eq_true (by have : Int.ofNat l.length = (l.length : Int) := rfl; omega)
      rw [h4]; exact .inl ⟨3, by decide, rfl⟩
    have h4 : decide (4096 ≤ Int.ofNat l.length) = false := decide_eq_false (by have : Int.ofNat l.length = (l.length : Int) := rfl; omega)
    rw [h4]
    cases ho : l.any (fun x => ovQ x c) with
    | true => exact .inl ⟨5, by decide, rfl⟩
    | false =>
      have hov : ∀ x ∈ l, ovQ x c = false := fun x hx => by
        have := List.any_eq_false.1 ho x hx
        simpa using this
      refine .inr ⟨r, ?_, h.ins r1 r2 r3 hb hov, by omega⟩
      cases decide (r < l.length ∧ cmpR (l.getD r z56) c = 0) <;> rfl
theorem DeleteR_cases {l : List GRange} (h : RightR l) (hl : l.length ≤ 5000) (c : GRange) (k : Nat) (hk : l.length + 6 < k) :
    (∃ e, e ≠ 0 ∧ ranges_Delete k (l, c) = some (l, e)) ∨ ∃ l', ranges_Delete k (l, c) = some (l', 0) ∧ RightR l' ∧ l'.length + 1 = l.length ∧ ∀ x ∈ l', x ∈ l := by
  obtain ⟨r, r1, r2, r3, r4⟩ := BSR_spec l c k (by omega) h.sort hk
  unfold ranges_Delete
  simp only [CloneR_spec l k (by omega), r4, Option.bind_some]
  by_cases hf : r < l.length ∧ cmpR (l.getD r z56) c = 0
  · rw [decide_eq_true hf]
    have hs : (l.take r ++ l.drop (r + 1)).Sublist l := by
      have := List.take_append_drop r l
      conv => rhs; rw [← List.take_append_drop r l]
      refine List.Sublist.append (List.Sublist.refl _) ?_
      have : l.drop (r + 1) = (l.drop r).drop 1 := by rw [List.drop_drop]
      rw [this]
      exact List.drop_sublist 1 _
    have hd : slices_DeleteR k l ((r : Int), w64 ((r : Int) + 1)) = some (l.take r ++ l.drop (r + 1)) := by
      unfold slices_DeleteR delF
      rw [w64_succ (by omega)]
      rw [decide_eq_true (Int.natCast_nonneg r), decide_eq_true (show (r : Int) < ((r + 1 : Nat) : Int) from by omega), decide_eq_true (show ((r + 1 : Nat) : Int) ≤ Int.ofNat l.length from by have : Int.ofNat l.length = (l.length : Int) := rfl; omega)]
      rfl
    refine .inr ⟨l.take r ++ l.drop (r + 1), ?_, ⟨fun x hx => h.1 x (hs.subset hx), h.2.sublist hs⟩, ?_, fun x hx => hs.subset hx⟩
    · simp only [cond_true, hd, Option.bind_some]
    · rw [List.length_append, List.length_take, List.length_drop]; omega
  · rw [decide_eq_false hf]
    exact .inl ⟨6, by decide, rfl⟩
def longR (r : GRange) (o : Int) : GRange := (r.1, r.2.1, r.2.2.1, r.2.2.2.1, o)
theorem RightR.set {l : List GRange} (h : RightR l) {j : Nat} (hj : j < l.length) {o : Int} (ho : 0 ≤ o ∧ o ≤ 2147483647) : RightR (l.set j (longR l[j] o)) := by
  constructor
  · intro c hc
    rcases List.mem_or_eq_of_mem_set hc with h1 | rfl
    · exact h.1 c h1
    · have := h.1 _ (List.getElem_mem hj)
      unfold ranB longR at *
      simp only [Bool.and_eq_true, decide_eq_true_eq] at this ⊢
      exact ⟨this.1, ho⟩
  · have h2 := List.pairwise_iff_getElem.1 h.2
    rw [List.pairwise_iff_getElem]
    intro p q hp hq hpq
    rw [List.length_set] at hp hq
    have := h2 p q hp hq hpq
    rw [List.getElem_set, List.getElem_set]
    split
    · rename_i e
      subst e
      rw [if_neg (by omega)]
      exact this
    · split
      · rename_i e
        subst e
        exact this
      · exact this
theorem ChangeR_cases {l : List GRange} (h : RightR l) (hl : l.length ≤ 5000) (c : GRange) (k : Nat) (hk : l.length + 6 < k) :
    (∃ e, e ≠ 0 ∧ ranges_Change k (l, c) = some (l, e)) ∨ ∃ j, ∃ hj : j < l.length, ranges_Change k (l, c) = some (l.set j (longR l[j] c.2.2.2.2), 0) ∧ RightR (l.set j (longR l[j] c.2.2.2.2)) := by
  obtain ⟨r, r1, r2, r3, r4⟩ := BSR_spec l c k (by omega) h.sort hk
  unfold ranges_Change
  simp only [CloneR_spec l k (by omega), r4, Option.bind_some]
  by_cases hf : r < l.length ∧ cmpR (l.getD r z56) c = 0
  · rw [decide_eq_true hf]
    by_cases h1 : c.2.2.2.2 < 0
    · rw [decide_eq_true h1]; exact .inl ⟨1, by decide, rfl⟩
    by_cases h2 : 2147483647 < c.2.2.2.2
    · rw [decide_eq_false h1, decide_eq_true h2]; exact .inl ⟨1, by decide, rfl⟩
    have hj := hf.1
    refine .inr ⟨r, hj, ?_, h.set hj (by omega)⟩
    rw [decide_eq_false h1, decide_eq_false h2]
    simp only [cond_true, cond_false, Int.toNat_natCast]
    rw [i_lt, decide_eq_true hj, decide_eq_true (Int.natCast_nonneg r)]
    simp only [cond_true]
    rw [getR hj]
    rfl
  · rw [decide_eq_false hf]
    by_cases h1 : c.2.2.2.2 < 0
    · rw [decide_eq_true h1]; exact .inl ⟨1, by decide, rfl⟩
    by_cases h2 : 2147483647 < c.2.2.2.2
    · rw [decide_eq_false h1, decide_eq_true h2]; exact .inl ⟨1, by decide, rfl⟩
    rw [decide_eq_false h1, decide_eq_false h2]; exact .inl ⟨6, by decide, rfl⟩
end Go.Proofs.YthlhbnaloefncaaGreatDoor.Ex
namespace Go.Proofs.YthlhbnaloefncaaGreatDoor.Ex
open Go
set_option linter.unusedVariables false
theorem slices_Insert_one (l : List GContact) (c : GContact) (r k : Nat) (hs : l.length ≤ 1000000000) (hr : r ≤ l.length) : slices_Insert k l ((r : Int), [c]) = some (insAt l r c) := by
  unfold slices_Insert insF insAt
  rw [decide_eq_true (Int.natCast_nonneg r), decide_eq_true (show (r : Int) ≤ Int.ofNat l.length from by have : Int.ofNat l.length = (l.length : Int) := rfl; omega), decide_eq_true (show (l.length + [c].length) * 48 ≤ 140737488355328 from by simp only [List.length_cons, List.length_nil]; omega)]
  simp
def AddR (l : List GContact) (c : GContact) (r : Nat) : List GContact × Int := if conB c = false then (l, 1) else if 4096 ≤ l.length then (l, 3) else if (l.any fun x => decide (x.1 = c.1)) = true then (l, 4) else if (l.any fun x => ovB x c) = true then (l, 5) else (insAt l r c, 0)
theorem contacts_Add_spec (l : List GContact) (c : GContact) (k : Nat) (hs : l.length ≤ 1000000000) (hc : rngC c) (hsort : ∀ i j, i < j → j < l.length → cmpC (l.getD i z28) (l.getD j z28) < 0) (hk : l.length + 6 < k) :
    ∃ r, r ≤ l.length ∧ (∀ q, q < r → cmpC (l.getD q z28) c < 0) ∧ (∀ q, r ≤ q → q < l.length → 0 ≤ cmpC (l.getD q z28) c) ∧ contacts_Add k (l, c) = some (AddR l c r) := by
  obtain ⟨r, h1, h2, h3, h4⟩ := BS_spec l c k hs hsort hk
  refine ⟨r, h1, h2, h3, ?_⟩
  unfold contacts_Add AddR
  simp only [Clone_spec l k hs, check_Contact_spec k c hc.1 hc.2, contacts_of_spec, ContainsFunc_of_spec l c.1 k (by omega) (by omega), ContainsFunc_ov_spec l c k (by omega) (by omega), h4, slices_Insert_one l c r k hs h1, Option.bind_some]
  cases conB c with
  | false => rfl
  | true =>
    rw [if_neg (by simp)]
    by_cases h5 : 4096 ≤ l.length
    · rw [if_pos h5, decide_eq_true (show (4096 : Int) ≤ Int.ofNat l.length from by have : Int.ofNat l.length = (l.length : Int) := rfl; omega)]; rfl
    · rw [if_neg h5, decide_eq_false (show ¬ (4096 : Int) ≤ Int.ofNat l.length from by have : Int.ofNat l.length = (l.length : Int) := rfl; omega)]
      simp only [cond_false, cond_true]
      cases (l.any fun x => decide (x.1 = c.1)) with
      | true => rfl
      | false =>
        rw [if_neg (by simp)]
        cases (l.any fun x => ovB x c) with
        | true => rfl
        | false =>
          rw [if_neg (by simp)]
          cases decide (r < l.length ∧ cmpC (l.getD r z28) c = 0) <;> rfl
end Go.Proofs.YthlhbnaloefncaaGreatDoor.Ex
namespace Go.Proofs.YthlhbnaloefncaaGreatDoor.Ex
open Go
set_option linter.unusedVariables false
set_option linter.unusedSimpArgs false
theorem rng_of {c : GContact} (h : okvT kGContact c) : rngC c := by
  simp only [okvT, SK.okv, Lit.wf, Bool.and_eq_true, decide_eq_true_eq] at h
  unfold rngC
  have e1 : IntKind.i64.min = -9223372036854775808 := by decide
  have e2 : IntKind.i64.max = 9223372036854775807 := by decide
  omega
def RR (a b : GContact) : Prop := cmpC a b < 0 ∧ a.1 ≠ b.1 ∧ (a.2.1 = b.2.1 → a.2.2.1 = b.2.2.1 → a.2.2.2.2.1 ≤ b.2.2.2.1)
def RightT (l : List GContact) : Prop := (∀ c ∈ l, conB c = true) ∧ l.Pairwise RR
theorem getD_get {l : List GContact} {i : Nat} (h : i < l.length) : l.getD i z28 = l[i] := by rw [List.getD_eq_getElem?_getD, List.getElem?_eq_getElem h]; rfl
theorem right_iff (l : List GContact) : chkR l l.length 0 = true ↔ RightT l := by
  rw [chkR_all]
  constructor
  · intro h
    have h' : ∀ q, q < l.length → okAt l q = true := fun q hq => h q (Nat.zero_le _) (by omega)
    refine ⟨fun c hc => ?_, ?_⟩
    · obtain ⟨q, hq, rfl⟩ := List.mem_iff_getElem.1 hc
      have := h' q hq
      unfold okAt at this
      simp only [Bool.and_eq_true] at this
      rw [getD_get hq] at this
      exact this.1
    · rw [List.pairwise_iff_getElem]
      intro i j hi hj hij
      obtain ⟨p1, p2⟩ := right_pairs (Nat.le_refl _) h' j hj i hij
      rw [getD_get hi, getD_get hj] at p1 p2
      refine ⟨p1, fun e => ?_, p2⟩
      have := h' j hj
      unfold okAt at this
      simp only [Bool.and_eq_true, Bool.not_eq_true', decide_eq_false_iff_not] at this
      refine this.2.1 ((mem_take_ids (by omega) _).2 ⟨i, hij, ?_⟩)
      rw [getD_get hi, getD_get hj]
      exact e
  · rintro ⟨h1, h2⟩ q _ hq
    have hq : q < l.length := by omega
    rw [List.pairwise_iff_getElem] at h2
    unfold okAt
    simp only [Bool.and_eq_true, Bool.not_eq_true', decide_eq_false_iff_not]
    refine ⟨by rw [getD_get hq]; exact h1 _ (List.getElem_mem hq), fun hm => ?_, ?_⟩
    · obtain ⟨j, hj, e⟩ := (mem_take_ids (by omega) _).1 hm
      rw [getD_get (by omega), getD_get hq] at e
      exact (h2 j q (by omega) hq hj).2.1 e
    · by_cases h0 : 0 < q
      · rw [decide_eq_true h0]
        simp only [cond_true, Bool.and_eq_true, decide_eq_true_eq, Bool.not_eq_true']
        have hq1 : q - 1 < l.length := by omega
        rw [getD_get hq1, getD_get hq]
        obtain ⟨a1, a2, a3⟩ := h2 (q - 1) q hq1 hq (by omega)
        refine ⟨a1, ?_⟩
        rw [ov_iff (h1 _ (List.getElem_mem hq1)) (h1 _ (List.getElem_mem hq)), ovR_false]
        rintro ⟨b1, b2, b3, b4⟩
        have := a3 b1 b2
        omega
      · rw [decide_eq_false h0]; rfl
theorem RightT.sort {l : List GContact} (h : RightT l) : ∀ i j, i < j → j < l.length → cmpC (l.getD i z28) (l.getD j z28) < 0 := fun i j hij hj => by
  have := (List.pairwise_iff_getElem.1 h.2) i j (by omega) hj hij
  rw [getD_get (by omega), getD_get hj]
  exact this.1
theorem RightT.rng {l : List GContact} (h : RightT l) : ∀ c ∈ l, rngC c := fun c hc => by
  have := h.1 c hc
  unfold conB spanB at this
  simp only [Bool.and_eq_true, decide_eq_true_eq] at this
  unfold rngC
  omega
def rightB (l : List GContact) : Bool := chkR l l.length 0 && decide (l.length ≤ 4096)
theorem Right_spec (l : List GContact) (k : Nat) (hs : l.length ≤ 1000000000) (hr : ∀ c ∈ l, rngC c) (hk : l.length + 5 < k) : contacts_Right k l = some (rightB l) := contacts_Right_spec0 l k hs hr hk
theorem rightB_iff {l : List GContact} : rightB l = true ↔ RightT l ∧ l.length ≤ 4096 := by
  unfold rightB; rw [Bool.and_eq_true, right_iff, decide_eq_true_eq]
theorem RightT.ids {l : List GContact} (h : RightT l) : l.Pairwise fun a b => a.1 ≠ b.1 := h.2.imp fun h => h.2.1
theorem findC_mem {l : List GContact} (h : l.Pairwise fun a b => a.1 ≠ b.1) {c : GContact} (hc : c ∈ l) : findC l c.1 = (c, true) := by
  induction l with
  | nil => cases hc
  | cons x l ih =>
    rw [List.pairwise_cons] at h
    unfold findC
    rw [List.find?_cons]
    rcases List.mem_cons.1 hc with rfl | hc
    · rw [decide_eq_true rfl]
    · rw [decide_eq_false (h.1 c hc)]
      exact ih h.2 hc
theorem findC_some {l : List GContact} {id : Int} (h : (findC l id).2 = true) : (findC l id).1 ∈ l ∧ (findC l id).1.1 = id := by
  unfold findC at h ⊢
  cases hf : l.find? (fun c => decide (c.1 = id)) with
  | none => rw [hf] at h; cases h
  | some c =>
    exact ⟨List.mem_of_find?_eq_some hf, by have := List.find?_some hf; simpa using this⟩
theorem findC_false {l : List GContact} {id : Int} (h : (findC l id).2 = false) : findC l id = (z28, false) ∧ ∀ c ∈ l, c.1 ≠ id := by
  unfold findC at h ⊢
  cases hf : l.find? (fun c => decide (c.1 = id)) with
  | none => exact ⟨rfl, fun c hc e => by have := List.find?_eq_none.1 hf c hc; simp at this; exact this e⟩
  | some c => rw [hf] at h; cases h
theorem RightT.filter {l : List GContact} (h : RightT l) (p : GContact → Bool) : RightT (l.filter p) := ⟨fun c hc => h.1 c (List.mem_filter.1 hc).1, h.2.filter p⟩
theorem RightT.nil : RightT [] := ⟨fun c hc => (by cases hc), List.Pairwise.nil⟩
theorem con_rated {c : GContact} (h : conB c = true) {r : Int} (hr : 1 ≤ r ∧ r ≤ 2147483647) : conB (rated c r) = true := by
  unfold conB rated at *
  simp only [Bool.and_eq_true, decide_eq_true_eq] at h ⊢
  exact ⟨h.1, hr⟩
theorem RightT.set {l : List GContact} (h : RightT l) {j : Nat} (hj : j < l.length) {r : Int} (hr : 1 ≤ r ∧ r ≤ 2147483647) : RightT (l.set j (rated l[j] r)) := by
  constructor
  · intro c hc
    rcases List.mem_or_eq_of_mem_set hc with h1 | rfl
    · exact h.1 c h1
    · exact con_rated (h.1 _ (List.getElem_mem hj)) hr
  · have h2 := List.pairwise_iff_getElem.1 h.2
    rw [List.pairwise_iff_getElem]
    intro p q hp hq hpq
    rw [List.length_set] at hp hq
    have := h2 p q hp hq hpq
    rw [List.getElem_set, List.getElem_set]
    split
    · rename_i e
      subst e
      rw [if_neg (by omega)]
      exact this
    · split
      · rename_i e
        subst e
        exact this
      · exact this
theorem ins_mem {l : List GContact} {r : Nat} {c x : GContact} : x ∈ insAt l r c ↔ x = c ∨ x ∈ l := by
  unfold insAt
  rw [List.mem_append, List.mem_cons]
  have : x ∈ l ↔ x ∈ l.take r ∨ x ∈ l.drop r := by rw [← List.mem_append, List.take_append_drop]
  rw [this]
  constructor
  · rintro (h | h | h)
    · exact .inr (.inl h)
    · exact .inl h
    · exact .inr (.inr h)
  · rintro (h | h | h)
    · exact .inr (.inl h)
    · exact .inl h
    · exact .inr (.inr h)
theorem ins_len {l : List GContact} {r : Nat} {c : GContact} : (insAt l r c).length = l.length + 1 := by
  unfold insAt
  rw [List.length_append, List.length_cons, List.length_take, List.length_drop]; omega
theorem RightT.ins {l : List GContact} (h : RightT l) {r : Nat} {c : GContact} (hr : r ≤ l.length) (h1 : ∀ q, q < r → cmpC (l.getD q z28) c < 0) (h2 : ∀ q, r ≤ q → q < l.length → 0 ≤ cmpC (l.getD q z28) c) (hc : conB c = true) (hid : ∀ x ∈ l, x.1 ≠ c.1) (hov : ∀ x ∈ l, ovB x c = false) : RightT (insAt l r c) := by
  constructor
  · intro x hx
    rcases ins_mem.1 hx with rfl | hx
    · exact hc
    · exact h.1 x hx
  · unfold insAt
    have hp := h.2
    rw [← List.take_append_drop r l] at hp
    rw [List.pairwise_append] at hp
    obtain ⟨p1, p2, p3⟩ := hp
    have t1 : ∀ x ∈ l.take r, cmpC x c < 0 := fun x hx => by
      obtain ⟨q, hq, rfl⟩ := List.mem_iff_getElem.1 hx
      have hq' : q < r := by rw [List.length_take] at hq; omega
      have := h1 q hq'
      rw [getD_get (by omega)] at this
      rw [List.getElem_take]
      exact this
    have t2 : ∀ x ∈ l.drop r, 0 ≤ cmpC x c := fun x hx => by
      obtain ⟨q, hq, rfl⟩ := List.mem_iff_getElem.1 hx
      have hq' : r + q < l.length := by rw [List.length_drop] at hq; omega
      have := h2 (r + q) (by omega) hq'
      rw [getD_get hq'] at this
      rw [List.getElem_drop]
      exact this
    have sc := con_span hc
    have o1 : ∀ x ∈ l.take r, RR x c := fun x hx => by
      have hm := List.mem_of_mem_take hx
      have hlt := t1 x hx
      refine ⟨hlt, hid x hm, fun e1 e2 => ?_⟩
      have := hov x hm
      rw [ov_iff (h.1 x hm) hc, ovR_false] at this
      rw [cmp_lt_iff] at hlt
      have sx := con_span (h.1 x hm)
      omega
    have o2 : ∀ x ∈ l.drop r, RR c x := fun x hx => by
      have hm := List.mem_of_mem_drop hx
      have hge := t2 x hx
      have hid' := hid x hm
      have hlt : cmpC c x < 0 := by
        rw [cmp_neg]
        have hne : cmpC x c ≠ 0 := fun e => by
          have h3 : ¬ cmpC x c < 0 := by omega
          have h4 : ¬ cmpC c x < 0 := by rw [cmp_neg]; omega
          rw [cmp_lt_iff] at h3 h4
          omega
        omega
      refine ⟨hlt, fun e => hid' e.symm, fun e1 e2 => ?_⟩
      have := hov x hm
      rw [ov_iff (h.1 x hm) hc, ovR_false] at this
      rw [cmp_lt_iff] at hlt
      have sx := con_span (h.1 x hm)
      omega
    rw [List.pairwise_append, List.pairwise_cons]
    refine ⟨p1, ⟨o2, p2⟩, fun a ha b hb => ?_⟩
    rcases List.mem_cons.1 hb with rfl | hb
    · exact o1 a ha
    · exact p3 a ha b hb
theorem Add_cases {l : List GContact} (h : RightT l) (hl : l.length ≤ 5000) (c : GContact) (hc : rngC c) (k : Nat) (hk : l.length + 6 < k) :
    (∃ e, e ≠ 0 ∧ contacts_Add k (l, c) = some (l, e)) ∨ ∃ r, contacts_Add k (l, c) = some (insAt l r c, 0) ∧ RightT (insAt l r c) ∧ conB c = true ∧ l.length < 4096 := by
  obtain ⟨r, r1, r2, r3, r4⟩ := contacts_Add_spec l c k (by omega) hc h.sort hk
  rw [r4]
  unfold AddR
  cases hb : conB c with
  | false => rw [if_pos rfl]; exact .inl ⟨1, by decide, rfl⟩
  | true =>
    rw [if_neg (by simp)]
    by_cases hful : 4096 ≤ l.length
    · rw [if_pos hful]; exact .inl ⟨3, by decide, rfl⟩
    rw [if_neg hful]
    cases hi : l.any (fun x => decide (x.1 = c.1)) with
    | true => rw [if_pos rfl]; exact .inl ⟨4, by decide, rfl⟩
    | false =>
      have hid : ∀ x ∈ l, x.1 ≠ c.1 := fun x hx e => by
        have := List.any_eq_false.1 hi x hx
        simp at this
        exact this e
      rw [if_neg (by simp)]
      cases ho : l.any (fun x => ovB x c) with
      | true => rw [if_pos rfl]; exact .inl ⟨5, by decide, rfl⟩
      | false =>
        have hov : ∀ x ∈ l, ovB x c = false := fun x hx => by
          have := List.any_eq_false.1 ho x hx
          simpa using this
        rw [if_neg (by simp)]
        exact .inr ⟨r, rfl, h.ins r1 r2 r3 hb hid hov, rfl, by omega⟩
theorem Change_cases {l : List GContact} (h : RightT l) (id rate : Int) :
    (∃ e, e ≠ 0 ∧ chgC l id rate = (l, e)) ∨ ∃ j, ∃ hj : j < l.length, l[j].1 = id ∧ chgC l id rate = (l.set j (rated l[j] rate), 0) ∧ RightT (l.set j (rated l[j] rate)) := by
  unfold chgC
  split
  · exact .inl ⟨1, by decide, rfl⟩
  · rename_i hr
    cases hf : l.findIdx? (fun c => decide (c.1 = id)) with
    | none => exact .inl ⟨6, by decide, rfl⟩
    | some j =>
      obtain ⟨hj, h1, h2⟩ := List.findIdx?_eq_some_iff_getElem.1 hf
      refine .inr ⟨j, hj, by simpa using h1, ?_, h.set hj (by omega)⟩
      have e : l.getD j (0, 0, 0, 0, 0, 0) = l[j] := getD_get hj
      simp only [e]
end Go.Proofs.YthlhbnaloefncaaGreatDoor.Ex
namespace Go.Proofs.YthlhbnaloefncaaGreatDoor.Ex
open Go
set_option linter.unusedVariables false
set_option linter.unusedSimpArgs false
theorem rows_ok {s : List SK} {l : List (Tup s)} (h : SK.okv (.row s) l) : ∀ x ∈ l, okvT s x := by
  simp only [SK.okv] at h
  exact h.2
theorem cond_t {α : Type} {b : Bool} {x y r : α} (hb : b = true) (h : x = r) : (bif b then x else y) = r := by subst hb; exact h
theorem cond_f {α : Type} {b : Bool} {x y r : α} (hb : b = false) (h : y = r) : (bif b then x else y) = r := by subst hb; exact h
theorem bind_s {α β : Type} {o : Option α} {v : α} {f : α → Option β} {r : Option β} (ho : o = some v) (h : f v = r) : o.bind f = r := by subst ho; exact h
theorem Same_spec (a b : List GContact) (k : Nat) (hs : a.length ≤ 1000000000) (hk : a.length < k) : contacts_Same k (a, b) = some (decide (a = b)) := by
  unfold contacts_Same
  exact bind_s (Equal_spec a b k (by omega) hk) (by cases decide (a = b) <;> rfl)
theorem left_left {now later : Int} (h : now ≤ later) (l : List GContact) : leftC later (leftC now l) = leftC later l := by
  unfold leftC
  rw [List.filter_filter]
  congr 1
  funext c
  rw [Bool.eq_iff_iff]
  simp only [Bool.and_eq_true, decide_eq_true_eq]
  omega
theorem leftR_len (now : Int) (l : List GRange) : (leftR now l).length ≤ l.length := List.length_filter_le _ _
theorem sorted_len (l : List Int) : (sorted l).length = l.length := (sorted_perm l).length_eq
theorem rngR_of {r : GRange} (h : okvT kGRange r) : rngR r := by
  simp only [okvT, SK.okv, Lit.wf, Bool.and_eq_true, decide_eq_true_eq] at h
  unfold rngR
  have e1 : IntKind.i64.min = -9223372036854775808 := by decide
  have e2 : IntKind.i64.max = 9223372036854775807 := by decide
  omega
def dC (d : GDirective) : GContact := (d.2.2.1, d.2.2.2.1, d.2.2.2.2.1, d.2.2.2.2.2.1, d.2.2.2.2.2.2.1, d.2.2.2.2.2.2.2.1)
def dR (d : GDirective) : GRange := d.2.2.2.2.2.2.2.2
def rngD (d : GDirective) : Prop := rngC (dC d) ∧ rngR (dR d)
def mayB (d : GDirective) : Bool := bif !decide (d.1 = 1) then
    (bif decide (d.1 = 3) then (bif decide (d.2.1 = 1) then conB (d.2.2.1, 1, 2, 0, 1, d.2.2.2.2.2.2.2.1) else ranB ((dR d).1, (dR d).2.1, (dR d).2.2.1, 2147483647, (dR d).2.2.2.2))
      else (bif decide (d.2.1 = 1) then conB (d.2.2.1, 1, 2, 0, 1, mx d.2.2.2.2.2.2.2.1 1) else ranB ((dR d).1, (dR d).2.1, (dR d).2.2.1, 2147483647, (dR d).2.2.2.2)))
  else (bif decide (d.2.1 = 1) then conB (dC d) else ranB (dR d))
theorem bif_self (b : Bool) : (bif b then some true else some false) = some b := by cases b <;> rfl
theorem direct_may_spec (k : Nat) (d : GDirective) (h : rngD d) : direct_may k d = some (mayB d) := by
  unfold direct_may mayB
  have h1 : ∀ x y, check_Contact k (x, 1, 2, 0, 1, y) = some (conB (x, 1, 2, 0, 1, y)) := fun x y => check_Contact_spec k _ ⟨by simp only; omega, by simp only; omega⟩ ⟨by simp only; omega, by simp only; omega⟩
  have h2 : check_Range k ((dR d).1, (dR d).2.1, (dR d).2.2.1, 2147483647, (dR d).2.2.2.2) = some (ranB ((dR d).1, (dR d).2.1, (dR d).2.2.1, 2147483647, (dR d).2.2.2.2)) := check_Range_spec k _ ⟨h.2.1, by simp only; omega⟩
  have h3 : check_Contact k (dC d) = some (conB (dC d)) := check_Contact_spec k _ h.1.1 h.1.2
  have h4 : check_Range k (dR d) = some (ranB (dR d)) := check_Range_spec k _ h.2
  unfold dR at h2 h4
  unfold dC at h3
  simp only [h1, h2, h3, h4, Option.bind_some, bif_self]
  unfold dC dR
  cases decide (d.1 = 1) <;> cases decide (d.1 = 3) <;> cases decide (d.2.1 = 1) <;> rfl
theorem ex_cond {c : Bool} {x y : Option Bool} (h1 : ∃ b, x = some b) (h2 : ∃ b, y = some b) : ∃ b, (bif c then x else y) = some b := by
  cases c
  · exact h2
  · exact h1
theorem direct_Right_some (k : Nat) (d : GDirective) (h : rngD d) : ∃ b, direct_Right k d = some b := by
  unfold direct_Right
  simp only [direct_may_spec k d h, Option.bind_some, bif_self]
  repeat first | exact ⟨_, rfl⟩ | refine ex_cond ?_ ?_
theorem direct_add1 (k : Nat) (d : GDirective) (h : rngD d) (h1 : d.1 = 1) (h2 : d.2.1 = 1) : direct_Right k d = some (decide (dR d = z56) && conB (dC d)) := by
  unfold direct_Right
  simp only [direct_may_spec k d h, Option.bind_some, bif_self]
  have e : mayB d = conB (dC d) := by unfold mayB; rw [h1, h2]; rfl
  rw [e, h1, h2]
  refine cond_t rfl ?_
  have e2 : ((1 : Int) == 1 && ((1 : Int) == 1 && (d.2.2.1 == d.2.2.1 && (d.2.2.2.1 == d.2.2.2.1 && (d.2.2.2.2.1 == d.2.2.2.2.1 && (d.2.2.2.2.2.1 == d.2.2.2.2.2.1 && (d.2.2.2.2.2.2.1 == d.2.2.2.2.2.2.1 && d.2.2.2.2.2.2.2.1 == d.2.2.2.2.2.2.2.1)))) && (0 == d.2.2.2.2.2.2.2.2.1 && (0 == d.2.2.2.2.2.2.2.2.2.1 && (0 == d.2.2.2.2.2.2.2.2.2.2.1 && (0 == d.2.2.2.2.2.2.2.2.2.2.2.1 && 0 == d.2.2.2.2.2.2.2.2.2.2.2.2))))))) = decide (dR d = z56) := by
    have := eq5 z56 (dR d)
    unfold dR at *
    simp only [beq_self_eq_true, Bool.true_and]
    rw [Bool.eq_iff_iff] at *
    rw [this]
    simp only [decide_eq_true_eq]
    exact eq_comm
  rw [e2]
  cases decide (dR d = z56) <;> rfl
theorem direct_add2 (k : Nat) (d : GDirective) (h : rngD d) (h1 : d.1 = 1) (h2 : d.2.1 = 2) : direct_Right k d = some (decide (dC d = z28) && ranB (dR d)) := by
  unfold direct_Right
  simp only [direct_may_spec k d h, Option.bind_some, bif_self]
  have e : mayB d = ranB (dR d) := by unfold mayB; rw [h1, h2]; rfl
  rw [e, h1, h2]
  refine cond_f rfl (cond_f rfl (cond_f rfl (cond_t rfl ?_)))
  have e2 : ((1 : Int) == 1 && ((2 : Int) == 2 && (0 == d.2.2.1 && (0 == d.2.2.2.1 && (0 == d.2.2.2.2.1 && (0 == d.2.2.2.2.2.1 && (0 == d.2.2.2.2.2.2.1 && 0 == d.2.2.2.2.2.2.2.1)))) && (d.2.2.2.2.2.2.2.2.1 == d.2.2.2.2.2.2.2.2.1 && (d.2.2.2.2.2.2.2.2.2.1 == d.2.2.2.2.2.2.2.2.2.1 && (d.2.2.2.2.2.2.2.2.2.2.1 == d.2.2.2.2.2.2.2.2.2.2.1 && (d.2.2.2.2.2.2.2.2.2.2.2.1 == d.2.2.2.2.2.2.2.2.2.2.2.1 && d.2.2.2.2.2.2.2.2.2.2.2.2 == d.2.2.2.2.2.2.2.2.2.2.2.2))))))) = decide (dC d = z28) := by
    have := eq6 z28 (dC d)
    unfold dC at *
    simp only [beq_self_eq_true, Bool.true_and, Bool.and_true]
    rw [Bool.eq_iff_iff] at *
    rw [this]
    simp only [decide_eq_true_eq]
    exact eq_comm
  rw [e2]
  cases decide (dC d = z28) <;> rfl
def RightP (p : GPlan) : Prop := (0 ≤ p.2.2.1 ∧ p.2.2.1 ≤ 2147483647) ∧ (0 ≤ p.2.2.2 ∧ p.2.2.2 ≤ 1099511627776) ∧ (∀ c ∈ p.1, p.2.2.1 < c.2.2.2.2.1) ∧ (∀ r ∈ p.2.1, p.2.2.1 < r.2.2.2.1) ∧ (RightT p.1 ∧ p.1.length ≤ 4096) ∧ RightR p.2.1 ∧ p.2.1.length ≤ 4096
theorem plan_Right_spec (p : GPlan) (k : Nat) (h1 : p.1.length ≤ 5000) (h2 : p.2.1.length ≤ 5000) (h3 : ∀ c ∈ p.1, rngC c) (h4 : ∀ r ∈ p.2.1, rngR r) (hk : 12000 < k) : ∃ b, plan_Right k p = some b ∧ (b = true ↔ RightP p) := by
  unfold plan_Right
  simp only [r1_spec p.1 p k (by omega) (by omega), r2_spec p.2.1 p k (by omega) (by omega), Right_spec p.1 k (by omega) h3 (by omega), RightQ_spec p.2.1 k (by omega) h4 (by omega), Option.bind_some]
  unfold RightP
  by_cases g1 : p.2.2.1 < 0
  · rw [decide_eq_true g1]; exact ⟨false, rfl, fun h => (by cases h), fun h => (by omega)⟩
  by_cases g2 : 2147483647 < p.2.2.1
  · rw [decide_eq_false g1, decide_eq_true g2]; exact ⟨false, rfl, fun h => (by cases h), fun h => (by omega)⟩
  by_cases g3 : p.2.2.2 < 0
  · rw [decide_eq_false g1, decide_eq_false g2, decide_eq_true g3]; exact ⟨false, rfl, fun h => (by cases h), fun h => (by omega)⟩
  by_cases g4 : 1099511627776 < p.2.2.2
  · rw [decide_eq_false g1, decide_eq_false g2, decide_eq_false g3, decide_eq_true g4]; exact ⟨false, rfl, fun h => (by cases h), fun h => (by omega)⟩
  rw [decide_eq_false g1, decide_eq_false g2, decide_eq_false g3, decide_eq_false g4]
  simp only [cond_false]
  cases g5 : p.1.any (fun c => decide (c.2.2.2.2.1 ≤ p.2.2.1)) with
  | true =>
    refine ⟨false, rfl, fun h => (by cases h), fun h => ?_⟩
    obtain ⟨c, hc, hp⟩ := List.any_eq_true.1 g5
    have := h.2.2.1 c hc
    simp only [decide_eq_true_eq] at hp
    omega
  | false =>
    have g5' : ∀ c ∈ p.1, p.2.2.1 < c.2.2.2.2.1 := fun c hc => by
      have := List.any_eq_false.1 g5 c hc
      simp only [decide_eq_true_eq] at this
      omega
    cases g6 : p.2.1.any (fun c => decide (c.2.2.2.1 ≤ p.2.2.1)) with
    | true =>
      refine ⟨false, rfl, fun h => (by cases h), fun h => ?_⟩
      obtain ⟨c, hc, hp⟩ := List.any_eq_true.1 g6
      have := h.2.2.2.1 c hc
      simp only [decide_eq_true_eq] at hp
      omega
    | false =>
      have g6' : ∀ c ∈ p.2.1, p.2.2.1 < c.2.2.2.1 := fun c hc => by
        have := List.any_eq_false.1 g6 c hc
        simp only [decide_eq_true_eq] at this
        omega
      cases g7 : rightB p.1 with
      | false =>
        refine ⟨false, rfl, fun h => (by cases h), fun h => ?_⟩
        rw [rightB_iff.2 h.2.2.2.2.1] at g7; cases g7
      | true =>
        cases g8 : rightQ p.2.1 with
        | false =>
          refine ⟨false, rfl, fun h => (by cases h), fun h => ?_⟩
          rw [rightQ_iff.2 h.2.2.2.2.2] at g8; cases g8
        | true => exact ⟨true, rfl, fun _ => ⟨by omega, by omega, g5', g6', rightB_iff.1 g7, rightQ_iff.1 g8⟩, fun _ => rfl⟩
theorem RightR.rng {l : List GRange} (h : RightR l) : ∀ c ∈ l, rngR c := fun c hc => by
  have := h.1 c hc
  unfold ranB spanB at this
  simp only [Bool.and_eq_true, decide_eq_true_eq] at this
  unfold rngR
  omega
theorem Copy_spec (p : GPlan) (k : Nat) (h1 : p.1.length ≤ 1000000000) (h2 : p.2.1.length ≤ 1000000000) : plan_Copy k p = some p := by
  unfold plan_Copy
  simp only [Clone_spec p.1 k h1, CloneR_spec p.2.1 k h2, Option.bind_some]
theorem past_spec (k : Nat) (d : GDirective) (now : Int) : plan_past k (d, now) = some (decide (d.1 = 1) && decide (max (dC d).2.2.2.2.1 (dR d).2.2.2.1 ≤ now)) := by
  unfold plan_past dC dR
  have hx : ∀ x y : Int, mx x y = max x y := by intro x y; unfold mx; omega
  simp only [hx]
  cases decide (d.1 = 1) <;> cases decide (max d.2.2.2.2.2.2.1 d.2.2.2.2.2.2.2.2.2.2.2.1 ≤ now) <;> rfl
def nextV (v : Int) : Int := min (v + 1) 1099511627776
theorem mn_next {v : Int} (h0 : 0 ≤ v) (h1 : v ≤ 1099511627776) : mn (w64 (v + 1)) 1099511627776 = nextV v := by
  rw [w64_id (by omega) (by omega)]
  unfold mn nextV
  omega
theorem mem_set_ne {α : Type} {l : List α} {j : Nat} {x c : α} (hj : j < l.length) (hc : c ∈ l) (h : c ≠ l[j]) : c ∈ l.set j x := by
  obtain ⟨i, hi, rfl⟩ := List.mem_iff_getElem.1 hc
  have hij : j ≠ i := fun e => h (by subst e; rfl)
  exact List.mem_iff_getElem.2 ⟨i, by simpa using hi, by rw [List.getElem_set_ne hij]⟩
def KeptC (p : GPlan) (d : GDirective) (q : GPlan) : Prop := (d.1 = 2 ∧ d.2.1 = 1 ∧ q.1 = p.1.filter (keepC d.2.2.1)) ∨ (d.1 = 3 ∧ d.2.1 = 1 ∧ (∃ c ∈ q.1, c.1 = d.2.2.1) ∧ ∀ c ∈ p.1, c.1 ≠ d.2.2.1 → c ∈ q.1) ∨ (¬ ((d.1 = 2 ∨ d.1 = 3) ∧ d.2.1 = 1) ∧ ∀ c ∈ p.1, c ∈ q.1)
theorem Apply_cases {p : GPlan} (h : RightP p) (h1 : p.1.length ≤ 5000) (h2 : p.2.1.length ≤ 5000) (d : GDirective) (hd : rngD d) (k : Nat) (hk : 12000 < k) :
    (∃ e, e ≠ 0 ∧ plan_Apply k (p, d) = some (p, e)) ∨ ∃ q, plan_Apply k (p, d) = some (q, 0) ∧ RightP q ∧ q.2.2.1 = p.2.2.1 ∧ KeptC p d q := by
  obtain ⟨hc1, hv, hcl, hrl, hRT, hRR⟩ := h
  have hv1 := mn_next hv.1 hv.2
  have hnv : 0 ≤ nextV p.2.2.2 ∧ nextV p.2.2.2 ≤ 1099511627776 := by unfold nextV; omega
  unfold plan_Apply
  simp only [Copy_spec p k (by omega) (by omega), past_spec, Option.bind_some, hv1]
  obtain ⟨b, hb⟩ := direct_Right_some k d hd
  simp only [hb, Option.bind_some]
  cases b with
  | false => exact .inl ⟨1, by decide, rfl⟩
  | true =>
    simp only [cond_true]
    cases hp : decide (d.1 = 1) && decide (max (dC d).2.2.2.2.1 (dR d).2.2.2.1 ≤ p.2.2.1) with
    | true => exact .inl ⟨7, by decide, rfl⟩
    | false =>
      simp only [cond_false]
      have eC : (d.2.2.1, d.2.2.2.1, d.2.2.2.2.1, d.2.2.2.2.2.1, d.2.2.2.2.2.2.1, d.2.2.2.2.2.2.2.1) = dC d := rfl
      have eR : d.2.2.2.2.2.2.2.2 = dR d := rfl
      simp only [eC, eR]
      by_cases c11 : d.1 = 1 ∧ d.2.1 = 1
      · have e1 : (d.1 == 1 && d.2.1 == 1) = true := by simp [c11]
        rw [direct_add1 k d hd c11.1 c11.2] at hb
        have hb := Option.some.inj hb
        simp only [Bool.and_eq_true, decide_eq_true_eq] at hb
        rw [c11.1, hb.1] at hp
        simp only [decide_true, Bool.true_and, decide_eq_false_iff_not] at hp
        simp only [e1, cond_true]
        rcases Add_cases hRT.1 (by omega) (dC d) hd.1 k (by omega) with ⟨e, he, ha⟩ | ⟨r, ha, hR, _, hlt⟩
        · refine .inl ⟨e, he, ?_⟩
          simp [ha, he]
        · refine .inr ⟨(insAt p.1 r (dC d), p.2.1, p.2.2.1, nextV p.2.2.2), ?_, ⟨hc1, hnv, ?_, hrl, ⟨hR, ?_⟩, hRR⟩, rfl, .inr (.inr ⟨by omega, fun c hc => ins_mem.2 (.inr hc)⟩)⟩
          · simp [ha]
          · intro c hc
            rcases ins_mem.1 hc with rfl | hc
            · show p.2.2.1 < (dC d).2.2.2.2.1
              omega
            · exact hcl c hc
          · show (insAt p.1 r (dC d)).length ≤ 4096
            rw [ins_len]; omega
      have e1 : (d.1 == 1 && d.2.1 == 1) = false := by simpa using c11
      simp only [e1, cond_false]
      by_cases c21 : d.1 = 2 ∧ d.2.1 = 1
      · have e2 : (d.1 == 2 && d.2.1 == 1) = true := by simp [c21]
        simp only [e2, cond_true, contacts_Delete_spec p.1 d.2.2.1 k (by omega) (by omega), Option.bind_some]
        by_cases hl : (p.1.filter (keepC d.2.2.1)).length = p.1.length
        · refine .inl ⟨6, by decide, ?_⟩
          rw [if_pos hl]; rfl
        · rw [if_neg hl]
          have := List.length_filter_le (keepC d.2.2.1) p.1
          exact .inr ⟨(p.1.filter (keepC d.2.2.1), p.2.1, p.2.2.1, nextV p.2.2.2), rfl, ⟨hc1, hnv, fun c hc => hcl c (List.mem_filter.1 hc).1, hrl, ⟨hRT.1.filter _, Nat.le_trans this (by omega)⟩, hRR⟩, rfl, .inl ⟨c21.1, c21.2, rfl⟩⟩
      have e2 : (d.1 == 2 && d.2.1 == 1) = false := by simpa using c21
      simp only [e2, cond_false]
      by_cases c31 : d.1 = 3 ∧ d.2.1 = 1
      · have e3 : (d.1 == 3 && d.2.1 == 1) = true := by simp [c31]
        simp only [e3, cond_true, contacts_Change_spec p.1 d.2.2.1 d.2.2.2.2.2.2.2.1 k (by omega) (by omega), Option.bind_some]
        rcases Change_cases hRT.1 d.2.2.1 d.2.2.2.2.2.2.2.1 with ⟨e, he, ha⟩ | ⟨j, hj, hid, ha, hR⟩
        · refine .inl ⟨e, he, ?_⟩
          simp [ha, he]
        · refine .inr ⟨(p.1.set j (rated p.1[j] d.2.2.2.2.2.2.2.1), p.2.1, p.2.2.1, nextV p.2.2.2), by simp [ha], ⟨hc1, hnv, ?_, hrl, ⟨hR, by simp only [List.length_set]; omega⟩, hRR⟩, rfl, .inr (.inl ⟨c31.1, c31.2, ⟨_, List.mem_set hj _, hid⟩, fun c hc hne => mem_set_ne hj hc (fun e => hne (e ▸ hid))⟩)⟩
          intro c hc
          rcases List.mem_or_eq_of_mem_set hc with hm | rfl
          · exact hcl c hm
          · exact hcl p.1[j] (List.getElem_mem hj)
      have e3 : (d.1 == 3 && d.2.1 == 1) = false := by simpa using c31
      simp only [e3, cond_false]
      by_cases c12 : d.1 = 1 ∧ d.2.1 = 2
      · have e4 : (d.1 == 1 && d.2.1 == 2) = true := by simp [c12]
        rw [direct_add2 k d hd c12.1 c12.2] at hb
        have hb := Option.some.inj hb
        simp only [Bool.and_eq_true, decide_eq_true_eq] at hb
        rw [c12.1, hb.1] at hp
        simp only [decide_true, Bool.true_and, decide_eq_false_iff_not] at hp
        simp only [e4, cond_true]
        rcases AddR_cases hRR.1 (by omega) (dR d) hd.2 k (by omega) with ⟨e, he, ha⟩ | ⟨r, ha, hR, hlt⟩
        · refine .inl ⟨e, he, ?_⟩
          simp [ha, he]
        · refine .inr ⟨(p.1, insR p.2.1 r (dR d), p.2.2.1, nextV p.2.2.2), ?_, ⟨hc1, hnv, hcl, ?_, hRT, hR, ?_⟩, rfl, .inr (.inr ⟨by omega, fun c hc => hc⟩)⟩
          · simp [ha]
          · intro c hc
            rcases insR_mem.1 hc with rfl | hc
            · show p.2.2.1 < (dR d).2.2.2.1
              omega
            · exact hrl c hc
          · show (insR p.2.1 r (dR d)).length ≤ 4096
            rw [insR_len]; omega
      have e4 : (d.1 == 1 && d.2.1 == 2) = false := by simpa using c12
      simp only [e4, cond_false]
      by_cases c22 : d.1 = 2 ∧ d.2.1 = 2
      · have e5 : (d.1 == 2 && d.2.1 == 2) = true := by simp [c22]
        simp only [e5, cond_true]
        rcases DeleteR_cases hRR.1 (by omega) (dR d) k (by omega) with ⟨e, he, ha⟩ | ⟨l', ha, hR, hlen, hm⟩
        · refine .inl ⟨e, he, ?_⟩
          simp [ha, he]
        · exact .inr ⟨(p.1, l', p.2.2.1, nextV p.2.2.2), by simp [ha], ⟨hc1, hnv, hcl, fun c hc => hrl c (hm c hc), hRT, hR, by show l'.length ≤ 4096; omega⟩, rfl, .inr (.inr ⟨by omega, fun c hc => hc⟩)⟩
      have e5 : (d.1 == 2 && d.2.1 == 2) = false := by simpa using c22
      simp only [e5, cond_false]
      rcases ChangeR_cases hRR.1 (by omega) (dR d) k (by omega) with ⟨e, he, ha⟩ | ⟨j, hj, ha, hR⟩
      · refine .inl ⟨e, he, ?_⟩
        simp [ha, he]
      · refine .inr ⟨(p.1, p.2.1.set j (longR p.2.1[j] (dR d).2.2.2.2), p.2.2.1, nextV p.2.2.2), by simp [ha], ⟨hc1, hnv, hcl, ?_, hRT, hR, by simp only [List.length_set]; omega⟩, rfl, .inr (.inr ⟨by omega, fun c hc => hc⟩)⟩
        intro c hc
        rcases List.mem_or_eq_of_mem_set hc with hm | rfl
        · exact hrl c hm
        · exact hrl p.2.1[j] (List.getElem_mem hj)
def advV (p : GPlan) (now : Int) : Int := if p.2.2.1 < now then nextV p.2.2.2 else p.2.2.2
def advP (p : GPlan) (now : Int) : GPlan := (leftC now p.1, leftR now p.2.1, now, advV p now)
theorem Advance_cases {p : GPlan} (h : RightP p) (h1 : p.1.length ≤ 5000) (h2 : p.2.1.length ≤ 5000) (now : Int) (k : Nat) (hk : 12000 < k) :
    plan_Advance k (p, now) = some (if now < p.2.2.1 ∨ 2147483647 < now then (p, [], 7) else (advP p now, sorted (goneC now p.1), 0)) := by
  obtain ⟨hc1, hv, _⟩ := h
  unfold plan_Advance advP advV
  simp only [Copy_spec p k (by omega) (by omega), contacts_Expire_spec p.1 now k (by omega) (by omega), ExpireR_spec p.2.1 now k (by omega) (by omega), Option.bind_some, mn_next hv.1 hv.2]
  by_cases g1 : now < p.2.2.1
  · rw [decide_eq_true g1, if_pos (.inl g1)]; rfl
  by_cases g2 : 2147483647 < now
  · rw [decide_eq_false g1, decide_eq_true g2, if_pos (.inr g2)]; rfl
  rw [decide_eq_false g1, decide_eq_false g2, if_neg (by omega)]
  by_cases g3 : p.2.2.1 < now
  · rw [decide_eq_true g3, if_pos g3]; rfl
  · rw [decide_eq_false g3, if_neg g3]; rfl
theorem advP_right {p : GPlan} (h : RightP p) {now : Int} (h0 : p.2.2.1 ≤ now) (h1 : now ≤ 2147483647) : RightP (advP p now) := by
  obtain ⟨hc1, hv, hcl, hrl, hRT, hRR⟩ := h
  refine ⟨⟨by show 0 ≤ now; omega, h1⟩, ?_, fun c hc => ?_, fun c hc => ?_, ⟨hRT.1.filter _, Nat.le_trans (leftC_len now p.1) hRT.2⟩, hRR.1.filter _, Nat.le_trans (leftR_len now p.2.1) hRR.2⟩
  · show 0 ≤ advV p now ∧ advV p now ≤ 1099511627776
    unfold advV nextV
    split <;> omega
  · have := (List.mem_filter.1 hc).2
    simp only [decide_eq_true_eq] at this
    exact this
  · have := (List.mem_filter.1 hc).2
    simp only [decide_eq_true_eq] at this
    exact this
end Go.Proofs.YthlhbnaloefncaaGreatDoor.Ex
namespace Go.Proofs.YthlhbnaloefncaaGreatDoor.Ex
open Go Go.RowKit
set_option linter.unusedVariables false
set_option linter.unusedSimpArgs false
section
variable {P : Program} {w0 : Org} {w : World} {N : Nat} {S : AS} {o : Oper} {ρ : Type} {r : ρ} {id0 : Nat}
def ixArr (P : Program) (e : TypeId) (sz : Nat) (cs : List PV) (n : Int) (κ : PV → Option ρ) : Nat → Nat → Option ρ
  | 0, _ => none
  | f + 1, q => bif decide (n = (q : Int)) then match partB P e cs (q * sz) with
      | some p => κ p
      | none => none
    else ixArr P e sz cs n κ f (q + 1)
theorem ixArr_ok {e : TypeId} {sz : Nat} {cs : List PV} {n : Int} {κ : PV → Option ρ} : ∀ {f q : Nat}, ixArr P e sz cs n κ f q = some r → ∃ (j : Nat) (p : PV), n = (j : Int) ∧ j < q + f ∧ partB P e cs (j * sz) = some p ∧ κ p = some r
  | 0, q, h => by cases h
  | f + 1, q, h => by
    rcases cond_some h with ⟨h1, hh⟩ | ⟨_, hh⟩
    · have hn := of_decide_eq_true h1
      split at hh
      · rename_i p hp; exact ⟨q, p, hn, by omega, hp, hh⟩
      · cases hh
    · obtain ⟨j, p, h2, h3, h4⟩ := ixArr_ok hh
      exact ⟨j, p, h2, by omega, h4⟩
def ixRun (P : Program) (S : AS) (id0 : Nat) (o : Oper) (κ : Eff → Option ρ) : Option ρ := match o.op with
  | .index t x i => match P.underlying t, S.ev x, S.ev i with
    | some (.array len e), .agg cs, .v (.int _ n) => match sizeB P e with
      | some sz => ixArr P e sz cs n (fun p => κ ⟨p, []⟩) len 0
      | none => none
    | _, _, _ => none
  | _ => none
def ixOn (P : Program) (S : AS) (o : Oper) : Bool := match o.op with
  | .index t x _ => match P.underlying t, S.ev x with
    | some (.array _ _), .agg _ => true
    | _, _ => false
  | _ => false
theorem ix_ok {κ : Eff → Option ρ} (h : ixRun P S id0 o κ = some r) : Sound P w0 N S id0 o κ r := by
  unfold ixRun at h
  split at h
  · rename_i t x i ho
    split at h
    · rename_i len e cs k n hu hx hi
      split at h
      · rename_i sz hs
        obtain ⟨j, p, hn, hj, hp, hk⟩ := ixArr_ok h
        refine SoundV.sound (κ := κ) ⟨_, hk, fun m a w hr => ?_⟩
        have h1 := hr.ev x
        rw [hx] at h1
        generalize hz : a.eval x = z at h1
        cases h1 with | agg h1 =>
        rename_i vs
        obtain ⟨v, hv, hrv⟩ := partB_ok h1 hp w
        refine ⟨v, run_of (s := Instr.index t (a.eval x) (a.eval i)) (by unfold execOp; simp only [ho]) ?_, hrv⟩
        rw [hz, ev_v hr hi]
        simp only [Instr.index, asIntOf, Sem.run_bind, run_underlying hu, Result.andThen_ok, Sem.run_pure]
        rw [if_pos (by omega)]
        simp only [Sem.run_bind, sizeB_ok hs, Result.andThen_ok, hn, Int.toNat_natCast]
        exact hv
      · cases h
    · cases h
  · cases h
def hkIx (P : Program) : Hook P := ⟨ixOn P, fun S id0 o κ => ixRun P S id0 o κ, fun _ h => ix_ok h⟩
mutual
theorem PV.sub_id : ∀ x : PV, x.sub (fun _ => none) (fun _ _ => none) = x
  | .own i => rfl
  | .ptr i off => rfl
  | .fn n caps => by simp only [PV.sub, subL_id caps]
  | .agg cs => by simp only [PV.sub, subL_id cs]
  | .tup vs => by simp only [PV.sub, subL_id vs]
  | .un => rfl
  | .v x => rfl
  | .row fr s l => rfl
  | .rptr fr s x off => rfl
  | .eptr i j sz off => rfl
  | .mp i => rfl
  | .ocut i j sz => rfl
  | .prow i o => rfl
  | .pcel i o => rfl
  | .rmap ks vs => by simp only [PV.sub, subL_id vs]
theorem subL_id : ∀ l : List PV, subL (fun _ => none) (fun _ _ => none) l = l
  | [] => rfl
  | x :: r => by simp only [subL, PV.sub_id x, subL_id r]
end
theorem ABlk.sub_id (b : ABlk) : b.sub (fun _ => none) (fun _ _ => none) = b := by
  cases b with
  | box T cs => simp only [ABlk.sub, subL_id]
  | _ => rfl
def ints64 : List PV → Option (List Int)
  | [] => some []
  | x :: r => match x with
    | .v (.int .i64 n) => match ints64 r with
      | some l => some (n :: l)
      | none => none
    | _ => none
theorem ints64_ok {m : Nm} {B0 : Nat} : ∀ {cs : List PV} {vs : List Value} {l : List Int}, ints64 cs = some l → RepVs m B0 w cs vs → vs = l.map (Value.int .i64)
  | [], vs, l, h, hv => by
    cases hv
    cases h
    rfl
  | x :: r, vs, l, h, hv => by
    cases hv with | cons h1 h2 =>
    unfold ints64 at h
    split at h
    · split at h
      · rename_i l' hl
        cases h
        cases h1
        rw [ints64_ok hl h2]
        rfl
      · cases h
    · cases h
def acutRun (P : Program) (S : AS) (id0 : Nat) (o : Oper) (κ : Eff → Option ρ) : Option ρ := match o.op with
  | .slice t x lo none none => match P.underlying t, S.ev x with
    | some (.array len e), .ptr i 0 => match sizeB P e, S.σ i with
      | some 1, .box _ cs => match ints64 cs with
        | some l => bif Nat.beq l.length len then match bound (lo.map S.ev) with
          | some none => κ ⟨.row false [.int .i64] l, [(i, .no)]⟩
          | some (some k) => bif decide (0 ≤ k) then bif decide (k ≤ (l.length : Int)) then κ ⟨.row false [.int .i64] (l.drop k.toNat), [(i, .no)]⟩ else none else none
          | none => none else none
        | none => none
      | _, _ => none
    | _, _ => none
  | _ => none
def acutOn (P : Program) (S : AS) (o : Oper) : Bool := match o.op with
  | .slice t x _ none none => match P.underlying t, S.ev x with
    | some (.array _ _), .ptr _ 0 => true
    | _, _ => false
  | _ => false
theorem acut_row {m : Nm} {B0 b : Nat} {l : List Int} {T : TypeId} (hb : w.heap[b]? = some (.cells (l.map (Value.int .i64)).toArray T (0, 0))) (k : Nat) (hk : k ≤ l.length) (A : Option Addr) (hA : k < l.length → A = some ⟨b, k, none⟩) (hF : m.F b) : RepV m B0 w (.row false [.int .i64] (l.drop k)) (.slice A (l.length - k) (l.length - k)) := by
  have hl : (l.drop k).length = l.length - k := List.length_drop
  rw [← hl]
  refine .row ?_
  simp only [SKIs]
  refine ⟨A, (l.drop k).length, rfl, Nat.le_refl _, fun i y hy => ?_⟩
  have hy : l[k + i]? = some (y : Int) := (List.getElem?_drop (xs := l) (i := k) (j := i)).symm.trans hy
  have hi : k + i < l.length := by
    have := (List.getElem?_eq_some_iff.1 hy).1
    exact this
  refine ⟨b, k, [.int .i64 y], hA (by omega), ⟨hF, fun h => by cases h⟩, rfl, fun j u hj => ?_, ⟨_, rfl, rfl⟩⟩
  match j, hj with
  | 0, hj =>
    cases hj
    rw [blk_cell hb]
    simp [hy]
    rfl
  | j + 1, hj => simp at hj
theorem acut_ok {κ : Eff → Option ρ} (h : acutRun P S id0 o κ = some r) : Sound P w0 N S id0 o κ r := by
  unfold acutRun at h
  split at h
  · rename_i t x lo ho
    split at h
    · rename_i len e i hu hx
      split at h
      · rename_i T cs hs hσ
        split at h
        · rename_i l hl
          rcases cond_some h with ⟨hlen, hm⟩ | ⟨_, h2⟩
          · clear h
            have hlen := Nat.eq_of_beq_eq_true hlen
            subst hlen
            have key : ∀ k : Nat, k ≤ l.length → (∀ m a w, Rep w0 N m S a w → ∃ A, (Instr.sliceAt t (.pointer (some ⟨m.b i, 0, none⟩)) (lo.map a.eval) none none).run P w = .ok (.slice A (l.length - k) (l.length - k)) w ∧ (k < l.length → A = some ⟨m.b i, k, none⟩)) → κ ⟨.row false [.int .i64] (l.drop k), [(i, .no)]⟩ = some r → Sound P w0 N S id0 o κ r := by
              intro k hk hrun hκ
              refine ⟨_, hκ, ?_⟩
              intro S' m a w hl' hf hr K Q hK
              have hr0 := hr.le hl'
              have h3 := hr0.ev x
              rw [hx] at h3
              generalize hz : a.eval x = z at h3
              cases h3
              have hbk := hr.heap.blk i
              have hσ' : S'.σ i = .box T cs := Le.blk hl' hσ (by simp)
              rw [hσ'] at hbk
              obtain ⟨b1, b2, vs, b3, b4⟩ := hbk
              have hvs := ints64_ok hl b3
              subst hvs
              obtain ⟨A, hA, hA2⟩ := hrun m a w hr0
              have h5 := (hr.sub (f := fun _ => none) (g := fun _ _ => none) (i := i) (F' := fun k => m.F k ∨ k = m.b i) (fun k h => .inl h) (fun k h => h.imp id (fun h => by rw [hσ']; exact h)) (fun j p v h => by cases h) (fun j off p v h => by cases h)).heap
              have e5 : (subS S' i (fun _ => none) (fun _ _ => none)).σ = updσ S'.σ [(i, .no)] := by
                funext j
                show (bif Nat.beq j i then ABlk.no else (S'.σ j).sub _ _) = bif Nat.beq j i then ABlk.no else S'.σ j
                rw [ABlk.sub_id]
              rw [e5] at h5
              have hrun' : (execOp a.eval o).run P w = .ok (.value (.slice A (l.length - k) (l.length - k))) w := run_of (s := Instr.sliceAt t (a.eval x) (lo.map a.eval) none none) (by unfold execOp; simp only [ho, Option.map_none]) (by rw [hz]; exact hA)
              unfold Oper.wp
              rw [hrun', Oper.upon_value]
              exact hK ⟨m.v, m.b, fun k => m.F k ∨ k = m.b i⟩ w _ ⟨fun _ _ => rfl, fun _ _ => rfl, fun k hk => ⟨.inl hk, rfl⟩⟩ h5 (acut_row b4 k hk A hA2 (.inr rfl))
            split at hm
            · rename_i hb
              refine key 0 (Nat.zero_le _) (fun m a w hr => ⟨some ⟨m.b i, 0, none⟩, ?_, fun _ => rfl⟩) hm
              obtain ⟨k1, hb1⟩ := bound_ok hr hb
              rw [hb1]
              simp only [Instr.sliceAt, Sem.run_bind, run_underlying hu, Result.andThen_ok, Option.map_none]
              simp [Instr.sureAddr, Instr.sliceBounds, Sem.run_bind, sizeB_ok hs, Addr.add]
            · rename_i k hb
              rcases cond_some hm with ⟨h0, hm⟩ | ⟨_, h2⟩
              · rcases cond_some hm with ⟨h1, hm⟩ | ⟨_, h2⟩
                · have h0 := of_decide_eq_true h0
                  have h1 := of_decide_eq_true h1
                  refine key k.toNat (by omega) (fun m a w hr => ?_) hm
                  obtain ⟨k1, hb1⟩ := bound_ok hr hb
                  rw [hb1]
                  have hle : k ≤ (l.length : Int) := h1
                  refine ⟨some (if l.length = k.toNat then ⟨m.b i, 0, none⟩ else ⟨m.b i, k.toNat, none⟩), ?_, fun hlt => by rw [if_neg (by omega)]⟩
                  simp only [Instr.sliceAt, Sem.run_bind, run_underlying hu, Result.andThen_ok, Option.map_some]
                  simp [Instr.sureAddr, Instr.sliceBounds, Instr.sliceBound, asIntOf, Sem.run_bind, sizeB_ok hs, Addr.add, h0, hle]
                  split
                  · rfl
                  · split
                    · rename_i h5
                      have h6 : k.toNat = 0 := by omega
                      rw [h6]
                    · rfl
                · cases h2
              · cases h2
            · cases hm
          · cases h2
        · cases h
      · cases h
    · cases h
  · cases h
def mlenRun (P : Program) (S : AS) (id0 : Nat) (o : Oper) (κ : Eff → Option ρ) : Option ρ := match o.op with
  | .call c => match c.callee, c.args.toList with
    | .builtin .len, [x] => match c.argTypes[0]?, S.ev x with
      | some t, .mp i => match P.underlying t, S.σ i with
        | some (.map _ _), .mset l => κ ⟨.v (.int .i64 (l.length : Int)), []⟩
        | _, _ => none
      | _, _ => none
    | _, _ => none
  | _ => none
def mlenOn (P : Program) (S : AS) (o : Oper) : Bool := match o.op with
  | .call c => match c.callee, c.args.toList with
    | .builtin .len, [x] => match S.ev x with
      | .mp _ => true
      | _ => false
    | _, _ => false
  | _ => false
theorem mlen_ok {κ : Eff → Option ρ} (h : mlenRun P S id0 o κ = some r) : Sound P w0 N S id0 o κ r := by
  unfold mlenRun at h
  split at h
  · rename_i c ho
    obtain ⟨callee, args, ts⟩ := c
    split at h
    · rename_i x hc hx
      have hc : callee = .builtin .len := hc
      have hx' : args = #[x] := by apply Array.ext'; exact hx
      subst hc hx'
      split at h
      · rename_i t i ht hxv
        have ht : ts[0]? = some t := ht
        split at h
        · rename_i kt vt l hu hσ
          refine SoundV.sound (κ := κ) ⟨_, h, fun m a w hr => ⟨_, ?_, .v⟩⟩
          have h1 := hr.ev x
          rw [hxv] at h1
          generalize hz : a.eval x = z at h1
          cases h1
          have hb := hr.heap.blk i
          rw [hσ] at hb
          obtain ⟨b1, b2, es, cl, b3, b4⟩ := hb
          have hlen : es.size = l.length := by
            have := congrArg List.length b4
            simpa using this
          unfold execOp
          simp only [ho]
          simp [resolve, invoke, builtin, Builtin.len_, ht, hz, Sem.run_bind, run_underlying hu, goInt, MapKept.run_getObj_map b3, hlen]
        · cases h
      · cases h
    · cases h
  · cases h
def hkMlen (P : Program) : Hook P := ⟨mlenOn P, fun S id0 o κ => mlenRun P S id0 o κ, fun _ h => mlen_ok h⟩
def hkAcut (P : Program) : Hook P := ⟨acutOn P, fun S id0 o κ => acutRun P S id0 o κ, fun _ h => acut_ok h⟩
end
end Go.Proofs.YthlhbnaloefncaaGreatDoor.Ex
namespace Go.Proofs.YthlhbnaloefncaaGreatDoor.Ex
open Go
set_option linter.unusedVariables false
set_option maxHeartbeats 0
abbrev GBooked := Int × Int × Int × Int
abbrev lGBooked : List LK := [.sc (.int .i64), .sc (.int .i64), .sc (.int .i64), .sc (.int .i64)]
abbrev kGBooked : List SK := [.int .i64, .int .i64, .int .i64, .int .i64]
abbrev T48 := Int × Int × Int
abbrev lT48 : List LK := [.sc (.int .i64), .sc (.int .i64), .sc (.int .i64)]
abbrev toT48 : List TL := [.sc (.int .i64), .sc (.int .i64), .sc (.int .i64)]
def ledger_at_1 (k : Nat) : (GBooked × Int) → Option (Int) := fun (b, id) =>
  (cmp_Compare_int k (b.1, id)).bind fun o_1 =>
  some (o_1)
noncomputable def ledger_at_1_e := entOf (P := Tryz.prog) (A := [.agg lGBooked, .one (.sc (.int .i64))]) (R := [.one (.sc (.int .i64))]) Tryz.f121 ledger_at_1 (fun k => ⟨[cmp_Compare_int_e k], [], [hkStr Tryz.prog]⟩) [] Tryz.func121 (by kernel_rfl) (by kernel_rfl) trivial (fun k x => by kernel_rfl) fun _ _ => by kernel_rfl
def BinarySearchFunc_B_L0 : Nat → ((List GBooked) × Int × Unit × Int × Int × Int) → Option (((List GBooked) × Int × Unit × Int × Int) ⊕ (Int × Bool))
  | 0, _ => none
  | k + 1, (x0, target, cmp, n, i, j) =>
  bif decide (i < j) then
  bif decide (0 ≤ w64 (Int.fdiv (IntKind.wrap IntKind.u64 (w64 (i + j))) (2 ^ min (Int.toNat 1) 64))) then
   bif decide (w64 (Int.fdiv (IntKind.wrap IntKind.u64 (w64 (i + j))) (2 ^ min (Int.toNat 1) 64)) < Int.ofNat (List.length x0)) then
    (ledger_at_1 k (List.getD x0 (Int.toNat (w64 (Int.fdiv (IntKind.wrap IntKind.u64 (w64 (i + j))) (2 ^ min (Int.toNat 1) 64)))) (0, 0, 0, 0), target)).bind fun o_4 =>
     bif decide (o_4 < 0) then
      BinarySearchFunc_B_L0 k (x0, target, (), n, w64 (w64 (Int.fdiv (IntKind.wrap IntKind.u64 (w64 (i + j))) (2 ^ min (Int.toNat 1) 64)) + 1), j)
     else
      BinarySearchFunc_B_L0 k (x0, target, (), n, i, w64 (Int.fdiv (IntKind.wrap IntKind.u64 (w64 (i + j))) (2 ^ min (Int.toNat 1) 64)))
   else
    none
  else
   none
 else
  some (Sum.inl (x0, target, (), n, i))
def BinarySearchFunc_B (k : Nat) : ((List GBooked) × Int × Unit) → Option (Int × Bool) := fun (x0, target, cmp) =>
  (BinarySearchFunc_B_L0 k (x0, target, (), Int.ofNat (List.length x0), 0, Int.ofNat (List.length x0))).bind fun o_1 =>
  match o_1 with
  | .inl o_2 =>
   bif decide (o_2.2.2.2.2 < o_2.2.2.2.1) then
    bif decide (0 ≤ o_2.2.2.2.2) then
     bif decide (o_2.2.2.2.2 < Int.ofNat (List.length o_2.1)) then
      (ledger_at_1 k (List.getD o_2.1 (Int.toNat o_2.2.2.2.2) (0, 0, 0, 0), o_2.2.1)).bind fun o_6 =>
       bif decide (o_6 = 0) then
        some ((o_2.2.2.2.2, true))
       else
        some ((o_2.2.2.2.2, false))
     else
      none
    else
     none
   else
    some ((o_2.2.2.2.2, false))
  | .inr o_2 =>
   some (o_2)
noncomputable def BinarySearchFunc_B_e := entOf (P := Tryz.prog) (A := [.one (.row 50 kGBooked), .one (.sc (.int .i64)), .one (.fnc 121 [])]) (R := [.one (.sc (.int .i64)), .one (.sc (.bool))]) Tryz.f120 BinarySearchFunc_B (fun k => ⟨[ledger_at_1_e k], [], [hkStr Tryz.prog]⟩) [some ⟨0, [(0, .one (.ro kGBooked)), (1, .one (.sc (.int .i64))), (2, .fnp 121 []), (8, .one (.sc (.int .i64))), (9, .one (.sc (.int .i64))), (10, .one (.sc (.int .i64)))], [(0, .one (.ro kGBooked)), (1, .one (.sc (.int .i64))), (2, .fnp 121 []), (8, .one (.sc (.int .i64))), (9, .one (.sc (.int .i64)))], BinarySearchFunc_B_L0⟩] Tryz.func120 (by kernel_rfl) (by kernel_rfl) ⟨⟨fun _ => rfl, fun k x => by kernel_rfl⟩, trivial⟩ (fun k x => by kernel_rfl) fun _ _ => by kernel_rfl
def ledger_at (k : Nat) : ((List GBooked) × Int) → Option (Int × Bool) := fun (l, id) =>
  (BinarySearchFunc_B k (l, id, ())).bind fun o_1 =>
  bif o_1.2 then
   some ((o_1.1, true))
  else
   some ((o_1.1, false))
noncomputable def ledger_at_e := entOf (P := Tryz.prog) (A := [.one (.row 50 kGBooked), .one (.sc (.int .i64))]) (R := [.one (.sc (.int .i64)), .one (.sc (.bool))]) Tryz.f69 ledger_at (fun k => ⟨[BinarySearchFunc_B_e k, ledger_at_1_e k], [], [hkStr Tryz.prog]⟩) [] Tryz.func69 (by kernel_rfl) (by kernel_rfl) trivial (fun k x => by kernel_rfl) fun _ _ => by kernel_rfl
def ledger_class (k : Nat) : Int → Option (Bool) := fun (n) =>
  bif decide (0 ≤ n) then
  bif decide (n < 3) then
   some (true)
  else
   some (false)
 else
  some (false)
noncomputable def ledger_class_e := entOf (P := Tryz.prog) (A := [.one (.sc (.int .i64))]) (R := [.one (.sc (.bool))]) Tryz.f59 ledger_class (fun k => ⟨[], [], [hkStr Tryz.prog]⟩) [] Tryz.func59 (by kernel_rfl) (by kernel_rfl) trivial (fun k x => by kernel_rfl) fun _ _ => by kernel_rfl
def ledger_Used (k : Nat) : ((List GBooked) × Int) → Option (T48) := fun (l, id) =>
  (ledger_at k (l, id)).bind fun o_1 =>
  bif o_1.2 then
   bif decide (0 ≤ o_1.1) then
    bif decide (o_1.1 < Int.ofNat (List.length l)) then
     some ((List.getD l (Int.toNat o_1.1) (0, 0, 0, 0)).2)
    else
     none
   else
    none
  else
   some ((0, 0, 0))
noncomputable def ledger_Used_e := entOf (P := Tryz.prog) (A := [.one (.row 50 kGBooked), .one (.sc (.int .i64))]) (R := [.agg lT48]) Tryz.f28 ledger_Used (fun k => ⟨[ledger_at_e k], [], [hkStr Tryz.prog]⟩) [] Tryz.func28 (by kernel_rfl) (by kernel_rfl) trivial (fun k x => by kernel_rfl) fun _ _ => by kernel_rfl
def ledger_Backlog_L0 : Nat → (Int × (List Int) × Int × Int) → Option ((Int) ⊕ (Int))
  | 0, _ => none
  | k + 1, (sum, t17, t18, t19) =>
  bif decide (t19 < t18) then
  bif decide (0 ≤ t19) then
   bif decide (t19 < Int.ofNat (List.length t17)) then
    ledger_Backlog_L0 k (w64 (mn sum (w64 (4611686018427387904 - List.getD t17 (Int.toNat t19) 0)) + List.getD t17 (Int.toNat t19) 0), t17, t18, w64 (t19 + 1))
   else
    none
  else
   none
 else
  some (Sum.inl sum)
def ledger_Backlog (k : Nat) : ((List GBooked) × Int × Int) → Option (Int) := fun (l, id, k2) =>
  (ledger_class k k2).bind fun o_1 =>
  bif o_1 then
   (ledger_Used k (l, id)).bind fun o_3 =>
    bif decide (0 ≤ k2) then
     bif decide (k2 ≤ Int.ofNat (List.length [o_3.1, o_3.2.1, o_3.2.2])) then
      (ledger_Backlog_L0 k (0, List.drop (Int.toNat k2) [o_3.1, o_3.2.1, o_3.2.2], Int.ofNat (List.length (List.drop (Int.toNat k2) [o_3.1, o_3.2.1, o_3.2.2])), 0)).bind fun o_6 =>
       match o_6 with
       | .inl o_7 =>
        some (o_7)
       | .inr o_7 =>
        some (o_7)
     else
      none
    else
     none
  else
   some (0)
noncomputable def ledger_Backlog_e := entOf (P := Tryz.prog) (A := [.one (.row 50 kGBooked), .one (.sc (.int .i64)), .one (.sc (.int .i64))]) (R := [.one (.sc (.int .i64))]) Tryz.f60 ledger_Backlog (fun k => ⟨[ledger_Used_e k, ledger_class_e k], [], [hkAcut Tryz.prog, hkStr Tryz.prog]⟩) [some ⟨0, [(6, .one (.sc (.int .i64))), (17, .one (.ro [.int .i64])), (18, .one (.sc (.int .i64))), (19, .one (.sc (.int .i64)))], [(6, .one (.sc (.int .i64)))], ledger_Backlog_L0⟩] Tryz.func60 (by kernel_rfl) (by kernel_rfl) ⟨⟨fun _ => rfl, fun k x => by kernel_rfl⟩, trivial⟩ (fun k x => by kernel_rfl) fun _ _ => by kernel_rfl
def check_Volume (k : Nat) : GContact → Option (Int) := fun (c0) =>
  (check_Contact k c0).bind fun o_1 =>
  bif o_1 then
   some (w64 (w64 (c0.2.2.2.2.1 - c0.2.2.2.1) * c0.2.2.2.2.2))
  else
   some (0)
noncomputable def check_Volume_e := entOf (P := Tryz.prog) (A := [.agg lGContact]) (R := [.one (.sc (.int .i64))]) Tryz.f29 check_Volume (fun k => ⟨[check_Contact_e k], [], [hkStr Tryz.prog]⟩) [] Tryz.func29 (by kernel_rfl) (by kernel_rfl) trivial (fun k x => by kernel_rfl) fun _ _ => by kernel_rfl
def ledger_Room (k : Nat) : ((List GBooked) × GContact × Int) → Option (Int) := fun (l, c1, k2) =>
  (ledger_class k k2).bind fun o_1 =>
  bif o_1 then
   (check_Volume k c1).bind fun o_3 =>
    (ledger_Backlog k (l, c1.1, k2)).bind fun o_4 =>
     some (mx (w64 (o_3 - o_4)) 0)
  else
   some (0)
noncomputable def ledger_Room_e := entOf (P := Tryz.prog) (A := [.one (.row 50 kGBooked), .agg lGContact, .one (.sc (.int .i64))]) (R := [.one (.sc (.int .i64))]) Tryz.f21 ledger_Room (fun k => ⟨[check_Volume_e k, ledger_class_e k, ledger_Backlog_e k], [], [hkStr Tryz.prog]⟩) [] Tryz.func21 (by kernel_rfl) (by kernel_rfl) trivial (fun k x => by kernel_rfl) fun _ _ => by kernel_rfl
noncomputable def slices_Clone_api_Booked_api_Booked_c : Code := Tryz.f99.body.getD .skip
def slices_Clone_api_Booked_api_Booked (k : Nat) : (List GBooked) → Option (List GBooked) := fun s =>
  bif decide ((0 + List.length s) * 32 ≤ 140737488355328) then
  some (s)
 else
  none
noncomputable def slices_Clone_api_Booked_api_Booked_X : Cx Tryz.prog [.one (.row 50 kGBooked)] := ⟨fun _ => ⟨[], [], []⟩, Tryz.f99.ntmps, Tryz.f99.results, []⟩
theorem slices_Clone_api_Booked_api_Booked_eq (k : Nat) (x : List GBooked) : slices_Clone_api_Booked_api_Booked k x = runAt slices_Clone_api_Booked_api_Booked_X k (restC slices_Clone_api_Booked_api_Booked_c) (cloneS kGBooked x) := by kernel_rfl
noncomputable def slices_Clone_api_Booked_api_Booked_e (k : Nat) : Ent Tryz.prog := ⟨99, [.one (.row 50 kGBooked)], [.one (.row 50 kGBooked)], slices_Clone_api_Booked_api_Booked k, clone_calls (sT := 26) (bT := 4) (e := 50) (rest := restC slices_Clone_api_Booked_api_Booked_c) (X := slices_Clone_api_Booked_api_Booked_X) (k := k) Tryz.func99 (by kernel_rfl) (by kernel_rfl) (by kernel_rfl) (by kernel_rfl) rfl (by kernel_rfl) (by kernel_rfl) (by kernel_rfl) (by kernel_rfl) (by kernel_rfl) (fun l => slices_Clone_api_Booked_api_Booked_eq k l), fun _ _ => by kernel_rfl⟩
def slices_Equal_api_Booked_api_Booked_L0 : Nat → ((List GBooked) × (List GBooked) × Int × Int) → Option ((Unit) ⊕ (Bool))
  | 0, _ => none
  | k + 1, (s1, s2, t12, t13) =>
  bif decide (t13 < t12) then
  bif decide (0 ≤ t13) then
   bif decide (t13 < Int.ofNat (List.length s1)) then
    bif decide (0 ≤ t13) then
     bif decide (t13 < Int.ofNat (List.length s2)) then
      bif !((List.getD s1 (Int.toNat t13) (0, 0, 0, 0)).1 == (List.getD s2 (Int.toNat t13) (0, 0, 0, 0)).1 && ((List.getD s1 (Int.toNat t13) (0, 0, 0, 0)).2.1 == (List.getD s2 (Int.toNat t13) (0, 0, 0, 0)).2.1 && ((List.getD s1 (Int.toNat t13) (0, 0, 0, 0)).2.2.1 == (List.getD s2 (Int.toNat t13) (0, 0, 0, 0)).2.2.1 && (List.getD s1 (Int.toNat t13) (0, 0, 0, 0)).2.2.2 == (List.getD s2 (Int.toNat t13) (0, 0, 0, 0)).2.2.2))) then
       some (Sum.inr false)
      else
       slices_Equal_api_Booked_api_Booked_L0 k (s1, s2, t12, w64 (t13 + 1))
     else
      none
    else
     none
   else
    none
  else
   none
 else
  some (Sum.inl ())
def slices_Equal_api_Booked_api_Booked (k : Nat) : ((List GBooked) × (List GBooked)) → Option (Bool) := fun (s1, s2) =>
  bif !decide (Int.ofNat (List.length s1) = Int.ofNat (List.length s2)) then
  some (false)
 else
  (slices_Equal_api_Booked_api_Booked_L0 k (s1, s2, Int.ofNat (List.length s1), 0)).bind fun o_2 =>
   match o_2 with
   | .inl o_3 =>
    some (true)
   | .inr o_3 =>
    some (o_3)
noncomputable def slices_Equal_api_Booked_api_Booked_e := entOf (P := Tryz.prog) (A := [.one (.row 50 kGBooked), .one (.row 50 kGBooked)]) (R := [.one (.sc (.bool))]) Tryz.f73 slices_Equal_api_Booked_api_Booked (fun k => ⟨[], [], [hkStr Tryz.prog]⟩) [some ⟨0, [(0, .one (.ro kGBooked)), (1, .one (.ro kGBooked)), (12, .one (.sc (.int .i64))), (13, .one (.sc (.int .i64)))], [], slices_Equal_api_Booked_api_Booked_L0⟩] Tryz.func73 (by kernel_rfl) (by kernel_rfl) ⟨⟨fun _ => rfl, fun k x => by kernel_rfl⟩, trivial⟩ (fun k x => by kernel_rfl) fun _ _ => by kernel_rfl
def ledger_Same (k : Nat) : ((List GBooked) × (List GBooked)) → Option (Bool) := fun (a, b) =>
  (slices_Equal_api_Booked_api_Booked k (a, b)).bind fun o_1 =>
  bif o_1 then
   some (true)
  else
   some (false)
noncomputable def ledger_Same_e := entOf (P := Tryz.prog) (A := [.one (.row 50 kGBooked), .one (.row 50 kGBooked)]) (R := [.one (.sc (.bool))]) Tryz.f32 ledger_Same (fun k => ⟨[slices_Equal_api_Booked_api_Booked_e k], [], [hkStr Tryz.prog]⟩) [] Tryz.func32 (by kernel_rfl) (by kernel_rfl) trivial (fun k x => by kernel_rfl) fun _ _ => by kernel_rfl
def ledger_Right_L1 : Nat → ((List GBooked) × (List GBooked) × Int × Int × T48 × Int) → Option (((List GBooked) × (List GBooked) × Int × Int) ⊕ (Bool))
  | 0, _ => none
  | k + 1, (l, t7, t8, t9, t44, t45) =>
  bif decide (t45 < 3) then
  bif decide (t45 = Int.ofNat 0) then
   bif decide (t44.1 < 0) then
    some (Sum.inr false)
   else
    bif decide (4611686018427387904 < t44.1) then
     some (Sum.inr false)
    else
     ledger_Right_L1 k (l, t7, t8, t9, t44, w64 (t45 + 1))
  else
   bif decide (t45 = Int.ofNat (0 + 1)) then
    bif decide (t44.2.1 < 0) then
     some (Sum.inr false)
    else
     bif decide (4611686018427387904 < t44.2.1) then
      some (Sum.inr false)
     else
      ledger_Right_L1 k (l, t7, t8, t9, t44, w64 (t45 + 1))
   else
    bif decide (t45 = Int.ofNat (0 + 1 + 1)) then
     bif decide (t44.2.2 < 0) then
      some (Sum.inr false)
     else
      bif decide (4611686018427387904 < t44.2.2) then
       some (Sum.inr false)
      else
       ledger_Right_L1 k (l, t7, t8, t9, t44, w64 (t45 + 1))
    else
     none
 else
  some (Sum.inl (l, t7, t8, t9))
def ledger_Right_L0 : Nat → ((List GBooked) × (List GBooked) × Int × Int) → Option ((Unit) ⊕ (Bool))
  | 0, _ => none
  | k + 1, (l, t7, t8, t9) =>
  bif decide (t9 < t8) then
  bif decide (0 ≤ t9) then
   bif decide (t9 < Int.ofNat (List.length t7)) then
    bif decide ((List.getD t7 (Int.toNat t9) (0, 0, 0, 0)).1 < 1) then
     some (Sum.inr false)
    else
     bif decide (1048576 < (List.getD t7 (Int.toNat t9) (0, 0, 0, 0)).1) then
      some (Sum.inr false)
     else
      bif decide (0 < t9) then
       bif decide (0 ≤ w64 (t9 - 1)) then
        bif decide (w64 (t9 - 1) < Int.ofNat (List.length l)) then
         bif decide ((List.getD t7 (Int.toNat t9) (0, 0, 0, 0)).1 ≤ (List.getD l (Int.toNat (w64 (t9 - 1))) (0, 0, 0, 0)).1) then
          some (Sum.inr false)
         else
          bif (List.getD t7 (Int.toNat t9) (0, 0, 0, 0)).2.1 == 0 && ((List.getD t7 (Int.toNat t9) (0, 0, 0, 0)).2.2.1 == 0 && (List.getD t7 (Int.toNat t9) (0, 0, 0, 0)).2.2.2 == 0) then
           some (Sum.inr false)
          else
           (ledger_Right_L1 k (l, t7, t8, t9, (List.getD t7 (Int.toNat t9) (0, 0, 0, 0)).2, 0)).bind fun o_11 =>
            match o_11 with
            | .inl o_12 =>
             ledger_Right_L0 k (o_12.1, o_12.2.1, o_12.2.2.1, w64 (o_12.2.2.2 + 1))
            | .inr o_12 =>
             some (Sum.inr o_12)
        else
         none
       else
        none
      else
       bif (List.getD t7 (Int.toNat t9) (0, 0, 0, 0)).2.1 == 0 && ((List.getD t7 (Int.toNat t9) (0, 0, 0, 0)).2.2.1 == 0 && (List.getD t7 (Int.toNat t9) (0, 0, 0, 0)).2.2.2 == 0) then
        some (Sum.inr false)
       else
        (ledger_Right_L1 k (l, t7, t8, t9, (List.getD t7 (Int.toNat t9) (0, 0, 0, 0)).2, 0)).bind fun o_8 =>
         match o_8 with
         | .inl o_9 =>
          ledger_Right_L0 k (o_9.1, o_9.2.1, o_9.2.2.1, w64 (o_9.2.2.2 + 1))
         | .inr o_9 =>
          some (Sum.inr o_9)
   else
    none
  else
   none
 else
  some (Sum.inl ())
def ledger_Right (k : Nat) : (List GBooked) → Option (Bool) := fun (l) =>
  (ledger_Right_L0 k (l, l, Int.ofNat (List.length l), 0)).bind fun o_1 =>
  match o_1 with
  | .inl o_2 =>
   some (true)
  | .inr o_2 =>
   some (o_2)
noncomputable def ledger_Right_e := entOf (P := Tryz.prog) (A := [.one (.row 50 kGBooked)]) (R := [.one (.sc (.bool))]) Tryz.f37 ledger_Right (fun k => ⟨[], [], [hkIx Tryz.prog, hkStr Tryz.prog]⟩) [some ⟨0, [(0, .one (.ro kGBooked)), (7, .one (.ro kGBooked)), (8, .one (.sc (.int .i64))), (9, .one (.sc (.int .i64)))], [], ledger_Right_L0⟩, some ⟨2, [(0, .one (.ro kGBooked)), (7, .one (.ro kGBooked)), (8, .one (.sc (.int .i64))), (9, .one (.sc (.int .i64))), (44, .agg toT48), (45, .one (.sc (.int .i64)))], [(0, .one (.ro kGBooked)), (7, .one (.ro kGBooked)), (8, .one (.sc (.int .i64))), (9, .one (.sc (.int .i64)))], ledger_Right_L1⟩] Tryz.func37 (by kernel_rfl) (by kernel_rfl) ⟨⟨fun _ => rfl, fun k x => by kernel_rfl⟩, ⟨⟨fun _ => rfl, fun k x => by kernel_rfl⟩, trivial⟩⟩ (fun k x => by kernel_rfl) fun _ _ => by kernel_rfl
def slices_Index_int_int_L0 : Nat → ((List Int) × Int × Int × Int) → Option ((Unit) ⊕ (Int))
  | 0, _ => none
  | k + 1, (s, v, t7, t8) =>
  bif decide (t8 < t7) then
  bif decide (0 ≤ t8) then
   bif decide (t8 < Int.ofNat (List.length s)) then
    bif decide (v = List.getD s (Int.toNat t8) 0) then
     some (Sum.inr t8)
    else
     slices_Index_int_int_L0 k (s, v, t7, w64 (t8 + 1))
   else
    none
  else
   none
 else
  some (Sum.inl ())
def slices_Index_int_int (k : Nat) : ((List Int) × Int) → Option (Int) := fun (s, v) =>
  (slices_Index_int_int_L0 k (s, v, Int.ofNat (List.length s), 0)).bind fun o_1 =>
  match o_1 with
  | .inl o_2 =>
   some (-1)
  | .inr o_2 =>
   some (o_2)
noncomputable def slices_Index_int_int_e := entOf (P := Tryz.prog) (A := [.one (.row 3 [.int .i64]), .one (.sc (.int .i64))]) (R := [.one (.sc (.int .i64))]) Tryz.f178 slices_Index_int_int (fun k => ⟨[], [], [hkStr Tryz.prog]⟩) [some ⟨0, [(0, .one (.ro [.int .i64])), (1, .one (.sc (.int .i64))), (7, .one (.sc (.int .i64))), (8, .one (.sc (.int .i64)))], [], slices_Index_int_int_L0⟩] Tryz.func178 (by kernel_rfl) (by kernel_rfl) ⟨⟨fun _ => rfl, fun k x => by kernel_rfl⟩, trivial⟩ (fun k x => by kernel_rfl) fun _ _ => by kernel_rfl
def slices_Contains_int_int (k : Nat) : ((List Int) × Int) → Option (Bool) := fun (s, v) =>
  (slices_Index_int_int k (s, v)).bind fun o_1 =>
  bif decide (0 ≤ o_1) then
   some (true)
  else
   some (false)
noncomputable def slices_Contains_int_int_e := entOf (P := Tryz.prog) (A := [.one (.row 3 [.int .i64]), .one (.sc (.int .i64))]) (R := [.one (.sc (.bool))]) Tryz.f119 slices_Contains_int_int (fun k => ⟨[slices_Index_int_int_e k], [], [hkStr Tryz.prog]⟩) [] Tryz.func119 (by kernel_rfl) (by kernel_rfl) trivial (fun k x => by kernel_rfl) fun _ _ => by kernel_rfl
def ledger_Drop_1 (k : Nat) : (GBooked × (List Int)) → Option (Bool) := fun (b, t1) =>
  (slices_Contains_int_int k (t1, b.1)).bind fun o_1 =>
  bif o_1 then
   some (true)
  else
   some (false)
noncomputable def ledger_Drop_1_e := entOf (P := Tryz.prog) (A := [.agg lGBooked, .one (.ptr [.row [.int .i64]])]) (R := [.one (.sc (.bool))]) Tryz.f118 ledger_Drop_1 (fun k => ⟨[slices_Contains_int_int_e k], [], [hkStr Tryz.prog]⟩) [] Tryz.func118 (by kernel_rfl) (by kernel_rfl) trivial (fun k x => by kernel_rfl) fun _ _ => by kernel_rfl
def IndexFuncB_dr_L0 : Nat → ((List GBooked) × (List Int) × Int × Int) → Option ((Unit) ⊕ (Int))
  | 0, _ => none
  | k + 1, (s, f, t7, t8) =>
  bif decide (t8 < t7) then
  bif decide (0 ≤ t8) then
   bif decide (t8 < Int.ofNat (List.length s)) then
    (ledger_Drop_1 k (List.getD s (Int.toNat t8) (0, 0, 0, 0), f)).bind fun o_4 =>
     bif o_4 then
      some (Sum.inr t8)
     else
      IndexFuncB_dr_L0 k (s, f, t7, w64 (t8 + 1))
   else
    none
  else
   none
 else
  some (Sum.inl ())
def IndexFuncB_dr (k : Nat) : ((List GBooked) × (List Int)) → Option (Int) := fun (s, f) =>
  (IndexFuncB_dr_L0 k (s, f, Int.ofNat (List.length s), 0)).bind fun o_1 =>
  match o_1 with
  | .inl o_2 =>
   some (-1)
  | .inr o_2 =>
   some (o_2)
noncomputable def IndexFuncB_dr_e := entOf (P := Tryz.prog) (A := [.one (.row 50 kGBooked), .one (.fnc 118 [[.row [.int .i64]]])]) (R := [.one (.sc (.int .i64))]) Tryz.f82 IndexFuncB_dr (fun k => ⟨[ledger_Drop_1_e k], [], [hkStr Tryz.prog]⟩) [some ⟨0, [(0, .one (.ro kGBooked)), (1, .fnp 118 [[.row [.int .i64]]]), (7, .one (.sc (.int .i64))), (8, .one (.sc (.int .i64)))], [], IndexFuncB_dr_L0⟩] Tryz.func82 (by kernel_rfl) (by kernel_rfl) ⟨⟨fun _ => rfl, fun k x => by kernel_rfl⟩, trivial⟩ (fun k x => by kernel_rfl) fun _ _ => by kernel_rfl
noncomputable def DeleteFuncB_dr_c : Code := Tryz.f117.body.getD .skip
def DeleteFuncB_dr_L0 : Nat → ((List GBooked) × (List Int) × Int × Int) → Option (((List GBooked) × Int) ⊕ (List GBooked))
  | 0, _ => none
  | k + 1, (s, del, i, j) =>
  bif decide (j < Int.ofNat (List.length s)) then
  bif decide (0 ≤ j) then
   bif decide (j < Int.ofNat (List.length s)) then
    (ledger_Drop_1 k (List.getD s (Int.toNat j) (0, 0, 0, 0), del)).bind fun o_4 =>
     bif o_4 then
      DeleteFuncB_dr_L0 k (s, del, i, w64 (j + 1))
     else
      bif decide (0 ≤ i) then
       bif decide (i < Int.ofNat (List.length s)) then
        DeleteFuncB_dr_L0 k (List.set s (Int.toNat i) (List.getD s (Int.toNat j) (0, 0, 0, 0)), del, w64 (i + 1), w64 (j + 1))
       else
        none
      else
       none
   else
    none
  else
   none
 else
  some (Sum.inl (s, i))
def DeleteFuncB_dr (k : Nat) : List GBooked → (List Int) → Option (List GBooked) := fun s (del) =>
  (IndexFuncB_dr k (s, del)).bind fun o_1 =>
  bif decide (o_1 = -1) then
   some (s)
  else
   (DeleteFuncB_dr_L0 k (s, del, o_1, w64 (o_1 + 1))).bind fun o_3 =>
    match o_3 with
    | .inl o_4 =>
     bif decide (0 ≤ o_4.2) then
      bif decide (o_4.2 ≤ Int.ofNat (List.length o_4.1)) then
       bif decide (0 ≤ o_4.2) then
        bif decide (o_4.2 ≤ Int.ofNat (List.length (clearL o_4.1 (Int.toNat o_4.2) (0, 0, 0, 0)))) then
         some (List.take (Int.toNat o_4.2) (clearL o_4.1 (Int.toNat o_4.2) (0, 0, 0, 0)))
        else
         none
       else
        none
      else
       none
     else
      none
    | .inr o_4 =>
     some (o_4)
noncomputable def DeleteFuncB_dr_X : Cx Tryz.prog [.one (.row 50 kGBooked)] := ⟨fun k => ⟨[IndexFuncB_dr_e k, ledger_Drop_1_e k], [], [hkStr Tryz.prog]⟩, Tryz.f117.ntmps, Tryz.f117.results, [some ⟨0, [(0, .one (.own 50 kGBooked)), (1, .fnp 118 [[.row [.int .i64]]]), (5, .one (.sc (.int .i64))), (6, .one (.sc (.int .i64)))], [(0, .one (.own 50 kGBooked)), (5, .one (.sc (.int .i64)))], DeleteFuncB_dr_L0⟩]⟩
theorem DeleteFuncB_dr_L0_eq (k : Nat) (x : (List GBooked) × (List Int) × Int × Int) : DeleteFuncB_dr_L0 (k + 1) x = roundF DeleteFuncB_dr_X k ⟨0, [(0, .one (.own 50 kGBooked)), (1, .fnp 118 [[.row [.int .i64]]]), (5, .one (.sc (.int .i64))), (6, .one (.sc (.int .i64)))], [(0, .one (.own 50 kGBooked)), (5, .one (.sc (.int .i64)))], DeleteFuncB_dr_L0⟩ 0 (lp DeleteFuncB_dr_c 0) x := by kernel_rfl
theorem DeleteFuncB_dr_eq (k : Nat) (l : List GBooked) (x : List Int) : DeleteFuncB_dr k l x = runM (T := 50) (s := kGBooked) DeleteFuncB_dr_X k DeleteFuncB_dr_c [.one (.fnc 118 [[.row [.int .i64]]])] l x := by kernel_rfl
noncomputable def DeleteFuncB_dr_m (k : Nat) : EntM Tryz.prog := ⟨117, 50, kGBooked, [.one (.fnc 118 [[.row [.int .i64]]])], false, DeleteFuncB_dr k, mut_of (X := DeleteFuncB_dr_X) (k := k) (c := DeleteFuncB_dr_c) (by kernel_rfl) Tryz.func117 (by kernel_rfl) (by kernel_rfl) (by kernel_rfl) (LoopEqs.all (show LoopEqs DeleteFuncB_dr_X DeleteFuncB_dr_c DeleteFuncB_dr_X.L 0 from ⟨⟨fun _ => rfl, fun k x => DeleteFuncB_dr_L0_eq k x⟩, trivial⟩)) (fun l x => DeleteFuncB_dr_eq k l x), fun _ _ => by kernel_rfl⟩
def ledger_Drop (k : Nat) : ((List GBooked) × (List Int)) → Option (List GBooked) := fun (l, ids) =>
  (slices_Clone_api_Booked_api_Booked k l).bind fun o_1 =>
  (DeleteFuncB_dr k o_1 ids).bind fun o_2 =>
   some (o_2)
noncomputable def ledger_Drop_e := entOf (P := Tryz.prog) (A := [.one (.row 50 kGBooked), .one (.row 3 [.int .i64])]) (R := [.one (.row 50 kGBooked)]) Tryz.f68 ledger_Drop (fun k => ⟨[slices_Clone_api_Booked_api_Booked_e k], [DeleteFuncB_dr_m k], [hkStr Tryz.prog]⟩) [] Tryz.func68 (by kernel_rfl) (by kernel_rfl) trivial (fun k x => by kernel_rfl) fun _ _ => by kernel_rfl
def feluccaref09_Same_L0 : Nat → ((List GBooked) × (List GBooked) × Int) → Option ((Unit) ⊕ (Bool))
  | 0, _ => none
  | k + 1, (a, b, i) =>
  bif decide (i < Int.ofNat (List.length a)) then
  bif decide (0 ≤ i) then
   bif decide (i < Int.ofNat (List.length a)) then
    bif decide (0 ≤ i) then
     bif decide (i < Int.ofNat (List.length b)) then
      bif !((List.getD a (Int.toNat i) (0, 0, 0, 0)).1 == (List.getD b (Int.toNat i) (0, 0, 0, 0)).1 && ((List.getD a (Int.toNat i) (0, 0, 0, 0)).2.1 == (List.getD b (Int.toNat i) (0, 0, 0, 0)).2.1 && ((List.getD a (Int.toNat i) (0, 0, 0, 0)).2.2.1 == (List.getD b (Int.toNat i) (0, 0, 0, 0)).2.2.1 && (List.getD a (Int.toNat i) (0, 0, 0, 0)).2.2.2 == (List.getD b (Int.toNat i) (0, 0, 0, 0)).2.2.2))) then
       some (Sum.inr false)
      else
       feluccaref09_Same_L0 k (a, b, w64 (i + 1))
     else
      none
    else
     none
   else
    none
  else
   none
 else
  some (Sum.inl ())
def feluccaref09_Same (k : Nat) : ((List GBooked) × (List GBooked)) → Option (Bool) := fun (a, b) =>
  bif !decide (Int.ofNat (List.length a) = Int.ofNat (List.length b)) then
  some (false)
 else
  (feluccaref09_Same_L0 k (a, b, 0)).bind fun o_2 =>
   match o_2 with
   | .inl o_3 =>
    some (true)
   | .inr o_3 =>
    some (o_3)
noncomputable def feluccaref09_Same_e := entOf (P := Tryz.prog) (A := [.one (.row 50 kGBooked), .one (.row 50 kGBooked)]) (R := [.one (.sc (.bool))]) Tryz.f34 feluccaref09_Same (fun k => ⟨[], [], [hkStr Tryz.prog]⟩) [some ⟨0, [(0, .one (.ro kGBooked)), (1, .one (.ro kGBooked)), (5, .one (.sc (.int .i64)))], [], feluccaref09_Same_L0⟩] Tryz.func34 (by kernel_rfl) (by kernel_rfl) ⟨⟨fun _ => rfl, fun k x => by kernel_rfl⟩, trivial⟩ (fun k x => by kernel_rfl) fun _ _ => by kernel_rfl
end Go.Proofs.YthlhbnaloefncaaGreatDoor.Ex
namespace Go.Proofs.YthlhbnaloefncaaGreatDoor.Ex
open Go
set_option linter.unusedVariables false
set_option linter.unusedSimpArgs false
abbrev zB : GBooked := (0, 0, 0, 0)
abbrev z3 : T48 := (0, 0, 0)
def In62 (n : Int) : Prop := 0 ≤ n ∧ n ≤ 4611686018427387904
def okU (u : T48) : Prop := In62 u.1 ∧ In62 u.2.1 ∧ In62 u.2.2
def okBk (b : GBooked) : Prop := (1 ≤ b.1 ∧ b.1 ≤ 1048576) ∧ b.2 ≠ z3 ∧ okU b.2
def SortL (l : List GBooked) : Prop := l.Pairwise fun a b => a.1 < b.1
def RightL (l : List GBooked) : Prop := (∀ b ∈ l, okBk b) ∧ SortL l
def usedL (l : List GBooked) (id : Int) : T48 := match l.find? (fun b => decide (b.1 = id)) with
  | some b => b.2
  | none => z3
theorem pair_ne : ∀ {l : List GBooked}, (l.Pairwise fun a b => a.1 ≠ b.1) → ∀ {x b : GBooked}, x ∈ l → b ∈ l → x ≠ b → x.1 ≠ b.1
  | [], _, x, b, hx, _, _ => by cases hx
  | y :: r, h, x, b, hx, hb, hne => by
    have h' := List.pairwise_cons.1 h
    rcases List.mem_cons.1 hx with e1 | hx1 <;> rcases List.mem_cons.1 hb with e2 | hb1
    · exact absurd (e1.trans e2.symm) hne
    · rw [e1]; exact h'.1 b hb1
    · rw [e2]; exact fun e => h'.1 x hx1 e.symm
    · exact pair_ne h'.2 hx1 hb1 hne
theorem nodup_len : ∀ {a b : List Int}, a.Nodup → a ⊆ b → a.length ≤ b.length
  | [], b, _, _ => Nat.zero_le _
  | x :: r, b, hn, hs => by
    have hx : x ∈ b := hs (List.mem_cons_self ..)
    have hn' := List.nodup_cons.1 hn
    have h2 := nodup_len (a := r) (b := b.erase x) hn'.2 (fun y hy => (List.mem_erase_of_ne (fun e => hn'.1 (by rw [← e]; exact hy))).2 (hs (List.mem_cons_of_mem _ hy)))
    rw [List.length_erase_of_mem hx] at h2
    have : 0 < b.length := List.length_pos_of_mem hx
    simp only [List.length_cons]; omega
theorem usedL_mem {l : List GBooked} (h : SortL l) {b : GBooked} (hb : b ∈ l) : usedL l b.1 = b.2 := by
  unfold usedL
  have hp : l.Pairwise fun a b => a.1 ≠ b.1 := h.imp fun h e => by omega
  split
  · rename_i x hx
    have h1 := List.mem_of_find?_eq_some hx
    have h2 := List.find?_some hx
    simp only [decide_eq_true_eq] at h2
    have : x = b := by
      by_cases e : x = b
      · exact e
      · exact absurd h2 (pair_ne hp h1 hb e)
    rw [this]
  · rename_i hx
    have := List.find?_eq_none.1 hx b hb
    simp at this
theorem usedL_none {l : List GBooked} {id : Int} (h : ∀ b ∈ l, b.1 ≠ id) : usedL l id = z3 := by
  unfold usedL
  rw [List.find?_eq_none.2 (fun b hb => by simpa using h b hb)]
theorem usedL_cases (l : List GBooked) (id : Int) : (∃ b ∈ l, b.1 = id ∧ usedL l id = b.2) ∨ ((∀ b ∈ l, b.1 ≠ id) ∧ usedL l id = z3) := by
  unfold usedL
  split
  · rename_i x hx
    have h2 := List.find?_some hx
    simp only [decide_eq_true_eq] at h2
    exact .inl ⟨x, List.mem_of_find?_eq_some hx, h2, rfl⟩
  · rename_i hx
    exact .inr ⟨fun b hb e => by have := List.find?_eq_none.1 hx b hb; simp at this; exact this e, rfl⟩
theorem usedL_ok {l : List GBooked} (h : RightL l) (id : Int) : okU (usedL l id) := by
  rcases usedL_cases l id with ⟨b, hb, _, e⟩ | ⟨_, e⟩
  · rw [e]; exact (h.1 b hb).2.2
  · rw [e]; unfold okU In62; simp only; omega
theorem sort_ext {l m : List GBooked} (hl : SortL l) (hm : SortL m) (h : ∀ b, b ∈ l ↔ b ∈ m) : l = m := by
  have nl : l.Nodup := hl.imp fun h e => by subst e; omega
  have nm : m.Nodup := hm.imp fun h e => by subst e; omega
  have hp : l.Perm m := (List.perm_ext_iff_of_nodup nl nm).2 h
  exact List.Perm.eq_of_pairwise (fun a b _ _ h1 h2 => by omega) hl hm hp
theorem right_ext {l m : List GBooked} (hl : RightL l) (hm : RightL m) (h : ∀ id, usedL l id = usedL m id) : l = m := by
  have key : ∀ {l m : List GBooked}, RightL l → RightL m → (∀ id, usedL l id = usedL m id) → ∀ b ∈ l, b ∈ m := by
    intro l m hl hm h b hb
    have h1 := usedL_mem hl.2 hb
    rw [h] at h1
    rcases usedL_cases m b.1 with ⟨c, hc, e1, e2⟩ | ⟨_, e2⟩
    · have : c = b := Prod.ext e1 (by rw [← e2, h1])
      rw [← this]; exact hc
    · exact absurd (by rw [← h1, e2]) (hl.1 b hb).2.1
  exact sort_ext hl.2 hm.2 fun b => ⟨key hl hm h b, key hm hl (fun id => (h id).symm) b⟩
theorem SortL.filter {l : List GBooked} (h : SortL l) (p : GBooked → Bool) : SortL (l.filter p) := List.Pairwise.filter p h
theorem RightL.filter {l : List GBooked} (h : RightL l) (p : GBooked → Bool) : RightL (l.filter p) := ⟨fun b hb => h.1 b (List.mem_filter.1 hb).1, h.2.filter p⟩
theorem RightL.nil : RightL [] := ⟨fun b hb => (by cases hb), List.Pairwise.nil⟩
def oneL (id : Int) (u : T48) : List GBooked := bif decide (u = z3) then [] else [(id, u)]
def withL (l : List GBooked) (id : Int) (u : T48) : List GBooked := l.filter (fun b => decide (b.1 < id)) ++ (oneL id u ++ l.filter (fun b => decide (id < b.1)))
theorem mem_oneL {id : Int} {u : T48} {b : GBooked} : b ∈ oneL id u ↔ u ≠ z3 ∧ b = (id, u) := by
  unfold oneL
  by_cases h : u = z3
  · rw [decide_eq_true h]; simp [h]
  · rw [decide_eq_false h]; simp [h]
theorem mem_withL {l : List GBooked} {id : Int} {u : T48} {b : GBooked} : b ∈ withL l id u ↔ (b ∈ l ∧ b.1 ≠ id) ∨ (u ≠ z3 ∧ b = (id, u)) := by
  unfold withL
  simp only [List.mem_append, List.mem_filter, decide_eq_true_eq, mem_oneL]
  constructor
  · rintro (⟨h, h1⟩ | h | ⟨h, h1⟩)
    · exact .inl ⟨h, by omega⟩
    · exact .inr h
    · exact .inl ⟨h, by omega⟩
  · rintro (⟨h, h1⟩ | h)
    · rcases Int.lt_or_gt_of_ne h1 with h2 | h2
      · exact .inl ⟨h, h2⟩
      · exact .inr (.inr ⟨h, h2⟩)
    · exact .inr (.inl h)
theorem withL_sort {l : List GBooked} (h : SortL l) (id : Int) (u : T48) : SortL (withL l id u) := by
  unfold withL SortL
  refine List.pairwise_append.2 ⟨h.filter _, List.pairwise_append.2 ⟨?_, h.filter _, ?_⟩, ?_⟩
  · unfold oneL
    cases decide (u = z3)
    · exact List.pairwise_singleton _ _
    · exact List.Pairwise.nil
  · intro a ha b hb
    rw [mem_oneL] at ha
    have := (List.mem_filter.1 hb).2
    simp only [decide_eq_true_eq] at this
    rw [ha.2]
    exact this
  · intro a ha b hb
    have h1 := (List.mem_filter.1 ha).2
    simp only [decide_eq_true_eq] at h1
    rcases List.mem_append.1 hb with hb | hb
    · rw [mem_oneL] at hb
      rw [hb.2]
      exact h1
    · have := (List.mem_filter.1 hb).2
      simp only [decide_eq_true_eq] at this
      omega
theorem withL_right {l : List GBooked} (h : RightL l) {id : Int} {u : T48} (hid : 1 ≤ id ∧ id ≤ 1048576) (hu : okU u) : RightL (withL l id u) := by
  refine ⟨fun b hb => ?_, withL_sort h.2 id u⟩
  rcases mem_withL.1 hb with ⟨hb, _⟩ | ⟨hn, rfl⟩
  · exact h.1 b hb
  · exact ⟨hid, hn, hu⟩
theorem usedL_with {l : List GBooked} (h : SortL l) (id : Int) (u : T48) (j : Int) : usedL (withL l id u) j = if j = id then u else usedL l j := by
  have hs := withL_sort h id u
  split
  · rename_i e
    subst e
    by_cases hu : u = z3
    · refine (usedL_none fun b hb => ?_).trans hu.symm
      rcases mem_withL.1 hb with h5 | h5
      · exact h5.2
      · exact absurd hu h5.1
    · exact usedL_mem hs (b := (j, u)) (mem_withL.2 (.inr ⟨hu, rfl⟩))
  · rename_i hne
    rcases usedL_cases l j with ⟨b, hb, e1, e2⟩ | ⟨h1, e2⟩
    · rw [e2]
      subst e1
      exact usedL_mem hs (mem_withL.2 (.inl ⟨hb, hne⟩))
    · rw [e2]
      exact usedL_none fun b hb => by
        rcases mem_withL.1 hb with ⟨hb, _⟩ | ⟨_, e⟩
        · exact h1 b hb
        · rw [e]; exact fun e => hne e.symm
theorem right_len {l : List GBooked} {cs : List GContact} (h : SortL l) (hc : ∀ b ∈ l, ∃ c ∈ cs, c.1 = b.1) : l.length ≤ cs.length := by
  have n1 : (l.map (·.1)).Nodup := List.pairwise_map.2 (h.imp fun h e => by omega)
  have hs : l.map (·.1) ⊆ cs.map (·.1) := fun x hx => by
    obtain ⟨b, hb, rfl⟩ := List.mem_map.1 hx
    obtain ⟨c, hc, e⟩ := hc b hb
    rw [← e]
    exact List.mem_map.2 ⟨c, hc, rfl⟩
  have := nodup_len n1 hs
  simpa using this
def dropL (l : List GBooked) (ids : List Int) : List GBooked := l.filter fun b => !decide (b.1 ∈ ids)
theorem usedL_drop {l : List GBooked} (h : SortL l) (ids : List Int) (j : Int) : usedL (dropL l ids) j = if j ∈ ids then z3 else usedL l j := by
  split
  · rename_i hj
    exact usedL_none fun b hb e => by
      have := (List.mem_filter.1 hb).2
      rw [e] at this
      simp [hj] at this
  · rename_i hj
    rcases usedL_cases l j with ⟨b, hb, e1, e2⟩ | ⟨h1, e2⟩
    · rw [e2]
      subst e1
      exact usedL_mem (h.filter _) (List.mem_filter.2 ⟨hb, by simpa using hj⟩)
    · rw [e2]
      exact usedL_none fun b hb => h1 b (List.mem_filter.1 hb).1
theorem drop_nil (l : List GBooked) : dropL l [] = l := by
  unfold dropL
  exact List.filter_eq_self.2 fun b _ => by simp
theorem drop_len (l : List GBooked) (ids : List Int) : (dropL l ids).length ≤ l.length := List.length_filter_le _ _
end Go.Proofs.YthlhbnaloefncaaGreatDoor.Ex
namespace Go.Proofs.YthlhbnaloefncaaGreatDoor.Ex
open Go Go.RowKit
set_option linter.unusedVariables false
set_option linter.unusedSimpArgs false
open Tryz
set_option maxHeartbeats 4000000 in
set_option maxRecDepth 100000 in
theorem grow_nil (n : Nat) (w : World) (h : n * 32 ≤ 140737488355328) : Calls Tryz.prog 198 #[.slice none 0 0, .int .i64 n] w fun e w' => ∃ v, e = .returned v ∧ w'.ownsRow w.heap.size 50 4 v 0 [] ∧ Below w.heap.size w w' := by
  by_cases hn : n = 0
  · subst hn
    go_enter Tryz.func198, Tryz.ntmps198
    go_wp2
    go_ret
    exact ⟨_, rfl, World.ownsRow_nil _ _ _ _, Below.refl _ _⟩
  · obtain ⟨i0, hi0, hz0, hzs, hzb⟩ := info_parts (P := Tryz.prog) (e := 50) (z := .agg #[.int .i64 0, .int .i64 0, .int .i64 0, .int .i64 0]) (size := 4) (bytes := 32) (by kernel_rfl)
    obtain ⟨G, hG⟩ : ∃ G, G = grownCap w n 0 50 := ⟨_, rfl⟩
    obtain ⟨ROW, hROW⟩ : ∃ ROW : Array Value, ROW = Builtin.zeroCells (Value.agg #[.int .i64 0, .int .i64 0, .int .i64 0, .int .i64 0]).cells n ++ Builtin.zeroCells (Value.agg #[.int .i64 0, .int .i64 0, .int .i64 0, .int .i64 0]).cells (G - n) := ⟨_, rfl⟩
    have hrz : ∀ ty, (Builtin.append_ #[26, 3] ty #[.slice none 0 0, .int .i64 n]).run Tryz.prog w = .ok (.slice (some ⟨w.heap.size, 0, none⟩) n G) (w.drew.alloc (.cells ROW 50)) := fun ty => by
      have h := Lib.run_append_nil_zeros (P := Tryz.prog) w 26 3 ty 50 i0 _ .i64 .i64 Tryz.underlying26 Tryz.underlying3 hi0 hz0 n (by omega) (by omega) (by omega) (by rw [hzb]; omega)
      rw [hROW, hG]
      exact h
    have hGn : n ≤ G := by rw [hG]; exact grownCap_ge w _ _ _
    have hGm : G ≤ maxLen := by rw [hG]; exact grownCap_le_maxLen w n 0 50 (by unfold maxLen; omega)
    have hRs : ROW.size = G * 4 := by
      rw [hROW]
      simp [Builtin.zeroCells, Value.cells]
      omega
    have hG0 : ¬ (G = 0) := by omega
    have hn1 : (0 : Int) < (n : Int) := by omega
    have hn2 : ¬ ((n : Int) < 0) := by omega
    have hG63 : G ≤ 9223372036854775807 := by unfold maxLen at hGm; omega
    have hw1 : IntKind.i64.wrap (n : Int) = n := by rw [IntKind.wrap_i64]; omega
    clear hROW hG
    go_enter Tryz.func198, Tryz.ntmps198
    go_wp2_with (at_builtin; refine Lib.wpList_append_run _ rfl _ _ 26 3 rfl _ _ rfl rfl _ _ (hrz _) ?_)
    go_ret
    refine ⟨_, rfl, ⟨rfl, .inr ⟨w.heap.size, G, ROW, rfl, Nat.le_refl _, Array.getElem?_push_size, by omega, hGm, hRs, by simp⟩⟩, ((Below.refl _ _).drew).alloc (Nat.le_refl _) _⟩
section
variable {w0 : Org} {N : Nat} {S : AS} {o : Oper} {ρ : Type} {r : ρ} {id0 : Nat}
abbrev kGrw : List SK := [.int .i64, .int .i64, .int .i64, .int .i64]
def growN (S : AS) (o : Oper) : Option Int := match o.op with
  | .call c => match c.callee with
    | .value f => match S.ev f, c.args.toList.map S.ev with
      | .fn g [], [.v (.slice none 0 0), .v (.int .i64 n)] => bif Nat.beq g 198 then some n else none
      | _, _ => none
    | _ => none
  | _ => none
def growRun (S : AS) (id0 : Nat) (o : Oper) (κ : Eff → Option ρ) : Option ρ := match growN S o with
  | some n => bif decide (0 ≤ n) && decide (n * 32 ≤ 140737488355328) then κ ⟨retPV (enPs id0 [.one (.row 50 kGrw)] ([] : List (Tup kGrw))).1, numb id0 (enPs id0 [.one (.row 50 kGrw)] ([] : List (Tup kGrw))).2⟩ else none
  | none => none
theorem grow_ok {κ : Eff → Option ρ} (h : growRun S id0 o κ = some r) : Sound Tryz.prog w0 N S id0 o κ r := by
  unfold growRun at h
  split at h
  · rename_i n hn
    rcases cond_some h with ⟨hc, hk⟩ | ⟨_, h2⟩
    · simp only [Bool.and_eq_true, decide_eq_true_eq] at hc
      clear h
      unfold growN at hn
      split at hn
      · rename_i c ho
        obtain ⟨callee, args, ts⟩ := c
        split at hn
        · rename_i f hf0
          have hf0 : callee = .value f := hf0
          subst hf0
          split at hn
          · rename_i g n' hfv hargs
            have hargs : args.toList.map S.ev = [.v (.slice none 0 0), .v (.int .i64 n')] := hargs
            rcases cond_some hn with ⟨hg, hn⟩ | ⟨_, h2⟩
            · have hg := Nat.eq_of_beq_eq_true hg
              subst hg
              obtain rfl := Option.some.inj hn
              refine ⟨_, hk, ?_⟩
              intro S' m a w hl hf hr K Q hK
              have hr0 := hr.le hl
              have h1 := hr0.ev f
              rw [hfv] at h1
              generalize hz : a.eval f = z at h1
              cases h1 with | fn h1 =>
              cases h1
              have h2 := evs_ok hr0 args.toList
              rw [hargs] at h2
              generalize hzz : args.toList.map a.eval = zs at h2
              cases h2 with | cons h3 h2 =>
              cases h3
              cases h2 with | cons h3 h2 =>
              cases h3
              cases h2
              obtain ⟨n, rfl⟩ : ∃ m : Nat, n' = (m : Int) := ⟨n'.toNat, by omega⟩
              have hcall := grow_nil n w (by omega)
              have hrun : (execOp a.eval o).run Tryz.prog w = .ok (.enter 198 #[.slice none 0 0, .int .i64 n]) w := by
                have he : ∀ (args : Array Value) (w : World), (callFunc 198 args).run Tryz.prog w = .ok (.enter 198 args) w := fun _ _ => by kernel_rfl
                have he := he #[.slice none 0 0, .int .i64 n] w
                have hm : args.map a.eval = #[.slice none 0 0, .int .i64 n] := by
                  apply Array.ext'
                  simpa using hzz
                unfold execOp
                simp [ho, resolve, Deferred.ofValue, invoke, hz, hm]
              unfold Oper.wp
              rw [hrun, Oper.upon_enter]
              refine hcall.mono fun en w' hh => ?_
              obtain ⟨v, rfl, hret, hb⟩ := hh
              have hrets : Rets [.one (.row 50 kGrw)] w w' ([] : List (Tup kGrw)) v := ⟨⟨[v], [v], fun _ => False, rfl, ⟨v, rfl, rfl, [], hret, RowsIs.nil⟩, ⟨fun u hu => (by cases hu), trivial⟩, fun u hu k hk hf => hf, fun k hk => hk.elim⟩⟩
              obtain ⟨m', hg, hh', hv⟩ := Heap.call hr.heap hf hrets hb (Nat.le_of_ble_eq_true rfl)
              exact hK m' w' v hg hh' hv
            · cases h2
          · cases hn
        · cases hn
      · cases hn
    · cases h2
  · cases h
def hkGrow : Hook Tryz.prog := ⟨fun S o => (growN S o).isSome, fun S id0 o κ => growRun S id0 o κ, fun _ h => grow_ok h⟩
end
end Go.Proofs.YthlhbnaloefncaaGreatDoor.Ex
namespace Go.Proofs.YthlhbnaloefncaaGreatDoor.Ex
open Go
set_option linter.unusedVariables false
set_option maxHeartbeats 0
def slices_ConcatB_L1 : Nat → ((List GBooked) × (List (List GBooked)) × Int × Int) → Option ((List GBooked) ⊕ (List GBooked))
  | 0, _ => none
  | k + 1, (newslice, t25, t26, t27) =>
  bif decide (t27 < t26) then
  bif decide (0 ≤ t27) then
   bif decide (t27 < Int.ofNat (List.length t25)) then
    bif decide ((List.length newslice + List.length (List.getD t25 (Int.toNat t27) [])) * 32 ≤ 140737488355328) then
     slices_ConcatB_L1 k (newslice ++ List.getD t25 (Int.toNat t27) [], t25, t26, w64 (t27 + 1))
    else
     none
   else
    none
  else
   none
 else
  some (Sum.inl newslice)
def slices_ConcatB_L0 : Nat → ((List (List GBooked)) × Int × (List (List GBooked)) × Int × Int) → Option (((List (List GBooked)) × Int) ⊕ (List GBooked))
  | 0, _ => none
  | k + 1, (slices, size, t9, t10, t11) =>
  bif decide (t11 < t10) then
  bif decide (0 ≤ t11) then
   bif decide (t11 < Int.ofNat (List.length t9)) then
    bif decide (w64 (size + Int.ofNat (List.length (List.getD t9 (Int.toNat t11) []))) < 0) then
     none
    else
     slices_ConcatB_L0 k (slices, w64 (size + Int.ofNat (List.length (List.getD t9 (Int.toNat t11) []))), t9, t10, w64 (t11 + 1))
   else
    none
  else
   none
 else
  some (Sum.inl (slices, size))
def slices_ConcatB (k : Nat) : (List (List GBooked)) → Option (List GBooked) := fun (slices) =>
  (slices_ConcatB_L0 k (slices, 0, slices, Int.ofNat (List.length slices), 0)).bind fun o_1 =>
  match o_1 with
  | .inl o_2 =>
   bif decide (0 ≤ o_2.2) && decide (o_2.2 * 32 ≤ 140737488355328) then
    (slices_ConcatB_L1 k ([], o_2.1, Int.ofNat (List.length o_2.1), 0)).bind fun o_4 =>
     match o_4 with
     | .inl o_5 =>
      some (o_5)
     | .inr o_5 =>
      some (o_5)
   else
    none
  | .inr o_2 =>
   some (o_2)
noncomputable def slices_ConcatB_e := entOf (P := Tryz.prog) (A := [.one (.row 26 [.row kGBooked])]) (R := [.one (.row 50 kGBooked)]) Tryz.f156 slices_ConcatB (fun k => ⟨[], [], [hkGrow, hkStr Tryz.prog]⟩) [some ⟨0, [(0, .one (.ro [.row kGBooked])), (3, .one (.sc (.int .i64))), (9, .one (.ro [.row kGBooked])), (10, .one (.sc (.int .i64))), (11, .one (.sc (.int .i64)))], [(0, .one (.ro [.row kGBooked])), (3, .one (.sc (.int .i64)))], slices_ConcatB_L0⟩, some ⟨2, [(6, .one (.own 50 kGBooked)), (25, .one (.ro [.row kGBooked])), (26, .one (.sc (.int .i64))), (27, .one (.sc (.int .i64)))], [(6, .one (.own 50 kGBooked))], slices_ConcatB_L1⟩] Tryz.func156 (by kernel_rfl) (by kernel_rfl) ⟨⟨fun _ => rfl, fun k x => by kernel_rfl⟩, ⟨⟨fun _ => rfl, fun k x => by kernel_rfl⟩, trivial⟩⟩ (fun k x => by kernel_rfl) fun _ _ => by kernel_rfl
def ledger_with (k : Nat) : ((List GBooked) × Int × T48) → Option (List GBooked) := fun (l, id, used) =>
  (ledger_at k (l, id)).bind fun o_1 =>
  bif o_1.2 then
   bif decide (0 ≤ o_1.1) then
    bif decide (o_1.1 ≤ Int.ofNat (List.length l)) then
     bif decide (1 ≤ Int.ofNat (List.length (List.drop (Int.toNat o_1.1) l))) then
      bif used.1 == 0 && (used.2.1 == 0 && used.2.2 == 0) then
       bif decide (0 ≤ o_1.1) then
        bif decide (o_1.1 ≤ Int.ofNat (List.length l)) then
         (slices_ConcatB k [List.take (Int.toNat o_1.1) l, List.drop (Int.toNat 1) (List.drop (Int.toNat o_1.1) l)]).bind fun o_9 =>
          some (o_9)
        else
         none
       else
        none
      else
       bif decide (0 ≤ o_1.1) then
        bif decide (o_1.1 ≤ Int.ofNat (List.length l)) then
         (slices_ConcatB k [List.take (Int.toNat o_1.1) l, [(id, used)], List.drop (Int.toNat 1) (List.drop (Int.toNat o_1.1) l)]).bind fun o_9 =>
          some (o_9)
        else
         none
       else
        none
     else
      none
    else
     none
   else
    none
  else
   bif decide (0 ≤ o_1.1) then
    bif decide (o_1.1 ≤ Int.ofNat (List.length l)) then
     bif used.1 == 0 && (used.2.1 == 0 && used.2.2 == 0) then
      bif decide (0 ≤ o_1.1) then
       bif decide (o_1.1 ≤ Int.ofNat (List.length l)) then
        (slices_ConcatB k [List.take (Int.toNat o_1.1) l, List.drop (Int.toNat o_1.1) l]).bind fun o_8 =>
         some (o_8)
       else
        none
      else
       none
     else
      bif decide (0 ≤ o_1.1) then
       bif decide (o_1.1 ≤ Int.ofNat (List.length l)) then
        (slices_ConcatB k [List.take (Int.toNat o_1.1) l, [(id, used)], List.drop (Int.toNat o_1.1) l]).bind fun o_8 =>
         some (o_8)
       else
        none
      else
       none
    else
     none
   else
    none
noncomputable def ledger_with_e := entOf (P := Tryz.prog) (A := [.one (.row 50 kGBooked), .one (.sc (.int .i64)), .agg lT48]) (R := [.one (.row 50 kGBooked)]) Tryz.f100 ledger_with (fun k => ⟨[ledger_at_e k, slices_ConcatB_e k], [], [hkStr Tryz.prog]⟩) [] Tryz.func100 (by kernel_rfl) (by kernel_rfl) trivial (fun k x => by kernel_rfl) fun _ _ => by kernel_rfl
def ledger_Book (k : Nat) : ((List GBooked) × GContact × Int × Int) → Option ((List GBooked) × Bool) := fun (l, c1, k2, size) =>
  (check_Contact k c1).bind fun o_1 =>
  bif o_1 then
   (ledger_class k k2).bind fun o_3 =>
    bif o_3 then
     bif decide (size < 0) then
      (slices_Clone_api_Booked_api_Booked k l).bind fun o_6 =>
       some ((o_6, false))
     else
      (ledger_Room k (l, c1, k2)).bind fun o_6 =>
       bif decide (o_6 < size) then
        (slices_Clone_api_Booked_api_Booked k l).bind fun o_8 =>
         some ((o_8, false))
       else
        (ledger_Used k (l, c1.1)).bind fun o_8 =>
         bif decide (k2 = Int.ofNat 0) then
          bif decide (k2 = Int.ofNat 0) then
           (ledger_with k (l, c1.1, w64 (o_8.1 + size), o_8.2)).bind fun o_11 =>
            some ((o_11, true))
          else
           bif decide (k2 = Int.ofNat (0 + 1)) then
            (ledger_with k (l, c1.1, o_8.1, w64 (o_8.1 + size), o_8.2.2)).bind fun o_12 =>
             some ((o_12, true))
           else
            bif decide (k2 = Int.ofNat (0 + 1 + 1)) then
             (ledger_with k (l, c1.1, o_8.1, o_8.2.1, w64 (o_8.1 + size))).bind fun o_13 =>
              some ((o_13, true))
            else
             none
         else
          bif decide (k2 = Int.ofNat (0 + 1)) then
           bif decide (k2 = Int.ofNat 0) then
            (ledger_with k (l, c1.1, w64 (o_8.2.1 + size), o_8.2)).bind fun o_12 =>
             some ((o_12, true))
           else
            bif decide (k2 = Int.ofNat (0 + 1)) then
             (ledger_with k (l, c1.1, o_8.1, w64 (o_8.2.1 + size), o_8.2.2)).bind fun o_13 =>
              some ((o_13, true))
            else
             bif decide (k2 = Int.ofNat (0 + 1 + 1)) then
              (ledger_with k (l, c1.1, o_8.1, o_8.2.1, w64 (o_8.2.1 + size))).bind fun o_14 =>
               some ((o_14, true))
             else
              none
          else
           bif decide (k2 = Int.ofNat (0 + 1 + 1)) then
            bif decide (k2 = Int.ofNat 0) then
             (ledger_with k (l, c1.1, w64 (o_8.2.2 + size), o_8.2)).bind fun o_13 =>
              some ((o_13, true))
            else
             bif decide (k2 = Int.ofNat (0 + 1)) then
              (ledger_with k (l, c1.1, o_8.1, w64 (o_8.2.2 + size), o_8.2.2)).bind fun o_14 =>
               some ((o_14, true))
             else
              bif decide (k2 = Int.ofNat (0 + 1 + 1)) then
               (ledger_with k (l, c1.1, o_8.1, o_8.2.1, w64 (o_8.2.2 + size))).bind fun o_15 =>
                some ((o_15, true))
              else
               none
           else
            none
    else
     (slices_Clone_api_Booked_api_Booked k l).bind fun o_5 =>
      some ((o_5, false))
  else
   (slices_Clone_api_Booked_api_Booked k l).bind fun o_3 =>
    some ((o_3, false))
noncomputable def ledger_Book_e := entOf (P := Tryz.prog) (A := [.one (.row 50 kGBooked), .agg lGContact, .one (.sc (.int .i64)), .one (.sc (.int .i64))]) (R := [.one (.row 50 kGBooked), .one (.sc (.bool))]) Tryz.f56 ledger_Book (fun k => ⟨[ledger_Room_e k, ledger_Used_e k, ledger_class_e k, check_Contact_e k, slices_Clone_api_Booked_api_Booked_e k, ledger_with_e k], [], [hkStr Tryz.prog]⟩) [] Tryz.func56 (by kernel_rfl) (by kernel_rfl) trivial (fun k x => by kernel_rfl) fun _ _ => by kernel_rfl
def ledger_Release (k : Nat) : ((List GBooked) × Int × Int × Int) → Option ((List GBooked) × Bool) := fun (l, id, k2, size) =>
  (ledger_Used k (l, id)).bind fun o_1 =>
  (ledger_class k k2).bind fun o_2 =>
   bif o_2 then
    bif decide (size < 0) then
     (slices_Clone_api_Booked_api_Booked k l).bind fun o_5 =>
      some ((o_5, false))
    else
     bif decide (k2 = Int.ofNat 0) then
      bif decide (o_1.1 < size) then
       (slices_Clone_api_Booked_api_Booked k l).bind fun o_7 =>
        some ((o_7, false))
      else
       bif decide (k2 = Int.ofNat 0) then
        bif decide (k2 = Int.ofNat 0) then
         (ledger_with k (l, id, w64 (o_1.1 - size), o_1.2)).bind fun o_9 =>
          some ((o_9, true))
        else
         bif decide (k2 = Int.ofNat (0 + 1)) then
          (ledger_with k (l, id, o_1.1, w64 (o_1.1 - size), o_1.2.2)).bind fun o_10 =>
           some ((o_10, true))
         else
          bif decide (k2 = Int.ofNat (0 + 1 + 1)) then
           (ledger_with k (l, id, o_1.1, o_1.2.1, w64 (o_1.1 - size))).bind fun o_11 =>
            some ((o_11, true))
          else
           none
       else
        bif decide (k2 = Int.ofNat (0 + 1)) then
         bif decide (k2 = Int.ofNat 0) then
          (ledger_with k (l, id, w64 (o_1.2.1 - size), o_1.2)).bind fun o_10 =>
           some ((o_10, true))
         else
          bif decide (k2 = Int.ofNat (0 + 1)) then
           (ledger_with k (l, id, o_1.1, w64 (o_1.2.1 - size), o_1.2.2)).bind fun o_11 =>
            some ((o_11, true))
          else
           bif decide (k2 = Int.ofNat (0 + 1 + 1)) then
            (ledger_with k (l, id, o_1.1, o_1.2.1, w64 (o_1.2.1 - size))).bind fun o_12 =>
             some ((o_12, true))
           else
            none
        else
         bif decide (k2 = Int.ofNat (0 + 1 + 1)) then
          bif decide (k2 = Int.ofNat 0) then
           (ledger_with k (l, id, w64 (o_1.2.2 - size), o_1.2)).bind fun o_11 =>
            some ((o_11, true))
          else
           bif decide (k2 = Int.ofNat (0 + 1)) then
            (ledger_with k (l, id, o_1.1, w64 (o_1.2.2 - size), o_1.2.2)).bind fun o_12 =>
             some ((o_12, true))
           else
            bif decide (k2 = Int.ofNat (0 + 1 + 1)) then
             (ledger_with k (l, id, o_1.1, o_1.2.1, w64 (o_1.2.2 - size))).bind fun o_13 =>
              some ((o_13, true))
            else
             none
         else
          none
     else
      bif decide (k2 = Int.ofNat (0 + 1)) then
       bif decide (o_1.2.1 < size) then
        (slices_Clone_api_Booked_api_Booked k l).bind fun o_8 =>
         some ((o_8, false))
       else
        bif decide (k2 = Int.ofNat 0) then
         bif decide (k2 = Int.ofNat 0) then
          (ledger_with k (l, id, w64 (o_1.1 - size), o_1.2)).bind fun o_10 =>
           some ((o_10, true))
         else
          bif decide (k2 = Int.ofNat (0 + 1)) then
           (ledger_with k (l, id, o_1.1, w64 (o_1.1 - size), o_1.2.2)).bind fun o_11 =>
            some ((o_11, true))
          else
           bif decide (k2 = Int.ofNat (0 + 1 + 1)) then
            (ledger_with k (l, id, o_1.1, o_1.2.1, w64 (o_1.1 - size))).bind fun o_12 =>
             some ((o_12, true))
           else
            none
        else
         bif decide (k2 = Int.ofNat (0 + 1)) then
          bif decide (k2 = Int.ofNat 0) then
           (ledger_with k (l, id, w64 (o_1.2.1 - size), o_1.2)).bind fun o_11 =>
            some ((o_11, true))
          else
           bif decide (k2 = Int.ofNat (0 + 1)) then
            (ledger_with k (l, id, o_1.1, w64 (o_1.2.1 - size), o_1.2.2)).bind fun o_12 =>
             some ((o_12, true))
           else
            bif decide (k2 = Int.ofNat (0 + 1 + 1)) then
             (ledger_with k (l, id, o_1.1, o_1.2.1, w64 (o_1.2.1 - size))).bind fun o_13 =>
              some ((o_13, true))
            else
             none
         else
          bif decide (k2 = Int.ofNat (0 + 1 + 1)) then
           bif decide (k2 = Int.ofNat 0) then
            (ledger_with k (l, id, w64 (o_1.2.2 - size), o_1.2)).bind fun o_12 =>
             some ((o_12, true))
           else
            bif decide (k2 = Int.ofNat (0 + 1)) then
             (ledger_with k (l, id, o_1.1, w64 (o_1.2.2 - size), o_1.2.2)).bind fun o_13 =>
              some ((o_13, true))
            else
             bif decide (k2 = Int.ofNat (0 + 1 + 1)) then
              (ledger_with k (l, id, o_1.1, o_1.2.1, w64 (o_1.2.2 - size))).bind fun o_14 =>
               some ((o_14, true))
             else
              none
          else
           none
      else
       bif decide (k2 = Int.ofNat (0 + 1 + 1)) then
        bif decide (o_1.2.2 < size) then
         (slices_Clone_api_Booked_api_Booked k l).bind fun o_9 =>
          some ((o_9, false))
        else
         bif decide (k2 = Int.ofNat 0) then
          bif decide (k2 = Int.ofNat 0) then
           (ledger_with k (l, id, w64 (o_1.1 - size), o_1.2)).bind fun o_11 =>
            some ((o_11, true))
          else
           bif decide (k2 = Int.ofNat (0 + 1)) then
            (ledger_with k (l, id, o_1.1, w64 (o_1.1 - size), o_1.2.2)).bind fun o_12 =>
             some ((o_12, true))
           else
            bif decide (k2 = Int.ofNat (0 + 1 + 1)) then
             (ledger_with k (l, id, o_1.1, o_1.2.1, w64 (o_1.1 - size))).bind fun o_13 =>
              some ((o_13, true))
            else
             none
         else
          bif decide (k2 = Int.ofNat (0 + 1)) then
           bif decide (k2 = Int.ofNat 0) then
            (ledger_with k (l, id, w64 (o_1.2.1 - size), o_1.2)).bind fun o_12 =>
             some ((o_12, true))
           else
            bif decide (k2 = Int.ofNat (0 + 1)) then
             (ledger_with k (l, id, o_1.1, w64 (o_1.2.1 - size), o_1.2.2)).bind fun o_13 =>
              some ((o_13, true))
            else
             bif decide (k2 = Int.ofNat (0 + 1 + 1)) then
              (ledger_with k (l, id, o_1.1, o_1.2.1, w64 (o_1.2.1 - size))).bind fun o_14 =>
               some ((o_14, true))
             else
              none
          else
           bif decide (k2 = Int.ofNat (0 + 1 + 1)) then
            bif decide (k2 = Int.ofNat 0) then
             (ledger_with k (l, id, w64 (o_1.2.2 - size), o_1.2)).bind fun o_13 =>
              some ((o_13, true))
            else
             bif decide (k2 = Int.ofNat (0 + 1)) then
              (ledger_with k (l, id, o_1.1, w64 (o_1.2.2 - size), o_1.2.2)).bind fun o_14 =>
               some ((o_14, true))
             else
              bif decide (k2 = Int.ofNat (0 + 1 + 1)) then
               (ledger_with k (l, id, o_1.1, o_1.2.1, w64 (o_1.2.2 - size))).bind fun o_15 =>
                some ((o_15, true))
              else
               none
           else
            none
       else
        none
   else
    (slices_Clone_api_Booked_api_Booked k l).bind fun o_4 =>
     some ((o_4, false))
noncomputable def ledger_Release_e := entOf (P := Tryz.prog) (A := [.one (.row 50 kGBooked), .one (.sc (.int .i64)), .one (.sc (.int .i64)), .one (.sc (.int .i64))]) (R := [.one (.row 50 kGBooked), .one (.sc (.bool))]) Tryz.f62 ledger_Release (fun k => ⟨[ledger_Used_e k, ledger_class_e k, slices_Clone_api_Booked_api_Booked_e k, ledger_with_e k], [], [hkStr Tryz.prog]⟩) [] Tryz.func62 (by kernel_rfl) (by kernel_rfl) trivial (fun k x => by kernel_rfl) fun _ _ => by kernel_rfl
end Go.Proofs.YthlhbnaloefncaaGreatDoor.Ex
namespace Go.Proofs.YthlhbnaloefncaaGreatDoor.Ex
open Go
set_option linter.unusedVariables false
set_option linter.unusedSimpArgs false
theorem getB {l : List GBooked} {i : Nat} (h : i < l.length) : l.getD i zB = l[i] := by rw [List.getD_eq_getElem?_getD, List.getElem?_eq_getElem h]; rfl
theorem SortL.at {l : List GBooked} (h : SortL l) : ∀ i j, i < j → j < l.length → (l.getD i zB).1 < (l.getD j zB).1 := fun i j hij hj => by
  rw [getB (by omega), getB hj]
  exact List.pairwise_iff_getElem.1 h i j (by omega) hj hij
theorem cmpI_lt (a b : Int) : cmpI a b < 0 ↔ a < b := by unfold cmpI; split <;> (try split) <;> omega
theorem cmpI_0 (a b : Int) : cmpI a b = 0 ↔ a = b := by unfold cmpI; split <;> (try split) <;> omega
theorem at1_spec (k : Nat) (b : GBooked) (id : Int) : ledger_at_1 k (b, id) = some (cmpI b.1 id) := by
  unfold ledger_at_1
  simp only [cmp_Compare_spec, Option.bind_some]
theorem BSL_L0 (l : List GBooked) (t n : Int) (hs : l.length ≤ 1000000000) (hsort : SortL l) : ∀ (m i j k : Nat), j - i ≤ m → m < k → i ≤ j → j ≤ l.length → (∀ q, q < i → (l.getD q zB).1 < t) → (∀ q, j ≤ q → q < l.length → t ≤ (l.getD q zB).1) →
    ∃ r, r ≤ l.length ∧ (∀ q, q < r → (l.getD q zB).1 < t) ∧ (∀ q, r ≤ q → q < l.length → t ≤ (l.getD q zB).1) ∧ BinarySearchFunc_B_L0 k (l, t, (), n, (i : Int), (j : Int)) = some (.inl (l, t, (), n, (r : Int)))
  | m, i, j, k + 1, hm, hk, hij, hj, h1, h2 => by
    by_cases hlt : i < j
    · have hh : (i + j) / 2 < j ∧ i ≤ (i + j) / 2 := by omega
      have hcmp := at1_spec k (l.getD ((i + j) / 2) zB) t
      obtain ⟨m', rfl⟩ : ∃ m', m = m' + 1 := ⟨m - 1, by omega⟩
      simp only [BinarySearchFunc_B_L0]
      rw [decide_eq_true (by omega : (i : Int) < (j : Int)), mid_id (by omega), decide_eq_true (Int.natCast_nonneg ((i + j) / 2)), i_lt, decide_eq_true (by omega : (i + j) / 2 < l.length), Int.toNat_natCast]
      simp only [cond_true, hcmp, Option.bind_some, w64_succ (by omega : (i + j) / 2 < 4611686018427387904)]
      by_cases hc : (l.getD ((i + j) / 2) zB).1 < t
      · rw [decide_eq_true ((cmpI_lt _ _).2 hc)]
        exact BSL_L0 l t n hs hsort m' ((i + j) / 2 + 1) j k (by omega) (by omega) (by omega) hj (fun q hq => by
          rcases Nat.eq_or_lt_of_le (Nat.lt_succ_iff.1 hq) with rfl | hq
          · exact hc
          · have := hsort.at q _ hq (by omega)
            omega) h2
      · rw [decide_eq_false (fun h => hc ((cmpI_lt _ _).1 h))]
        refine BSL_L0 l t n hs hsort m' i ((i + j) / 2) k (by omega) (by omega) (by omega) (by omega) h1 (fun q hq hql => ?_)
        rcases Nat.eq_or_lt_of_le hq with rfl | hq
        · omega
        · have := hsort.at _ q hq hql
          omega
    · refine ⟨i, by omega, h1, fun q hq => h2 q (by omega), ?_⟩
      simp only [BinarySearchFunc_B_L0]
      rw [decide_eq_false (by omega)]
      rfl
theorem at_spec (l : List GBooked) (t : Int) (k : Nat) (hs : l.length ≤ 1000000000) (hsort : SortL l) (hk : l.length < k) :
    ∃ r, r ≤ l.length ∧ (∀ q, q < r → (l.getD q zB).1 < t) ∧ (∀ q, r ≤ q → q < l.length → t ≤ (l.getD q zB).1) ∧ ledger_at k (l, t) = some ((r : Int), decide (r < l.length ∧ (l.getD r zB).1 = t)) := by
  obtain ⟨r, h1, h2, h3, h4⟩ := BSL_L0 l t (Int.ofNat l.length) hs hsort l.length 0 l.length k (by omega) (by omega) (by omega) (Nat.le_refl _) (fun q hq => by omega) (fun q hq hq' => by omega)
  refine ⟨r, h1, h2, h3, ?_⟩
  have h4' : BinarySearchFunc_B_L0 k (l, t, (), Int.ofNat l.length, 0, Int.ofNat l.length) = some (.inl (l, t, (), Int.ofNat l.length, (r : Int))) := h4
  have h5 : BinarySearchFunc_B k (l, t, ()) = some ((r : Int), decide (r < l.length ∧ (l.getD r zB).1 = t)) := by
    unfold BinarySearchFunc_B
    simp only [h4', Option.bind_some]
    have hcmp := at1_spec k (l.getD r zB) t
    rw [i_lt]
    by_cases hr : r < l.length
    · rw [decide_eq_true hr, decide_eq_true (Int.natCast_nonneg r), Int.toNat_natCast]
      simp only [cond_true, hcmp, Option.bind_some, hr, true_and]
      by_cases hc : (l.getD r zB).1 = t
      · rw [decide_eq_true ((cmpI_0 _ _).2 hc), decide_eq_true hc]; rfl
      · rw [decide_eq_false (fun h => hc ((cmpI_0 _ _).1 h)), decide_eq_false hc]; rfl
    · rw [decide_eq_false hr, decide_eq_false (show ¬ (r < l.length ∧ (l.getD r zB).1 = t) from fun h => hr h.1)]
      rfl
  unfold ledger_at
  simp only [h5, Option.bind_some]
  cases decide (r < l.length ∧ (l.getD r zB).1 = t) <;> rfl
theorem cut_at {l : List GBooked} {t : Int} {r : Nat} (hr : r ≤ l.length) (h1 : ∀ q, q < r → (l.getD q zB).1 < t) (h2 : ∀ q, r ≤ q → q < l.length → t ≤ (l.getD q zB).1) : (∀ b ∈ l.take r, b.1 < t) ∧ (∀ b ∈ l.drop r, t ≤ b.1) := by
  constructor
  · intro b hb
    obtain ⟨q, hq, rfl⟩ := List.mem_iff_getElem.1 hb
    have hq' : q < r := by rw [List.length_take] at hq; omega
    have := h1 q hq'
    rw [getB (by omega)] at this
    rw [List.getElem_take]; exact this
  · intro b hb
    obtain ⟨q, hq, rfl⟩ := List.mem_iff_getElem.1 hb
    rw [List.length_drop] at hq
    have := h2 (r + q) (by omega) (by omega)
    rw [getB (by omega)] at this
    rw [List.getElem_drop]; exact this
theorem used_at {l : List GBooked} (hsort : SortL l) {t : Int} {r : Nat} (hr : r ≤ l.length) (h1 : ∀ q, q < r → (l.getD q zB).1 < t) (h2 : ∀ q, r ≤ q → q < l.length → t ≤ (l.getD q zB).1) : usedL l t = if r < l.length ∧ (l.getD r zB).1 = t then (l.getD r zB).2 else z3 := by
  split
  · rename_i h
    have hm : l.getD r zB ∈ l := by rw [getB h.1]; exact List.getElem_mem h.1
    have := usedL_mem hsort hm
    rw [h.2] at this
    exact this
  · rename_i h
    refine usedL_none fun b hb e => ?_
    obtain ⟨q, hq, rfl⟩ := List.mem_iff_getElem.1 hb
    rcases Nat.lt_trichotomy q r with h5 | h5 | h5
    · have := h1 q h5
      rw [getB hq] at this
      omega
    · subst h5
      exact h ⟨hq, by rw [getB hq]; exact e⟩
    · have h6 := hsort.at r q h5 hq
      have h7 := h2 r (Nat.le_refl _) (by omega)
      rw [getB hq] at h6
      omega
theorem Used_spec (l : List GBooked) (t : Int) (k : Nat) (hs : l.length ≤ 1000000000) (hsort : SortL l) (hk : l.length < k) : ledger_Used k (l, t) = some (usedL l t) := by
  obtain ⟨r, h1, h2, h3, h4⟩ := at_spec l t k hs hsort hk
  rw [used_at hsort h1 h2 h3]
  unfold ledger_Used
  simp only [h4, Option.bind_some]
  by_cases h : r < l.length ∧ (l.getD r zB).1 = t
  · rw [decide_eq_true h, if_pos h, decide_eq_true (Int.natCast_nonneg r), i_lt, decide_eq_true h.1, Int.toNat_natCast]
    rfl
  · rw [decide_eq_false h, if_neg h]
    rfl
def sumL (ll : List (List GBooked)) : Nat := (ll.map (·.length)).sum
theorem sumL_drop {ll : List (List GBooked)} {i : Nat} (h : i < ll.length) : sumL (ll.drop i) = (ll.getD i []).length + sumL (ll.drop (i + 1)) := by
  unfold sumL
  rw [getD_drop (d := []) h]
  simp
theorem Concat_L0 (ll : List (List GBooked)) (hl : ll.length ≤ 1000) (hs : sumL ll ≤ 1000000000) : ∀ (n i k s : Nat), ll.length - i = n → n < k → s + sumL (ll.drop i) = sumL ll → slices_ConcatB_L0 k (ll, (s : Int), ll, Int.ofNat ll.length, (i : Int)) = some (.inl (ll, (sumL ll : Int)))
  | 0, i, k + 1, s, hn, hk, he => by
    simp only [slices_ConcatB_L0]
    rw [decide_eq_false (by show ¬ (i : Int) < (ll.length : Int); omega)]
    have : sumL (ll.drop i) = 0 := by rw [List.drop_eq_nil_of_le (by omega)]; rfl
    rw [show s = sumL ll by omega]
    rfl
  | n + 1, i, k + 1, s, hn, hk, he => by
    have hi : i < ll.length := by omega
    have h1 := sumL_drop hi
    simp only [slices_ConcatB_L0]
    rw [i_lt, decide_eq_true hi, decide_eq_true (Int.natCast_nonneg i), Int.toNat_natCast]
    have hw : w64 ((s : Int) + Int.ofNat (ll.getD i []).length) = ((s + (ll.getD i []).length : Nat) : Int) := by
      show w64 ((s : Int) + ((ll.getD i []).length : Int)) = _
      rw [w64_id (by omega) (by omega)]; omega
    rw [hw, decide_eq_false (by omega), w64_succ (by omega)]
    exact Concat_L0 ll hl hs n (i + 1) k _ (by omega) (by omega) (by omega)
theorem Concat_L1 (ll : List (List GBooked)) (hl : ll.length ≤ 1000) (hs : sumL ll ≤ 1000000000) : ∀ (n i k : Nat) (o : List GBooked), ll.length - i = n → n < k → o.length + sumL (ll.drop i) ≤ sumL ll → slices_ConcatB_L1 k (o, ll, Int.ofNat ll.length, (i : Int)) = some (.inl (o ++ (ll.drop i).flatten))
  | 0, i, k + 1, o, hn, hk, he => by
    simp only [slices_ConcatB_L1]
    rw [decide_eq_false (by show ¬ (i : Int) < (ll.length : Int); omega), List.drop_eq_nil_of_le (by omega)]
    simp
  | n + 1, i, k + 1, o, hn, hk, he => by
    have hi : i < ll.length := by omega
    have h1 := sumL_drop hi
    simp only [slices_ConcatB_L1]
    rw [i_lt, decide_eq_true hi, decide_eq_true (Int.natCast_nonneg i), Int.toNat_natCast, decide_eq_true (by omega), w64_succ (by omega)]
    have := Concat_L1 ll hl hs n (i + 1) k (o ++ ll.getD i []) (by omega) (by omega) (by rw [List.length_append]; omega)
    rw [getD_drop (d := []) hi, List.flatten_cons, ← List.append_assoc]
    exact this
theorem Concat_spec (ll : List (List GBooked)) (hl : ll.length ≤ 1000) (hs : sumL ll ≤ 1000000000) (k : Nat) (hk : ll.length < k) : slices_ConcatB k ll = some ll.flatten := by
  have h0 := Concat_L0 ll hl hs ll.length 0 k 0 (by omega) hk (by simp)
  have h1 := Concat_L1 ll hl hs ll.length 0 k [] (by omega) hk (by simp)
  have h0' : slices_ConcatB_L0 k (ll, 0, ll, Int.ofNat ll.length, 0) = some (.inl (ll, (sumL ll : Int))) := h0
  have h1' : slices_ConcatB_L1 k ([], ll, Int.ofNat ll.length, 0) = some (.inl ([] ++ (ll.drop 0).flatten)) := h1
  unfold slices_ConcatB
  simp only [h0', Option.bind_some]
  rw [decide_eq_true (Int.natCast_nonneg _), decide_eq_true (by omega)]
  simp only [Bool.and_self, cond_true, h1', Option.bind_some, List.drop_zero, List.nil_append]
theorem filter_cut {l : List GBooked} {t : Int} {r : Nat} (ha : ∀ b ∈ l.take r, b.1 < t) (hb : ∀ b ∈ l.drop r, t ≤ b.1) : l.filter (fun b => decide (b.1 < t)) = l.take r ∧ l.filter (fun b => decide (t < b.1)) = (l.drop r).filter (fun b => decide (t < b.1)) := by
  have e1 : (l.take r).filter (fun b => decide (b.1 < t)) = l.take r := List.filter_eq_self.2 fun b h => decide_eq_true (ha b h)
  have e2 : (l.drop r).filter (fun b => decide (b.1 < t)) = [] := List.filter_eq_nil_iff.2 fun b h => by have := hb b h; simp; omega
  have e3 : (l.take r).filter (fun b => decide (t < b.1)) = [] := List.filter_eq_nil_iff.2 fun b h => by have := ha b h; simp; omega
  constructor
  · conv => lhs; rw [← List.take_append_drop r l]
    rw [List.filter_append, e1, e2, List.append_nil]
  · conv => lhs; rw [← List.take_append_drop r l]
    rw [List.filter_append, e3, List.nil_append]
theorem nz_spec (u : T48) : (u.1 == 0 && (u.2.1 == 0 && u.2.2 == 0)) = decide (u = z3) := by
  obtain ⟨a, b, c⟩ := u
  rw [Bool.eq_iff_iff]
  simp [z3]
theorem with_spec (l : List GBooked) (t : Int) (u : T48) (k : Nat) (hs : l.length ≤ 400000000) (hsort : SortL l) (hk : l.length + 4 < k) : ledger_with k (l, t, u) = some (withL l t u) := by
  obtain ⟨r, h1, h2, h3, h4⟩ := at_spec l t k (by omega) hsort (by omega)
  obtain ⟨ha, hb⟩ := cut_at h1 h2 h3
  obtain ⟨f1, f2⟩ := filter_cut ha hb
  have e0 : decide ((r : Int) ≤ Int.ofNat l.length) = true := decide_eq_true (by show (r : Int) ≤ (l.length : Int); omega)
  have hlt : (l.take r).length ≤ l.length := by rw [List.length_take]; omega
  have hld : (l.drop r).length ≤ l.length := by rw [List.length_drop]; omega
  unfold ledger_with
  simp only [h4, Option.bind_some, nz_spec, decide_eq_true (Int.natCast_nonneg r), e0, cond_true, Int.toNat_natCast, Int.toNat_one]
  have fin : ∀ d : List GBooked, d.length ≤ l.length → (bif decide (u = z3) then (slices_ConcatB k [l.take r, d]).bind fun o => some o else (slices_ConcatB k [l.take r, [(t, u)], d]).bind fun o => some o) = some (l.take r ++ (oneL t u ++ d)) := fun d hd => by
    unfold oneL
    cases decide (u = z3) with
    | true =>
      simp only [cond_true]
      rw [Concat_spec _ (by simp) (by simp [sumL]; omega) k (by simp; omega)]
      simp
    | false =>
      simp only [cond_false]
      rw [Concat_spec _ (by simp) (by simp [sumL]; omega) k (by simp; omega)]
      simp
  unfold withL
  rw [f1, f2]
  by_cases h : r < l.length ∧ (l.getD r zB).1 = t
  · rw [decide_eq_true h]
    have e1 : decide ((1 : Int) ≤ Int.ofNat (l.drop r).length) = true := decide_eq_true (by show (1 : Int) ≤ ((l.drop r).length : Int); rw [List.length_drop]; omega)
    have e2 : (l.drop r).filter (fun b => decide (t < b.1)) = (l.drop r).drop 1 := by
      rw [getD_drop (d := zB) h.1, List.filter_cons]
      rw [if_neg (by simp only [decide_eq_true_eq]; have := h.2; omega), List.drop_one, List.tail_cons]
      refine List.filter_eq_self.2 fun b hb => decide_eq_true ?_
      obtain ⟨q, hq, rfl⟩ := List.mem_iff_getElem.1 hb
      rw [List.length_drop] at hq
      have := hsort.at r (r + 1 + q) (by omega) (by omega)
      rw [h.2, getB (by omega)] at this
      rw [List.getElem_drop]; exact this
    simp only [cond_true, e1]
    rw [e2]
    exact fin _ (by rw [List.length_drop]; omega)
  · rw [decide_eq_false h]
    have e2 : (l.drop r).filter (fun b => decide (t < b.1)) = l.drop r := by
      refine List.filter_eq_self.2 fun b hb => decide_eq_true ?_
      obtain ⟨q, hq, rfl⟩ := List.mem_iff_getElem.1 hb
      rw [List.length_drop] at hq
      rw [List.getElem_drop]
      have h5 := h3 (r + q) (by omega) (by omega)
      rw [getB (by omega)] at h5
      have h6 : l[r + q].1 ≠ t := fun e => by
        rcases Nat.eq_zero_or_pos q with h7 | h7
        · subst h7
          exact h ⟨by omega, by rw [getB (by omega)]; exact e⟩
        · have h8 := hsort.at r (r + q) (by omega) (by omega)
          have h9 := h3 r (Nat.le_refl _) (by omega)
          rw [getB (i := r + q) (by omega)] at h8
          omega
      omega
    simp only [cond_false]
    rw [e2]
    exact fin _ hld
def satB (a b : Int) : Int := min a (4611686018427387904 - b) + b
def backL (u : T48) (c : Int) : Int := if c = 0 then satB (satB (satB 0 u.1) u.2.1) u.2.2 else if c = 1 then satB (satB 0 u.2.1) u.2.2 else satB 0 u.2.2
def clsB (c : Int) : Bool := decide (0 ≤ c ∧ c < 3)
theorem class_spec (k : Nat) (c : Int) : ledger_class k c = some (clsB c) := by
  unfold ledger_class clsB
  by_cases h : 0 ≤ c <;> by_cases h2 : c < 3 <;> simp [h, h2]
theorem cls_cases {c : Int} (h : clsB c = true) : c = 0 ∨ c = 1 ∨ c = 2 := by
  have := of_decide_eq_true h
  omega
theorem sat_step {a b : Int} (ha : In62 a) (hb : In62 b) : w64 (mn a (w64 (4611686018427387904 - b)) + b) = satB a b ∧ In62 (satB a b) := by
  unfold In62 at *
  rw [show w64 (4611686018427387904 - b) = 4611686018427387904 - b from w64_id (by omega) (by omega)]
  have : mn a (4611686018427387904 - b) = min a (4611686018427387904 - b) := by unfold mn; omega
  rw [this, w64_id (by omega) (by omega)]
  unfold satB
  exact ⟨rfl, by omega⟩
theorem In62.zero : In62 0 := by unfold In62; omega
theorem Backlog_L0 (k : Nat) (hk : 4 ≤ k) {s : Int} (hs : In62 s) (l : List Int) (hl : l.length ≤ 3) (h : ∀ x ∈ l, In62 x) : ledger_Backlog_L0 k (s, l, Int.ofNat l.length, 0) = some (.inl (l.foldl satB s)) := by
  have key : ∀ (n i k : Nat) (s : Int), In62 s → l.length - i = n → n < k → ledger_Backlog_L0 k (s, l, Int.ofNat l.length, (i : Int)) = some (.inl ((l.drop i).foldl satB s))
    := by
    intro n
    induction n with
    | zero =>
      intro i k s hs hn hk
      obtain ⟨k, rfl⟩ : ∃ m, k = m + 1 := ⟨k - 1, by omega⟩
      simp only [ledger_Backlog_L0]
      rw [decide_eq_false (by show ¬ (i : Int) < (l.length : Int); omega), List.drop_eq_nil_of_le (by omega)]
      rfl
    | succ n ih =>
      intro i k s hs hn hk
      obtain ⟨k, rfl⟩ : ∃ m, k = m + 1 := ⟨k - 1, by omega⟩
      have hi : i < l.length := by omega
      have hx : In62 (l.getD i 0) := h _ (by rw [List.getD_eq_getElem?_getD, List.getElem?_eq_getElem hi]; exact List.getElem_mem hi)
      obtain ⟨e1, e2⟩ := sat_step hs hx
      simp only [ledger_Backlog_L0]
      rw [i_lt, decide_eq_true hi, decide_eq_true (Int.natCast_nonneg i), Int.toNat_natCast, e1, w64_succ (by omega), getD_drop (d := 0) hi, List.foldl_cons]
      exact ih (i + 1) k _ e2 (by omega) (by omega)
  have := key l.length 0 k s hs (by omega) (by omega)
  rw [List.drop_zero] at this
  exact this
theorem Backlog_spec (l : List GBooked) (id c : Int) (k : Nat) (hs : l.length ≤ 1000000000) (h : RightL l) (hk : l.length + 4 < k) : ledger_Backlog k (l, id, c) = some (bif clsB c then backL (usedL l id) c else 0) := by
  unfold ledger_Backlog
  simp only [class_spec, Option.bind_some, Used_spec l id k hs h.2 (by omega)]
  cases hc : clsB c with
  | false => rfl
  | true =>
    obtain ⟨u1, u2, u3⟩ := usedL_ok h id
    simp only [cond_true]
    have key : ∀ n : Nat, n ≤ 2 → c = (n : Int) → (ledger_Backlog_L0 k (0, List.drop n [(usedL l id).1, (usedL l id).2.1, (usedL l id).2.2], Int.ofNat (List.drop n [(usedL l id).1, (usedL l id).2.1, (usedL l id).2.2]).length, 0)) = some (.inl ((List.drop n [(usedL l id).1, (usedL l id).2.1, (usedL l id).2.2]).foldl satB 0)) := fun n hn e =>
      Backlog_L0 k (by omega) In62.zero _ (by simp) (fun x hx => by
        have := List.mem_of_mem_drop hx
        simp only [List.mem_cons, List.not_mem_nil, or_false] at this
        rcases this with rfl | rfl | rfl
        · exact u1
        · exact u2
        · exact u3)
    rcases cls_cases hc with rfl | rfl | rfl
    · have := key 0 (by omega) rfl
      simp only [Int.toNat_zero, this, Option.bind_some]
      simp [backL]
    · have := key 1 (by omega) rfl
      simp only [Int.toNat_one, this, Option.bind_some]
      simp [backL]
    · have := key 2 (by omega) rfl
      simp only [show Int.toNat 2 = 2 from rfl, this, Option.bind_some]
      simp [backL]
def volC (c : GContact) : Int := if conB c = true then (c.2.2.2.2.1 - c.2.2.2.1) * c.2.2.2.2.2 else 0
theorem vol_62 (c : GContact) : In62 (volC c) := by
  unfold volC In62
  split
  · rename_i h
    unfold conB spanB at h
    simp only [Bool.and_eq_true, decide_eq_true_eq] at h
    obtain ⟨⟨⟨_, h1⟩, _⟩, h2⟩ := h
    constructor
    · exact Int.mul_nonneg (by omega) (by omega)
    · have := Int.mul_le_mul (a := c.2.2.2.2.1 - c.2.2.2.1) (b := c.2.2.2.2.2) (c := 2147483647) (d := 2147483647) (by omega) (by omega) (by omega) (by omega)
      omega
  · omega
theorem Volume_spec (k : Nat) (c : GContact) (h : rngC c) : check_Volume k c = some (volC c) := by
  have hv := vol_62 c
  unfold check_Volume
  simp only [check_Contact_spec k c h.1 h.2, Option.bind_some]
  unfold volC In62 at *
  cases hc : conB c with
  | false => rfl
  | true =>
    rw [hc] at hv
    simp only [if_true, cond_true] at hv ⊢
    have h1 : w64 (c.2.2.2.2.1 - c.2.2.2.1) = c.2.2.2.2.1 - c.2.2.2.1 := by
      unfold conB spanB at hc
      simp only [Bool.and_eq_true, decide_eq_true_eq] at hc
      rw [w64_id (by omega) (by omega)]
    rw [h1, w64_id (by omega) (by omega)]
theorem back_62 {u : T48} (h : okU u) (c : Int) : In62 (backL u c) := by
  obtain ⟨u1, u2, u3⟩ := h
  unfold backL
  split
  · exact (sat_step (sat_step (sat_step In62.zero u1).2 u2).2 u3).2
  · split
    · exact (sat_step (sat_step In62.zero u2).2 u3).2
    · exact (sat_step In62.zero u3).2
def roomL (u : T48) (c : GContact) (n : Int) : Int := if clsB n = true then max (volC c - backL u n) 0 else 0
theorem Room_spec (l : List GBooked) (c : GContact) (n : Int) (k : Nat) (hs : l.length ≤ 1000000000) (h : RightL l) (hr : rngC c) (hk : l.length + 4 < k) : ledger_Room k (l, c, n) = some (roomL (usedL l c.1) c n) := by
  have hv := vol_62 c
  have hb := back_62 (usedL_ok h c.1) n
  unfold ledger_Room roomL
  simp only [class_spec, Option.bind_some, Volume_spec k c hr, Backlog_spec l c.1 n k hs h hk]
  cases hc : clsB n with
  | false => rfl
  | true =>
    unfold In62 at hv hb
    simp only [cond_true, if_true]
    rw [w64_id (by omega) (by omega)]
    unfold mx
    congr 1
    omega
def addU (u : T48) (c n : Int) : T48 := if c = 0 then (u.1 + n, u.2) else if c = 1 then (u.1, u.2.1 + n, u.2.2) else (u.1, u.2.1, u.2.2 + n)
def getU (u : T48) (c : Int) : Int := if c = 0 then u.1 else if c = 1 then u.2.1 else u.2.2
theorem CloneB_spec (l : List GBooked) (k : Nat) (h : l.length ≤ 1000000000) : slices_Clone_api_Booked_api_Booked k l = some l := by
  unfold slices_Clone_api_Booked_api_Booked
  rw [decide_eq_true (by omega)]
  rfl
def bookB (u : T48) (c : GContact) (n size : Int) : Bool := conB c && (clsB n && (decide (0 ≤ size) && decide (size ≤ roomL u c n)))
theorem add_62 {u : T48} (hu : okU u) {c : GContact} {n size : Int} (h : bookB u c n size = true) : In62 (getU u n + size) := by
  unfold bookB at h
  simp only [Bool.and_eq_true, decide_eq_true_eq] at h
  obtain ⟨_, h1, h2, h3⟩ := h
  have hv := vol_62 c
  unfold roomL at h3
  rw [if_pos h1] at h3
  obtain ⟨u1, u2, u3⟩ := hu
  unfold In62 at *
  rcases cls_cases h1 with rfl | rfl | rfl
  · unfold backL satB at h3; unfold getU; simp only [if_true] at h3 ⊢; omega
  · unfold backL satB at h3; unfold getU; simp only [show ¬ (1 : Int) = 0 by omega, if_false, if_true] at h3 ⊢; omega
  · unfold backL satB at h3; unfold getU; simp only [show ¬ (2 : Int) = 0 by omega, show ¬ (2 : Int) = 1 by omega, if_false] at h3 ⊢; omega
theorem Book_spec (l : List GBooked) (c : GContact) (n size : Int) (k : Nat) (hs : l.length ≤ 400000000) (h : RightL l) (hr : rngC c) (hk : l.length + 4 < k) : ledger_Book k (l, c, n, size) = some (bif bookB (usedL l c.1) c n size then (withL l c.1 (addU (usedL l c.1) n size), true) else (l, false)) := by
  have h62 := @add_62 _ (usedL_ok h c.1) c n size
  unfold ledger_Book
  simp only [class_spec, Option.bind_some, check_Contact_spec k c hr.1 hr.2, CloneB_spec l k (by omega), Room_spec l c n k (by omega) h hr hk, Used_spec l c.1 k (by omega) h.2 (by omega), with_spec l _ _ k hs h.2 (by omega)]
  unfold bookB at *
  cases hc : conB c with
  | false => rfl
  | true =>
    cases hn : clsB n with
    | false => rfl
    | true =>
      rw [hc, hn] at h62
      simp only [cond_true, Bool.true_and] at h62 ⊢
      by_cases h0 : size < 0
      · rw [decide_eq_true h0, decide_eq_false (by omega : ¬ 0 ≤ size)]; rfl
      · rw [decide_eq_false h0, decide_eq_true (by omega : 0 ≤ size)] at *
        by_cases h1 : roomL (usedL l c.1) c n < size
        · rw [decide_eq_true h1, decide_eq_false (by omega : ¬ size ≤ roomL (usedL l c.1) c n)]; rfl
        · rw [decide_eq_false h1, decide_eq_true (by omega : size ≤ roomL (usedL l c.1) c n)] at *
          have h62 := h62 rfl
          unfold In62 getU at h62
          unfold addU
          rcases cls_cases hn with rfl | rfl | rfl
          · simp only [if_true] at h62 ⊢
            rw [w64_id (by omega) (by omega)]; rfl
          · simp only [show ¬ (1 : Int) = 0 by omega, if_false, if_true] at h62 ⊢
            rw [show w64 ((usedL l c.1).2.1 + size) = (usedL l c.1).2.1 + size from w64_id (by omega) (by omega)]; rfl
          · simp only [show ¬ (2 : Int) = 0 by omega, show ¬ (2 : Int) = 1 by omega, if_false] at h62 ⊢
            rw [show w64 ((usedL l c.1).2.2 + size) = (usedL l c.1).2.2 + size from w64_id (by omega) (by omega)]; rfl
def freeB (u : T48) (n size : Int) : Bool := clsB n && (decide (0 ≤ size) && decide (size ≤ getU u n))
theorem Release_spec (l : List GBooked) (id n size : Int) (k : Nat) (hs : l.length ≤ 400000000) (h : RightL l) (hk : l.length + 4 < k) : ledger_Release k (l, id, n, size) = some (bif freeB (usedL l id) n size then (withL l id (addU (usedL l id) n (-size)), true) else (l, false)) := by
  obtain ⟨u1, u2, u3⟩ := usedL_ok h id
  unfold In62 at u1 u2 u3
  unfold ledger_Release
  simp only [class_spec, Option.bind_some, CloneB_spec l k (by omega), Used_spec l id k (by omega) h.2 (by omega), with_spec l _ _ k hs h.2 (by omega)]
  unfold freeB getU addU
  cases hn : clsB n with
  | false => rfl
  | true =>
    simp only [cond_true, Bool.true_and]
    by_cases h0 : size < 0
    · rw [decide_eq_true h0, decide_eq_false (by omega : ¬ 0 ≤ size)]; rfl
    · rw [decide_eq_false h0, decide_eq_true (by omega : 0 ≤ size)]
      rcases cls_cases hn with rfl | rfl | rfl
      · simp only [if_true]
        by_cases h1 : (usedL l id).1 < size
        · rw [decide_eq_true h1, decide_eq_false (by omega : ¬ size ≤ (usedL l id).1)]; rfl
        · rw [decide_eq_false h1, decide_eq_true (by omega : size ≤ (usedL l id).1)]
          rw [show w64 ((usedL l id).1 - size) = (usedL l id).1 + -size from by rw [w64_id (by omega) (by omega)]; omega]; rfl
      · simp only [show ¬ (1 : Int) = 0 by omega, if_false, if_true]
        by_cases h1 : (usedL l id).2.1 < size
        · rw [decide_eq_true h1, decide_eq_false (by omega : ¬ size ≤ (usedL l id).2.1)]; rfl
        · rw [decide_eq_false h1, decide_eq_true (by omega : size ≤ (usedL l id).2.1)]
          rw [show w64 ((usedL l id).2.1 - size) = (usedL l id).2.1 + -size from by rw [w64_id (by omega) (by omega)]; omega]; rfl
      · simp only [show ¬ (2 : Int) = 0 by omega, show ¬ (2 : Int) = 1 by omega, if_false]
        by_cases h1 : (usedL l id).2.2 < size
        · rw [decide_eq_true h1, decide_eq_false (by omega : ¬ size ≤ (usedL l id).2.2)]; rfl
        · rw [decide_eq_false h1, decide_eq_true (by omega : size ≤ (usedL l id).2.2)]
          rw [show w64 ((usedL l id).2.2 - size) = (usedL l id).2.2 + -size from by rw [w64_id (by omega) (by omega)]; omega]; rfl
end Go.Proofs.YthlhbnaloefncaaGreatDoor.Ex
namespace Go.Proofs.YthlhbnaloefncaaGreatDoor.Ex
open Go
set_option linter.unusedVariables false
set_option linter.unusedSimpArgs false
theorem Index_L0 (s : List Int) (v : Int) (hs : s.length ≤ 1000000000) : ∀ (n i k : Nat), s.length - i = n → n < k → slices_Index_int_int_L0 k (s, v, Int.ofNat s.length, (i : Int)) = some (firstA (fun x => decide (v = x)) s i)
  | 0, i, k + 1, hn, hk => by
    rw [firstA_end (by omega)]
    simp only [slices_Index_int_int_L0]
    rw [i_lt, decide_eq_false (by omega)]
    rfl
  | n + 1, i, k + 1, hn, hk => by
    have hi : i < s.length := by omega
    rw [firstA_step 0 hi]
    simp only [slices_Index_int_int_L0]
    rw [i_lt, decide_eq_true hi, decide_eq_true (Int.natCast_nonneg i)]
    simp only [cond_true, Int.toNat_natCast, w64_succ (by omega : i < 4611686018427387904), Index_L0 s v hs n (i + 1) k (by omega) (by omega)]
    cases decide (v = s.getD i 0) <;> rfl
theorem Contains_spec (s : List Int) (v : Int) (k : Nat) (hs : s.length ≤ 1000000000) (hk : s.length < k) : slices_Contains_int_int k (s, v) = some (decide (v ∈ s)) := by
  have h1 : slices_Index_int_int k (s, v) = some (findA (fun x => decide (v = x)) s) := by
    unfold slices_Index_int_int
    have := Index_L0 s v hs s.length 0 k (by omega) hk
    rw [Int.natCast_zero] at this
    simp only [this, Option.bind_some]
    exact findA_first _ _
  unfold slices_Contains_int_int
  simp only [h1, Option.bind_some, findA_any]
  have e : (s.any fun x => decide (v = x)) = decide (v ∈ s) := by
    rw [Bool.eq_iff_iff, List.any_eq_true]
    simp
  rw [e]
  cases decide (v ∈ s) <;> rfl
theorem Drop1_spec (b : GBooked) (ids : List Int) (k : Nat) (hs : ids.length ≤ 1000000000) (hk : ids.length < k) : ledger_Drop_1 k (b, ids) = some (decide (b.1 ∈ ids)) := by
  unfold ledger_Drop_1
  simp only [Contains_spec ids b.1 k hs hk, Option.bind_some]
  cases decide (b.1 ∈ ids) <;> rfl
theorem drI_L0 (s : List GBooked) (f : List Int) (hs : s.length ≤ 1000000000) (hf : f.length ≤ 1000000000) : ∀ (n i k : Nat), s.length - i = n → n + f.length < k → IndexFuncB_dr_L0 k (s, f, Int.ofNat s.length, (i : Int)) = some (firstA (fun b => decide (b.1 ∈ f)) s i)
  | 0, i, k + 1, hn, hk => by
    rw [firstA_end (by omega)]
    simp only [IndexFuncB_dr_L0]
    rw [i_lt, decide_eq_false (by omega)]
    rfl
  | n + 1, i, k + 1, hn, hk => by
    have hi : i < s.length := by omega
    rw [firstA_step zB hi]
    simp only [IndexFuncB_dr_L0]
    rw [i_lt, decide_eq_true hi, decide_eq_true (Int.natCast_nonneg i)]
    simp only [cond_true, Drop1_spec _ f k hf (by omega), Option.bind_some, Int.toNat_natCast, w64_succ (by omega : i < 4611686018427387904), drI_L0 s f hs hf n (i + 1) k (by omega) (by omega)]
    cases decide ((s.getD i zB).1 ∈ f) <;> rfl
def keepB (f : List Int) (b : GBooked) : Bool := !decide (b.1 ∈ f)
theorem drD_L0 (s : List GBooked) (f : List Int) (hs : s.length ≤ 1000000000) (hf : f.length ≤ 1000000000) : ∀ (n i j k : Nat) (t : List GBooked), t.length = s.length → s.length - j = n → n + f.length < k → i ≤ j → j ≤ s.length → t.take i = (s.take j).filter (keepB f) → t.drop j = s.drop j →
    ∃ (t' : List GBooked) (i' : Nat), DeleteFuncB_dr_L0 k (t, f, (i : Int), (j : Int)) = some (.inl (t', (i' : Int))) ∧ t'.length = s.length ∧ i' ≤ s.length ∧ t'.take i' = s.filter (keepB f)
  | 0, i, j, k + 1, t, hl, hn, hk, hij, hj, h1, h2 => by
    refine ⟨t, i, ?_, hl, by omega, ?_⟩
    · simp only [DeleteFuncB_dr_L0]
      rw [i_lt, decide_eq_false (by omega)]
      rfl
    · rw [h1, List.take_of_length_le (by omega)]
  | n + 1, i, j, k + 1, t, hl, hn, hk, hij, hj, h1, h2 => by
    have hjt : j < t.length := by omega
    have hjs : j < s.length := by omega
    have hx : t.getD j zB = s.getD j zB := by
      have h3 := h2
      rw [getD_drop (d := zB) hjt, getD_drop (d := zB) hjs, List.cons.injEq] at h3
      exact h3.1
    have hd : t.drop (j + 1) = s.drop (j + 1) := by
      have h3 := h2
      rw [getD_drop (d := zB) hjt, getD_drop (d := zB) hjs, List.cons.injEq] at h3
      exact h3.2
    have hg := filter_take_succ (p := keepB f) zB hjs
    simp only [DeleteFuncB_dr_L0]
    rw [i_lt, decide_eq_true hjt, decide_eq_true (Int.natCast_nonneg j)]
    simp only [cond_true, Drop1_spec _ f k hf (by omega), Option.bind_some, Int.toNat_natCast, hx, w64_succ (by omega : j < 4611686018427387904), w64_succ (by omega : i < 4611686018427387904)]
    rw [i_lt, decide_eq_true (by omega : i < t.length), decide_eq_true (Int.natCast_nonneg i)]
    generalize hxx : s.getD j zB = x at *
    by_cases h : x.1 ∈ f
    · rw [decide_eq_true h]
      refine drD_L0 s f hs hf n i (j + 1) k t hl (by omega) (by omega) (by omega) (by omega) ?_ hd
      rw [hg, h1]
      simp [keepB, h]
    · rw [decide_eq_false h]
      simp only [cond_true, cond_false, Option.bind_some]
      refine drD_L0 s f hs hf n (i + 1) (j + 1) k (t.set i x) (by simp [hl]) (by omega) (by omega) (by omega) (by omega) ?_ ?_
      · rw [take_set_self (by omega), hg, h1]
        simp [keepB, h]
      · rw [List.drop_set_of_lt (by omega)]
        exact hd
theorem Drop_spec (s : List GBooked) (f : List Int) (k : Nat) (hs : s.length ≤ 1000000000) (hf : f.length ≤ 1000000000) (hk : s.length + f.length < k) : ledger_Drop k (s, f) = some (dropL s f) := by
  have h0 : IndexFuncB_dr k (s, f) = some (findA (fun b => decide (b.1 ∈ f)) s) := by
    unfold IndexFuncB_dr
    have := drI_L0 s f hs hf s.length 0 k (by omega) hk
    rw [Int.natCast_zero] at this
    simp only [this, Option.bind_some]
    exact findA_first _ _
  have h5 : DeleteFuncB_dr k s f = some (s.filter (keepB f)) := by
    unfold DeleteFuncB_dr
    simp only [h0, Option.bind_some]
    rcases findA_cases (fun b : GBooked => decide (b.1 ∈ f)) s with ⟨h1, h2⟩ | ⟨j, h1, hj, hp, hlt⟩
    · rw [h1]
      have : s.filter (keepB f) = s := List.filter_eq_self.2 (fun x hx => by have := h2 x hx; unfold keepB; rw [this]; rfl)
      rw [this]
      rfl
    · rw [h1, decide_eq_false (by omega)]
      simp only [cond_false, w64_succ (by omega : j < 4611686018427387904)]
      have hpre : (s.take j).filter (keepB f) = s.take j := List.filter_eq_self.2 (fun x hx => by
        obtain ⟨q, hq, rfl⟩ := List.mem_iff_getElem.1 hx
        have hq' : q < j := by rw [List.length_take] at hq; omega
        have := hlt q hq'
        simp only [List.getElem_take, keepB]
        rw [this]; rfl)
      obtain ⟨t', i', e1, e2, e3, e4⟩ := drD_L0 s f hs hf (s.length - (j + 1)) j (j + 1) k s rfl rfl (by omega) (by omega) (by omega) (by
        rw [filter_take_succ (p := keepB f) zB hj, hpre, List.getD_eq_getElem?_getD, List.getElem?_eq_getElem hj]
        have hkp : keepB f s[j] = false := by unfold keepB; rw [hp]; rfl
        simp [hkp]) rfl
      rw [e1]
      have hcl : (clearL t' i' zB).length = t'.length := by
        unfold clearL
        rw [List.length_append, List.length_take, List.length_replicate]; omega
      have htk : (clearL t' i' zB).take i' = t'.take i' := by
        unfold clearL
        rw [List.take_append_of_le_length (by rw [List.length_take]; omega), List.take_take, Nat.min_self]
      have hle : decide ((i' : Int) ≤ Int.ofNat t'.length) = true := decide_eq_true (by rw [e2]; exact Int.ofNat_le.2 e3)
      simp only [Option.bind_some, Int.toNat_natCast, decide_eq_true (Int.natCast_nonneg i'), hle, hcl, cond_true, htk, e4]
  unfold ledger_Drop
  simp only [CloneB_spec s k hs, Option.bind_some, h5]
  rfl
theorem eq4 (x y : GBooked) : (x.1 == y.1 && (x.2.1 == y.2.1 && (x.2.2.1 == y.2.2.1 && x.2.2.2 == y.2.2.2))) = decide (x = y) := by
  obtain ⟨a, b, c, d⟩ := x
  obtain ⟨a', b', c', d'⟩ := y
  rw [Bool.eq_iff_iff]
  simp [and_assoc]
theorem EqualB_L0 (a b : List GBooked) (hs : a.length ≤ 1000000000) (hl : a.length = b.length) : ∀ (n i k : Nat), a.length - i = n → n < k → slices_Equal_api_Booked_api_Booked_L0 k (a, b, Int.ofNat a.length, (i : Int)) = some (sameI a b i)
  | 0, i, k + 1, hn, hk => by
    rw [sameI_end (by omega) hl]
    simp only [slices_Equal_api_Booked_api_Booked_L0]
    rw [i_lt, decide_eq_false (by omega)]
    rfl
  | n + 1, i, k + 1, hn, hk => by
    have hi : i < a.length := by omega
    rw [sameI_step zB hi hl]
    simp only [slices_Equal_api_Booked_api_Booked_L0]
    rw [i_lt, decide_eq_true hi, i_lt, decide_eq_true (by omega : i < b.length), decide_eq_true (Int.natCast_nonneg i)]
    simp only [cond_true, Int.toNat_natCast, eq4, w64_succ (by omega : i < 4611686018427387904), EqualB_L0 a b hs hl n (i + 1) k (by omega) (by omega)]
    by_cases h : a.getD i zB = b.getD i zB
    · rw [decide_eq_true h, if_pos h]; rfl
    · rw [decide_eq_false h, if_neg h]; rfl
theorem SameB_spec (a b : List GBooked) (k : Nat) (hs : a.length ≤ 1000000000) (hk : a.length < k) : ledger_Same k (a, b) = some (decide (a = b)) := by
  have h1 : slices_Equal_api_Booked_api_Booked k (a, b) = some (decide (a = b)) := by
    unfold slices_Equal_api_Booked_api_Booked
    by_cases hl : a.length = b.length
    · have e : decide (Int.ofNat a.length = Int.ofNat b.length) = true := decide_eq_true (by rw [hl])
      have := EqualB_L0 a b hs hl a.length 0 k (by omega) hk
      rw [Int.natCast_zero] at this
      simp only [e, Bool.not_true, cond_false, this, Option.bind_some]
      unfold sameI
      rw [List.drop_zero, List.drop_zero]
      by_cases h : a = b
      · rw [if_pos h, decide_eq_true h]
      · rw [if_neg h, decide_eq_false h]
    · have e : decide (Int.ofNat a.length = Int.ofNat b.length) = false := decide_eq_false (fun h => hl (Int.ofNat.inj h))
      rw [decide_eq_false (fun h => hl (by rw [h]) : ¬ a = b)]
      simp only [e]
      rfl
  unfold ledger_Same
  simp only [h1, Option.bind_some]
  exact bif_self _
instance (n : Int) : Decidable (In62 n) := by unfold In62; infer_instance
def u62 (u : T48) : Bool := decide (In62 u.1) && (decide (In62 u.2.1) && decide (In62 u.2.2))
theorem u62_iff (u : T48) : u62 u = true ↔ okU u := by
  unfold u62 okU
  simp
theorem in62_bif {α : Type} (n : Int) (x y : α) : (bif decide (n < 0) then x else bif decide (4611686018427387904 < n) then x else y) = bif decide (In62 n) then y else x := by
  unfold In62
  by_cases h : n < 0
  · rw [decide_eq_true h, decide_eq_false (by omega : ¬ (0 ≤ n ∧ n ≤ 4611686018427387904))]; rfl
  · rw [decide_eq_false h]
    by_cases h2 : 4611686018427387904 < n
    · rw [decide_eq_true h2, decide_eq_false (by omega : ¬ (0 ≤ n ∧ n ≤ 4611686018427387904))]; rfl
    · rw [decide_eq_false h2, decide_eq_true (by omega : (0 ≤ n ∧ n ≤ 4611686018427387904))]; rfl
def okBb (l : List GBooked) (i : Nat) : Bool := decide (1 ≤ (l.getD i zB).1 ∧ (l.getD i zB).1 ≤ 1048576) && ((bif decide (0 < i) then decide ((l.getD (i - 1) zB).1 < (l.getD i zB).1) else true) && (!decide ((l.getD i zB).2 = z3) && u62 (l.getD i zB).2))
def chkG (p : Nat → Bool) : Nat → Nat → Bool
  | 0, _ => true
  | n + 1, i => p i && chkG p n (i + 1)
theorem chkG_all (p : Nat → Bool) : ∀ n i, chkG p n i = true ↔ ∀ q, i ≤ q → q < i + n → p q = true
  | 0, i => by simp only [chkG]; exact ⟨fun _ q h1 h2 => by omega, fun _ => trivial⟩
  | n + 1, i => by
    simp only [chkG, Bool.and_eq_true, chkG_all p n (i + 1)]
    constructor
    · rintro ⟨h1, h2⟩ q hq1 hq2
      rcases Nat.eq_or_lt_of_le hq1 with rfl | h
      · exact h1
      · exact h2 q (by omega) (by omega)
    · intro h
      exact ⟨h i (Nat.le_refl _) (by omega), fun q h1 h2 => h q (by omega) (by omega)⟩
theorem RL_L1 (l t7 : List GBooked) (t8 t9 : Int) (u : T48) (k : Nat) (hk : 4 ≤ k) : ledger_Right_L1 k (l, t7, t8, t9, u, 0) = some (bif u62 u then .inl (l, t7, t8, t9) else .inr false) := by
  obtain ⟨k, rfl⟩ : ∃ m, k = m + 4 := ⟨k - 4, by omega⟩
  have s3 : ledger_Right_L1 (k + 1) (l, t7, t8, t9, u, 3) = some (.inl (l, t7, t8, t9)) := rfl
  have s2 : ledger_Right_L1 (k + 2) (l, t7, t8, t9, u, 2) = bif decide (In62 u.2.2) then some (.inl (l, t7, t8, t9)) else some (.inr false) := by
    rw [← in62_bif, ← s3]; rfl
  have s1 : ledger_Right_L1 (k + 3) (l, t7, t8, t9, u, 1) = bif decide (In62 u.2.1) then (bif decide (In62 u.2.2) then some (.inl (l, t7, t8, t9)) else some (.inr false)) else some (.inr false) := by
    rw [← in62_bif u.2.1, ← s2]; rfl
  have s0 : ledger_Right_L1 (k + 4) (l, t7, t8, t9, u, 0) = bif decide (In62 u.1) then (bif decide (In62 u.2.1) then (bif decide (In62 u.2.2) then some (.inl (l, t7, t8, t9)) else some (.inr false)) else some (.inr false)) else some (.inr false) := by
    rw [← in62_bif u.1, ← s1]; rfl
  rw [s0]
  unfold u62
  cases decide (In62 u.1) <;> cases decide (In62 u.2.1) <;> cases decide (In62 u.2.2) <;> rfl
theorem RL_L0 (l : List GBooked) (hs : l.length ≤ 1000000000) : ∀ (n i k : Nat), l.length - i = n → n + 5 < k → i ≤ l.length → ledger_Right_L0 k (l, l, Int.ofNat l.length, (i : Int)) = some (bif chkG (okBb l) n i then .inl () else .inr false)
  | 0, i, k + 1, hn, hk, hi => by
    simp only [ledger_Right_L0]
    rw [i_lt, decide_eq_false (by omega)]
    rfl
  | n + 1, i, k + 1, hn, hk, _ => by
    have hi : i < l.length := by omega
    have ih := RL_L0 l hs n (i + 1) k (by omega) (by omega) (by omega)
    simp only [ledger_Right_L0]
    rw [i_lt, decide_eq_true hi, decide_eq_true (Int.natCast_nonneg i), Int.toNat_natCast]
    simp only [cond_true, chkG, okBb, nz_spec, RL_L1 l l _ _ _ k (by omega), Option.bind_some]
    generalize hb : l.getD i zB = b
    by_cases g1 : b.1 < 1
    · rw [decide_eq_true g1, decide_eq_false (by omega : ¬ (1 ≤ b.1 ∧ b.1 ≤ 1048576))]; rfl
    rw [decide_eq_false g1]
    by_cases g2 : 1048576 < b.1
    · rw [decide_eq_true g2, decide_eq_false (by omega : ¬ (1 ≤ b.1 ∧ b.1 ≤ 1048576))]; rfl
    rw [decide_eq_false g2, decide_eq_true (by omega : (1 ≤ b.1 ∧ b.1 ≤ 1048576))]
    have fin : (bif decide (b.2 = z3) then some (.inr false) else (match (bif u62 b.2 then (.inl (l, l, Int.ofNat l.length, (i : Int)) : ((List GBooked) × (List GBooked) × Int × Int) ⊕ Bool) else .inr false) with | .inl o => ledger_Right_L0 k (o.1, o.2.1, o.2.2.1, w64 (o.2.2.2 + 1)) | .inr o => some (Sum.inr o))) = some (bif (!decide (b.2 = z3) && u62 b.2) && chkG (okBb l) n (i + 1) then .inl () else .inr false) := by
      cases decide (b.2 = z3) with
      | true => rfl
      | false =>
        cases u62 b.2 with
        | false => rfl
        | true =>
          simp only [cond_true, cond_false, w64_succ (by omega : i < 4611686018427387904), ih]
          rfl
    by_cases h0 : 0 < i
    · have e0 : w64 ((i : Int) - 1) = ((i - 1 : Nat) : Int) := by rw [w64_id (by omega) (by omega)]; omega
      rw [decide_eq_true (by omega : (0 : Int) < (i : Int)), decide_eq_true h0, e0]
      rw [i_lt, decide_eq_true (by omega : i - 1 < l.length), decide_eq_true (Int.natCast_nonneg (i - 1)), Int.toNat_natCast]
      simp only [cond_true, cond_false, Bool.true_and]
      by_cases h1 : b.1 ≤ (l.getD (i - 1) zB).1
      · rw [decide_eq_true h1, decide_eq_false (by omega : ¬ (l.getD (i - 1) zB).1 < b.1)]; rfl
      · rw [decide_eq_false h1, decide_eq_true (by omega : (l.getD (i - 1) zB).1 < b.1)]
        exact fin
    · rw [decide_eq_false (by omega : ¬ (0 : Int) < (i : Int)), decide_eq_false h0]
      exact fin
theorem chkB_iff (l : List GBooked) : chkG (okBb l) l.length 0 = true ↔ RightL l := by
  rw [chkG_all]
  constructor
  · intro h
    have key : ∀ q, q < l.length → (1 ≤ (l.getD q zB).1 ∧ (l.getD q zB).1 ≤ 1048576) ∧ (0 < q → (l.getD (q - 1) zB).1 < (l.getD q zB).1) ∧ (l.getD q zB).2 ≠ z3 ∧ okU (l.getD q zB).2 := fun q hq => by
      have := h q (Nat.zero_le _) (by omega)
      unfold okBb at this
      simp only [Bool.and_eq_true, decide_eq_true_eq, Bool.not_eq_true', decide_eq_false_iff_not, u62_iff] at this
      refine ⟨this.1, fun h0 => ?_, this.2.2.1, this.2.2.2⟩
      have h2 := this.2.1
      rw [decide_eq_true h0] at h2
      exact of_decide_eq_true h2
    refine ⟨fun b hb => ?_, List.pairwise_iff_getElem.2 ?_⟩
    · obtain ⟨q, hq, rfl⟩ := List.mem_iff_getElem.1 hb
      have := key q hq
      rw [getB hq] at this
      exact ⟨this.1, this.2.2⟩
    · have up : ∀ (d i : Nat), i + d + 1 < l.length → (l.getD i zB).1 < (l.getD (i + d + 1) zB).1 := by
        intro d
        induction d with
        | zero => intro i hi; exact (key (i + 0 + 1) hi).2.1 (by omega)
        | succ d ih =>
          intro i hi
          have h1 := ih i (by omega)
          have h2 := (key (i + (d + 1) + 1) hi).2.1 (by omega)
          rw [show i + (d + 1) + 1 - 1 = i + d + 1 by omega] at h2
          omega
      intro i j hi hj hij
      have := up (j - i - 1) i (by omega)
      rw [show i + (j - i - 1) + 1 = j by omega, getB hi, getB hj] at this
      exact this
  · intro h q _ hq
    have hq : q < l.length := by omega
    have hm : l.getD q zB ∈ l := by rw [getB hq]; exact List.getElem_mem hq
    obtain ⟨h1, h2, h3⟩ := h.1 _ hm
    unfold okBb
    simp only [Bool.and_eq_true, decide_eq_true_eq, Bool.not_eq_true', decide_eq_false_iff_not, u62_iff]
    refine ⟨h1, ?_, h2, h3⟩
    by_cases h0 : 0 < q
    · rw [decide_eq_true h0]
      exact decide_eq_true (h.2.at (q - 1) q (by omega) hq)
    · rw [decide_eq_false h0]; rfl
def rightLB (l : List GBooked) : Bool := chkG (okBb l) l.length 0
theorem RightB_spec (l : List GBooked) (k : Nat) (hs : l.length ≤ 1000000000) (hk : l.length + 5 < k) : ledger_Right k l = some (rightLB l) := by
  have := RL_L0 l hs l.length 0 k (by omega) hk (by omega)
  rw [Int.natCast_zero] at this
  unfold ledger_Right rightLB
  simp only [this, Option.bind_some]
  cases chkG (okBb l) l.length 0 <;> rfl
end Go.Proofs.YthlhbnaloefncaaGreatDoor.Ex
namespace Go.Proofs.YthlhbnaloefncaaGreatDoor.Wrd
open Go.Lib
def blk (c : UInt8) : Bool := c == 32 || c == 9 || c == 13
def wgo : List UInt8 → List UInt8 → List (List UInt8)
  | [], cur => if cur = [] then [] else [cur]
  | c :: l, cur => if blk c = true then (if cur = [] then wgo l [] else cur :: wgo l []) else wgo l (cur ++ [c])
def bare (l : List UInt8) : List UInt8 := l.takeWhile fun c => c != 35
def wordsL (l : List UInt8) : List (List UInt8) := wgo (bare l) []
theorem wgo_run : ∀ (m l cur : List UInt8), (∀ c ∈ m, blk c = false) → wgo (m ++ l) cur = wgo l (cur ++ m)
  | [], l, cur, _ => by simp
  | c :: m, l, cur, h => by
    rw [List.cons_append]
    simp only [wgo]
    rw [if_neg (by rw [h c List.mem_cons_self]; simp), wgo_run m l (cur ++ [c]) (fun d hd => h d (List.mem_cons_of_mem _ hd))]
    simp
theorem blk_high {c : UInt8} (h : 128 ≤ c.toNat) : blk c = false := by
  unfold blk
  have h1 : c ≠ 32 := fun e => by subst e; exact absurd h (by decide)
  have h2 : c ≠ 9 := fun e => by subst e; exact absurd h (by decide)
  have h3 : c ≠ 13 := fun e => by subst e; exact absurd h (by decide)
  simp [h1, h2, h3]
theorem get_of (s : ByteArray) (i : Nat) (h : i < s.size) : s.get! i = s[i]'h := by
  simp [ByteArray.get!, getElem!_pos, h]
  rfl
theorem wide (s : ByteArray) (pos : Nat) (h : pos < s.size) (ha : 128 ≤ (s[pos]'h).toNat) :
    pos + (Utf8.decode s pos).2 ≤ s.size ∧ ∀ j, (hj : j < s.size) → pos ≤ j → j < pos + (Utf8.decode s pos).2 → 128 ≤ (s[j]'hj).toNat := by
  have e := decode_at s pos
  obtain ⟨c1, c2, c3, c4⟩ := decodeN_conts (s.size - pos) (s.get! pos).toNat (s.get! (pos + 1)).toNat (s.get! (pos + 2)).toNat (s.get! (pos + 3)).toNat
  have hw := decodeN_le_n' (s.size - pos) (s.get! pos).toNat (s.get! (pos + 1)).toNat (s.get! (pos + 2)).toNat (s.get! (pos + 3)).toNat (by omega)
  rw [← e] at c1 c2 c3 c4 hw
  refine ⟨by omega, fun j hj h1 h2 => ?_⟩
  obtain ⟨d, rfl⟩ : ∃ d, j = pos + d := ⟨j - pos, by omega⟩
  have hd : d = 0 ∨ d = 1 ∨ d = 2 ∨ d = 3 := by omega
  rcases hd with rfl | rfl | rfl | rfl
  · exact ha
  · have := (c1 (by omega)).1; rw [get_of s (pos + 1) hj] at this; omega
  · have := (c2 (by omega)).1; rw [get_of s (pos + 2) hj] at this; omega
  · have := (c3 (by omega)).1; rw [get_of s (pos + 3) hj] at this; omega
def sub (s : ByteArray) (i j : Nat) : List UInt8 := (s.data.toList.drop i).take (j - i)
theorem drop_split (s : ByteArray) (i j : Nat) (h : i ≤ j) : s.data.toList.drop i = sub s i j ++ s.data.toList.drop j := by
  unfold sub
  have h1 := (List.take_append_drop (j - i) (s.data.toList.drop i)).symm
  rw [List.drop_drop, show i + (j - i) = j by omega] at h1
  exact h1
theorem sub_app (s : ByteArray) (i j k : Nat) (h : i ≤ j) (h2 : j ≤ k) : sub s i j ++ sub s j k = sub s i k := by
  have h1 := drop_split s i k (by omega)
  have h3 := drop_split s i j h
  have h4 := drop_split s j k h2
  rw [h4, ← List.append_assoc] at h3
  rw [h1] at h3
  exact (List.append_cancel_right h3).symm
theorem sub_extract (s : ByteArray) (i j : Nat) : (s.extract i j).data.toList = sub s i j := by
  unfold sub
  simp [ByteArray.data_extract]
theorem sub_ne (s : ByteArray) (i j : Nat) (h : i < j) (hj : j ≤ s.size) : sub s i j ≠ [] := by
  intro e
  have := congrArg List.length e
  unfold sub at this
  rw [List.length_take, List.length_drop] at this
  have h2 : s.data.toList.length = s.size := by simp
  simp only [List.length_nil] at this
  omega
theorem sub_mem (s : ByteArray) (i j : Nat) (hj : j ≤ s.size) : ∀ c ∈ sub s i j, ∃ k, ∃ hk : k < s.size, i ≤ k ∧ k < j ∧ c = s[k]'hk := by
  intro c hc
  unfold sub at hc
  obtain ⟨n, hn, rfl⟩ := List.mem_iff_getElem.1 hc
  rw [List.length_take, List.length_drop] at hn
  have h2 : s.data.toList.length = s.size := by simp
  refine ⟨i + n, by omega, by omega, by omega, ?_⟩
  rw [List.getElem_take, List.getElem_drop]
  rfl
def curOf (s : ByteArray) (st : Option Nat) (pos : Nat) : List UInt8 := match st with
  | none => []
  | some a => sub s a pos
def Fnd (s : ByteArray) (outs : List ByteArray) (st : Option Nat) (pos : Nat) : Prop :=
  (outs.map fun x => x.data.toList) ++ wgo (s.data.toList.drop pos) (curOf s st pos) = wgo s.data.toList []
theorem fnd_start (s : ByteArray) : Fnd s [] none 0 := by simp [Fnd, curOf]
theorem fnd_end {s : ByteArray} {outs : List ByteArray} {st : Option Nat} (h : Fnd s outs st s.size) : (outs.map fun x => x.data.toList) ++ (if curOf s st s.size = [] then [] else [curOf s st s.size]) = wgo s.data.toList [] := by
  unfold Fnd at h
  rw [List.drop_of_length_le (by simp)] at h
  exact h
theorem fnd_word {s : ByteArray} {outs : List ByteArray} {st : Option Nat} {pos K : Nat} (h : Fnd s outs st pos) (hn : ∀ c ∈ sub s pos (pos + K), blk c = false) (hst : ∀ a, st = some a → a ≤ pos) :
    Fnd s outs (some (st.getD pos)) (pos + K) := by
  unfold Fnd at h ⊢
  rw [drop_split s pos (pos + K) (by omega), wgo_run _ _ _ hn] at h
  rw [← h]
  congr 2
  unfold curOf
  cases st with
  | none => simp
  | some a => simp only [Option.getD_some]; exact (sub_app s a pos (pos + K) (hst a rfl) (by omega)).symm
theorem fnd_cut {s : ByteArray} {outs : List ByteArray} {a pos : Nat} (h : Fnd s outs (some a) pos) (hp : pos < s.size) (ha : a < pos) (hb : blk (s[pos]'hp) = true) :
    Fnd s (outs ++ [s.extract a pos]) none (pos + 1) := by
  unfold Fnd at h ⊢
  rw [List.drop_eq_getElem_cons (by simpa using hp)] at h
  simp only [wgo] at h
  have hb' : blk (s.data.toList[pos]'(by simpa using hp)) = true := hb
  rw [if_pos hb', if_neg (show ¬ curOf s (some a) pos = [] from sub_ne s a pos ha (by omega))] at h
  rw [← h, List.map_append, List.map_cons, List.map_nil, sub_extract]
  simp [curOf]
theorem fnd_skip {s : ByteArray} {outs : List ByteArray} {pos : Nat} (h : Fnd s outs none pos) (hp : pos < s.size) (hb : blk (s[pos]'hp) = true) :
    Fnd s outs none (pos + 1) := by
  unfold Fnd at h ⊢
  rw [List.drop_eq_getElem_cons (by simpa using hp)] at h
  simp only [wgo] at h
  have hb' : blk (s.data.toList[pos]'(by simpa using hp)) = true := hb
  rw [if_pos hb', if_pos (show curOf s none pos = [] from rfl)] at h
  exact h
def splitF : List UInt8 → List (List UInt8)
  | [] => [[]]
  | c :: l => if c = 10 then [] :: splitF l else match splitF l with
    | [] => [[c]]
    | x :: r => (c :: x) :: r
def trimF (l : List UInt8) : List UInt8 := if l.getLast? = some 10 then l.dropLast else l
def linesL (l : List UInt8) : List (List UInt8) := if l = [] then [] else splitF (trimF l)
theorem splitF_ne (l : List UInt8) : splitF l ≠ [] := by
  cases l with
  | nil => simp [splitF]
  | cons c l => unfold splitF; split <;> (try split) <;> simp
theorem splitF_cases : ∀ (l : List UInt8), (indexByte l 10 = -1 ∧ splitF l = [l]) ∨ ∃ n : Nat, indexByte l 10 = n ∧ splitF l = l.take n :: splitF (l.drop (n + 1))
  | [] => .inl ⟨rfl, rfl⟩
  | c :: l => by
    by_cases hc : c = 10
    · subst hc
      exact .inr ⟨0, by simp [indexByte], by simp [splitF]⟩
    · rcases splitF_cases l with ⟨h1, h2⟩ | ⟨n, h1, h2⟩
      · exact .inl ⟨by simp [indexByte, hc, h1], by simp [splitF, hc, h2]⟩
      · refine .inr ⟨n + 1, ?_, by simp [splitF, hc, h2]⟩
        have h3 : ¬ ((n : Int) = -1) := by omega
        simp [indexByte, hc, h1, h3]
theorem splitK_F : ∀ (k : Nat) (l : List UInt8), count l [10] = k → splitK [10] 0 k l = splitF l
  | 0, l, hk => by
    rcases splitF_cases l with ⟨_, h2⟩ | ⟨n, h1, _⟩
    · rw [h2]; rfl
    · have := count_hit (s := l) (sub := [10]) (i := n) (by simp) (by rw [index_one]; exact h1)
      omega
  | k + 1, l, hk => by
    rcases splitF_cases l with ⟨h1, h2⟩ | ⟨n, h1, h2⟩
    · have := count_miss (s := l) (sub := [10]) (by rw [index_one]; exact h1)
      omega
    · have hc := count_hit (s := l) (sub := [10]) (i := n) (by simp) (by rw [index_one]; exact h1)
      have ih := splitK_F k (l.drop (n + 1)) (by simp only [List.length_singleton] at hc; omega)
      unfold splitK
      rw [index_one, h1, if_neg (by simp), h2]
      simp only [List.length_singleton, Nat.add_zero, Int.toNat_natCast]
      rw [ih]
theorem splitB_F (T : ByteArray) : (splitB ⟨#[10]⟩ 0 (countB T ⟨#[10]⟩) T).map (fun x => x.data.toList) = splitF T.data.toList := by
  rw [splitB_data]
  exact splitK_F _ _ rfl
theorem suffix_ten (m : List UInt8) (c : UInt8) : ([10] : List UInt8).isSuffixOf (m ++ [c]) = true ↔ c = 10 := by
  rw [List.isSuffixOf_iff_suffix]
  constructor
  · rintro ⟨k, hk⟩
    have := congrArg List.getLast? hk
    simp at this
    exact this.symm
  · rintro rfl
    exact ⟨m, rfl⟩
theorem trimF_eq (l : List UInt8) : trimSuffix l [10] = trimF l := by
  unfold trimSuffix trimF hasSuffix
  rcases List.eq_nil_or_concat l with rfl | ⟨m, c, rfl⟩
  · rfl
  · rw [List.concat_eq_append]
    by_cases hc : c = 10
    · rw [if_pos ((suffix_ten m c).2 hc)]; simp [hc]
    · rw [if_neg (fun h => hc ((suffix_ten m c).1 h))]; simp [hc]
end Go.Proofs.YthlhbnaloefncaaGreatDoor.Wrd
