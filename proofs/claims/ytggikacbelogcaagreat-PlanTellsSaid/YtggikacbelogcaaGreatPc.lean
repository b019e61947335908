import Derived.Test.YtggikacbelogcaaGreatF1
import Derived.Test.YtggikacbelogcaaGreatExOp
namespace Go.Proofs.YtggikacbelogcaaGreat.Ex
open Go
set_option linter.unusedVariables false
set_option linter.unusedSimpArgs false
theorem w64_id {n : Int} (h0 : -9223372036854775808 ≤ n) (h1 : n ≤ 9223372036854775807) : w64 n = n := by
  unfold w64 IntKind.wrap
  simp [IntKind.signed, IntKind.bits, Int.bmod]
  omega
theorem w64_wf (n : Int) : -9223372036854775808 ≤ w64 n ∧ w64 n ≤ 9223372036854775807 := by
  unfold w64 IntKind.wrap
  simp [IntKind.signed, IntKind.bits, Int.bmod]
  omega
theorem num_In_spec (k : Nat) (n lo hi : Int) : num_In k (n, lo, hi) = some (decide (lo ≤ n ∧ n ≤ hi)) := by
  unfold num_In
  by_cases h1 : lo ≤ n <;> by_cases h2 : n ≤ hi <;> simp [h1, h2]
def nodeB (n : Int) : Bool := decide (1 ≤ n ∧ n ≤ 255)
theorem check_Node_spec (k : Nat) (n : Int) : check_Node k n = some (nodeB n) := by
  unfold check_Node
  rw [num_In_spec]
  unfold nodeB
  by_cases h : (1 ≤ n ∧ n ≤ 255) <;> simp [h]
def wayB (a b : Int) : Bool := nodeB a && nodeB b && !decide (a = b)
theorem check_way_spec (k : Nat) (a b : Int) : check_way k (a, b) = some (wayB a b) := by
  unfold check_way wayB
  simp only [check_Node_spec, Option.bind_some]
  cases nodeB a <;> cases nodeB b <;> by_cases h : a = b <;> simp [h]
def spanB (s e : Int) : Bool := decide (0 ≤ s ∧ s < e ∧ e ≤ 2147483647)
theorem check_span_spec (k : Nat) (s e : Int) (he : -9223372036854775808 ≤ e) (he' : e ≤ 9223372036854775807) (hs : -9223372036854775808 ≤ s) (hs' : s ≤ 9223372036854775807) : check_span k (s, e) = some (spanB s e) := by
  unfold check_span spanB
  simp only [num_In_spec, Option.bind_some]
  by_cases h0 : e = -9223372036854775808
  · subst h0
    have : w64 (-9223372036854775808 - 1) = 9223372036854775807 := by decide
    rw [this]
    by_cases h1 : 0 ≤ s <;> simp [h1, hs'] <;> omega
  · rw [w64_id (by omega) (by omega)]
    by_cases h1 : 0 ≤ s <;> by_cases h2 : s ≤ e - 1 <;> by_cases h3 : 1 ≤ e <;> by_cases h4 : e ≤ 2147483647 <;> simp [h1, h2, h3, h4] <;> omega
/-- A contact's numbers. -/
def cok (c : T33) : Prop := okvT kT33 c
def conB (c : T33) : Bool := wayB c.2.1 c.2.2.1 && spanB c.2.2.2.1 c.2.2.2.2.1 && decide (1 ≤ c.1 ∧ c.1 ≤ 1048576) && decide (1 ≤ c.2.2.2.2.2 ∧ c.2.2.2.2.2 ≤ 2147483647)
theorem check_Contact_spec (k : Nat) (c : T33) (h1 : -9223372036854775808 ≤ c.2.2.2.1 ∧ c.2.2.2.1 ≤ 9223372036854775807) (h2 : -9223372036854775808 ≤ c.2.2.2.2.1 ∧ c.2.2.2.2.1 ≤ 9223372036854775807) : check_Contact k c = some (conB c) := by
  unfold check_Contact conB
  simp only [check_way_spec, check_span_spec _ _ _ h2.1 h2.2 h1.1 h1.2, num_In_spec, Option.bind_some]
  cases wayB c.2.1 c.2.2.1 <;> cases spanB c.2.2.2.1 c.2.2.2.2.1 <;> by_cases h3 : (1 ≤ c.1 ∧ c.1 ≤ 1048576) <;> by_cases h4 : (1 ≤ c.2.2.2.2.2 ∧ c.2.2.2.2.2 ≤ 2147483647) <;> simp [h3, h4]
def cmpI (a b : Int) : Int := if a < b then -1 else if b < a then 1 else 0
theorem cmp_Compare_spec (k : Nat) (a b : Int) : cmp_Compare_int k (a, b) = some (cmpI a b) := by
  unfold cmp_Compare_int cmpI cmp_isNaN_int
  by_cases h1 : a < b <;> by_cases h2 : b < a <;> simp [h1, h2]
theorem cmp_Or4_spec (k : Nat) (a b c d : Int) : cmp_Or_int (k + 5) [a, b, c, d] = some (if a ≠ 0 then a else if b ≠ 0 then b else if c ≠ 0 then c else d) := by
  unfold cmp_Or_int
  have e1 : w64 (0 + 1) = 1 := by decide
  have e2 : w64 (1 + 1) = 2 := by decide
  have e3 : w64 (2 + 1) = 3 := by decide
  have e4 : w64 (3 + 1) = 4 := by decide
  simp only [cmp_Or_int_L0, List.length_cons, List.length_nil, e1, e2, e3, e4]
  by_cases h1 : a = 0 <;> by_cases h2 : b = 0 <;> by_cases h3 : c = 0 <;> by_cases h4 : d = 0 <;> simp [h1, h2, h3, h4, e1, e2, e3, e4]
def cmpC (a b : T33) : Int := if cmpI a.2.1 b.2.1 ≠ 0 then cmpI a.2.1 b.2.1 else if cmpI a.2.2.1 b.2.2.1 ≠ 0 then cmpI a.2.2.1 b.2.2.1 else if cmpI a.2.2.2.1 b.2.2.2.1 ≠ 0 then cmpI a.2.2.2.1 b.2.2.2.1 else cmpI a.1 b.1
theorem contacts_Compare_spec (k : Nat) (a b : T33) : contacts_Compare (k + 5) (a, b) = some (cmpC a b) := by
  unfold contacts_Compare cmpC
  simp only [cmp_Compare_spec, Option.bind_some, cmp_Or4_spec]
def ovB (a b : T33) : Bool := decide (a.2.1 = b.2.1) && decide (a.2.2.1 = b.2.2.1) && decide (max a.2.2.2.1 b.2.2.2.1 < min a.2.2.2.2.1 b.2.2.2.2.1)
theorem contacts_overlap_spec (k : Nat) (a b : T33) : contacts_overlap k (a, b) = some (ovB a b) := by
  unfold contacts_overlap ovB
  have hx : ∀ x y : Int, mx x y = max x y := by intro x y; unfold mx; omega
  have hn : ∀ x y : Int, mn x y = min x y := by intro x y; unfold mn; omega
  simp only [hx, hn]
  by_cases h1 : a.2.1 = b.2.1 <;> by_cases h2 : a.2.2.1 = b.2.2.1 <;> by_cases h3 : max a.2.2.2.1 b.2.2.2.1 < min a.2.2.2.2.1 b.2.2.2.2.1 <;> simp [h1, h2, h3]
theorem contacts_of_spec (k : Nat) (id : Int) : contacts_of k id = some id := by unfold contacts_of; rfl
theorem of1_spec (k : Nat) (c : T33) (id : Int) : contacts_of_1 k (c, id) = some (decide (c.1 = id)) := by
  unfold contacts_of_1
  by_cases h : c.1 = id <;> simp [h]
/-! ### loops over a row -/
theorem getD_drop {α : Type} {s : List α} {i : Nat} {d : α} (h : i < s.length) : s.drop i = s.getD i d :: s.drop (i + 1) := by
  rw [List.drop_eq_getElem_cons h, List.getD_eq_getElem?_getD, List.getElem?_eq_getElem h]; rfl
theorem i_lt {i n : Nat} : decide ((i : Int) < Int.ofNat n) = decide (i < n) := by
  simp
theorem w64_succ {i : Nat} (h : i < 4611686018427387904) : w64 ((i : Int) + 1) = ((i + 1 : Nat) : Int) := by
  rw [w64_id (by omega) (by omega)]; omega
/-- The first place where p holds, from i on. -/
def firstI (p : T33 → Bool) (s : List T33) (i : Nat) : Unit ⊕ Int := match (s.drop i).findIdx? p with
  | none => .inl ()
  | some j => .inr ((i + j : Nat) : Int)
theorem firstI_end {p : T33 → Bool} {s : List T33} {i : Nat} (h : s.length ≤ i) : firstI p s i = .inl () := by
  unfold firstI; rw [List.drop_eq_nil_of_le h]; rfl
theorem firstI_step {p : T33 → Bool} {s : List T33} {i : Nat} {d : T33} (h : i < s.length) : firstI p s i = if p (s.getD i d) then .inr (i : Int) else firstI p s (i + 1) := by
  unfold firstI
  rw [getD_drop (d := d) h, List.findIdx?_cons]
  generalize s.getD i d = x
  by_cases hp : p x = true
  · simp [hp]
  · simp only [hp]
    cases (s.drop (i + 1)).findIdx? p with
    | none => rfl
    | some j => simp; omega
theorem IndexFunc_of_L0_spec (s : List T33) (f : Int) (hs : s.length < 4611686018427387904) : ∀ (n i k : Nat), s.length - i = n → n < k → IndexFunc_of_L0 k (s, f, Int.ofNat s.length, (i : Int)) = some (firstI (fun c => decide (c.1 = f)) s i)
  | 0, i, k + 1, hn, hk => by
    rw [firstI_end (by omega)]
    simp only [IndexFunc_of_L0]
    rw [i_lt, decide_eq_false (by omega)]
    rfl
  | n + 1, i, k + 1, hn, hk => by
    have hi : i < s.length := by omega
    rw [firstI_step (d := (0, 0, 0, 0, 0, 0)) hi]
    simp only [IndexFunc_of_L0]
    rw [i_lt, decide_eq_true hi, decide_eq_true (Int.natCast_nonneg i)]
    simp only [cond_true, of1_spec, Option.bind_some, Int.toNat_natCast, w64_succ (by omega : i < 4611686018427387904), IndexFunc_of_L0_spec s f hs n (i + 1) k (by omega) (by omega)]
    generalize s.getD i (0, 0, 0, 0, 0, 0) = x
    by_cases h : x.1 = f <;> simp [h]
def findIx (p : T33 → Bool) (s : List T33) : Int := match s.findIdx? p with
  | none => -1
  | some j => (j : Int)
theorem IndexFunc_of_spec (s : List T33) (f : Int) (k : Nat) (hs : s.length < 4611686018427387904) (hk : s.length < k) : IndexFunc_of k (s, f) = some (findIx (fun c => decide (c.1 = f)) s) := by
  unfold IndexFunc_of findIx
  have := IndexFunc_of_L0_spec s f hs s.length 0 k (by omega) hk
  rw [Int.natCast_zero] at this
  simp only [this, Option.bind_some]
  unfold firstI
  rw [List.drop_zero]
  cases s.findIdx? (fun c => decide (c.1 = f)) <;> simp
/-- What is found by its number. -/
def findC (l : List T33) (id : Int) : T33 × Bool := match l.find? (fun c => decide (c.1 = id)) with
  | some c => (c, true)
  | none => ((0, 0, 0, 0, 0, 0), false)
/-! ### rows that are the same -/
theorem drop_same {α : Type} {a b : List α} {i : Nat} {d : α} (h : i < a.length) (hl : a.length = b.length) : (a.drop i = b.drop i) ↔ (a.getD i d = b.getD i d ∧ a.drop (i + 1) = b.drop (i + 1)) := by
  rw [getD_drop (s := a) (d := d) h, getD_drop (s := b) (d := d) (hl ▸ h), List.cons.injEq]
theorem eq6 (x y : T33) : (x.1 == y.1 && (x.2.1 == y.2.1 && (x.2.2.1 == y.2.2.1 && (x.2.2.2.1 == y.2.2.2.1 && (x.2.2.2.2.1 == y.2.2.2.2.1 && x.2.2.2.2.2 == y.2.2.2.2.2))))) = decide (x = y) := by
  obtain ⟨a, b, c, d, e, f⟩ := x
  obtain ⟨a', b', c', d', e', f'⟩ := y
  rw [Bool.eq_iff_iff]
  simp
def sameI {α : Type} [DecidableEq α] (a b : List α) (i : Nat) : Unit ⊕ Bool := if a.drop i = b.drop i then .inl () else .inr false
theorem sameI_step {α : Type} [DecidableEq α] {a b : List α} {i : Nat} (d : α) (h : i < a.length) (hl : a.length = b.length) : sameI a b i = if a.getD i d = b.getD i d then sameI a b (i + 1) else .inr false := by
  unfold sameI
  by_cases h1 : a.getD i d = b.getD i d
  · rw [if_pos h1]
    by_cases h2 : a.drop (i + 1) = b.drop (i + 1)
    · rw [if_pos h2, if_pos ((drop_same h hl).2 ⟨h1, h2⟩)]
    · rw [if_neg h2, if_neg (fun h3 => h2 ((drop_same (d := d) h hl).1 h3).2)]
  · rw [if_neg h1, if_neg (fun h3 => h1 ((drop_same h hl).1 h3).1)]
theorem sameI_end {α : Type} [DecidableEq α] {a b : List α} {i : Nat} (h : a.length ≤ i) (hl : a.length = b.length) : sameI a b i = .inl () := by
  unfold sameI
  rw [List.drop_eq_nil_of_le h, List.drop_eq_nil_of_le (hl ▸ h), if_pos rfl]
theorem Equal_L0_spec (a b : List T33) (hs : a.length < 4611686018427387904) (hl : a.length = b.length) : ∀ (n i k : Nat), a.length - i = n → n < k → slices_Equal_api_Contact_api_Contact_L0 k (a, b, Int.ofNat a.length, (i : Int)) = some (sameI a b i)
  | 0, i, k + 1, hn, hk => by
    rw [sameI_end (by omega) hl]
    simp only [slices_Equal_api_Contact_api_Contact_L0]
    rw [i_lt, decide_eq_false (by omega)]
    rfl
  | n + 1, i, k + 1, hn, hk => by
    have hi : i < a.length := by omega
    rw [sameI_step (0, 0, 0, 0, 0, 0) hi hl]
    simp only [slices_Equal_api_Contact_api_Contact_L0, eq6]
    rw [i_lt, decide_eq_true hi, decide_eq_true (Int.natCast_nonneg i), i_lt, decide_eq_true (hl ▸ hi : i < b.length)]
    simp only [cond_true, Int.toNat_natCast, w64_succ (by omega : i < 4611686018427387904), Equal_L0_spec a b hs hl n (i + 1) k (by omega) (by omega)]
    by_cases h : a.getD i (0, 0, 0, 0, 0, 0) = b.getD i (0, 0, 0, 0, 0, 0)
    · rw [if_pos h, decide_eq_true h]; rfl
    · rw [if_neg h, decide_eq_false h]; rfl
theorem Equal_spec (a b : List T33) (k : Nat) (hs : a.length < 4611686018427387904) (hk : a.length < k) : slices_Equal_api_Contact_api_Contact k (a, b) = some (decide (a = b)) := by
  unfold slices_Equal_api_Contact_api_Contact
  dsimp only
  by_cases hl : a.length = b.length
  · have := Equal_L0_spec a b hs hl a.length 0 k (by omega) hk
    rw [Int.natCast_zero] at this
    rw [decide_eq_true (by rw [hl] : Int.ofNat a.length = Int.ofNat b.length)]
    simp only [this, Bool.not_true, cond_false, Option.bind_some]
    unfold sameI
    by_cases h : a = b <;> simp [h]
  · have : ¬ a = b := fun h => hl (by rw [h])
    have h' : ¬ (Int.ofNat a.length = Int.ofNat b.length) := fun h => hl (Int.ofNat.inj h)
    rw [decide_eq_false h', decide_eq_false this]
    rfl
theorem Same_L0_spec (a b : List T33) (hs : a.length < 4611686018427387904) (hl : a.length = b.length) : ∀ (n i k : Nat), a.length - i = n → n < k → feluccaref06_Same_L0 k (a, b, (i : Int)) = some (sameI a b i)
  | 0, i, k + 1, hn, hk => by
    rw [sameI_end (by omega) hl]
    simp only [feluccaref06_Same_L0]
    rw [i_lt, decide_eq_false (by omega)]
    rfl
  | n + 1, i, k + 1, hn, hk => by
    have hi : i < a.length := by omega
    rw [sameI_step (0, 0, 0, 0, 0, 0) hi hl]
    simp only [feluccaref06_Same_L0, eq6]
    rw [i_lt, decide_eq_true hi, decide_eq_true (Int.natCast_nonneg i), i_lt, decide_eq_true (hl ▸ hi : i < b.length)]
    simp only [cond_true, Int.toNat_natCast, w64_succ (by omega : i < 4611686018427387904), Same_L0_spec a b hs hl n (i + 1) k (by omega) (by omega)]
    by_cases h : a.getD i (0, 0, 0, 0, 0, 0) = b.getD i (0, 0, 0, 0, 0, 0)
    · rw [if_pos h, decide_eq_true h]; rfl
    · rw [if_neg h, decide_eq_false h]; rfl
theorem ref06_Same_spec (a b : List T33) (k : Nat) (hs : a.length < 4611686018427387904) (hk : a.length < k) : feluccaref06_Same k (a, b) = some (decide (a = b)) := by
  unfold feluccaref06_Same
  dsimp only
  by_cases hl : a.length = b.length
  · have := Same_L0_spec a b hs hl a.length 0 k (by omega) hk
    rw [Int.natCast_zero] at this
    rw [decide_eq_true (by rw [hl] : Int.ofNat a.length = Int.ofNat b.length)]
    simp only [this, Bool.not_true, cond_false, Option.bind_some]
    unfold sameI
    by_cases h : a = b <;> simp [h]
  · have : ¬ a = b := fun h => hl (by rw [h])
    have h' : ¬ (Int.ofNat a.length = Int.ofNat b.length) := fun h => hl (Int.ofNat.inj h)
    rw [decide_eq_false h', decide_eq_false this]
    rfl
theorem Ints_L0_spec (a b : List Int) (hs : a.length < 4611686018427387904) (hl : a.length = b.length) : ∀ (n i k : Nat), a.length - i = n → n < k → feluccaref05_Ints_L0 k (a, b, (i : Int)) = some (sameI a b i)
  | 0, i, k + 1, hn, hk => by
    rw [sameI_end (by omega) hl]
    simp only [feluccaref05_Ints_L0]
    rw [i_lt, decide_eq_false (by omega)]
    rfl
  | n + 1, i, k + 1, hn, hk => by
    have hi : i < a.length := by omega
    rw [sameI_step 0 hi hl]
    simp only [feluccaref05_Ints_L0]
    rw [i_lt, decide_eq_true hi, decide_eq_true (Int.natCast_nonneg i), i_lt, decide_eq_true (hl ▸ hi : i < b.length)]
    simp only [cond_true, Int.toNat_natCast, w64_succ (by omega : i < 4611686018427387904), Ints_L0_spec a b hs hl n (i + 1) k (by omega) (by omega)]
    by_cases h : a.getD i 0 = b.getD i 0
    · rw [if_pos h, decide_eq_true h]; rfl
    · rw [if_neg h, decide_eq_false h]; rfl
theorem Ints_spec (a b : List Int) (k : Nat) (hs : a.length < 4611686018427387904) (hk : a.length < k) : feluccaref05_Ints k (a, b) = some (decide (a = b)) := by
  unfold feluccaref05_Ints
  dsimp only
  by_cases hl : a.length = b.length
  · have := Ints_L0_spec a b hs hl a.length 0 k (by omega) hk
    rw [Int.natCast_zero] at this
    rw [decide_eq_true (by rw [hl] : Int.ofNat a.length = Int.ofNat b.length)]
    simp only [this, Bool.not_true, cond_false, Option.bind_some]
    unfold sameI
    by_cases h : a = b <;> simp [h]
  · have : ¬ a = b := fun h => hl (by rw [h])
    have h' : ¬ (Int.ofNat a.length = Int.ofNat b.length) := fun h => hl (Int.ofNat.inj h)
    rw [decide_eq_false h', decide_eq_false this]
    rfl
theorem Clone_spec (l : List T33) (k : Nat) (h : l.length ≤ 1000000000) : slices_Clone_api_Contact_api_Contact k l = some l := by
  unfold slices_Clone_api_Contact_api_Contact
  rw [decide_eq_true (by omega)]
  rfl
theorem ref06_Copy_spec (l : List T33) (k : Nat) (h : l.length ≤ 1000000000) : feluccaref06_Copy k l = some l := by
  unfold feluccaref06_Copy
  rw [decide_eq_true (by omega)]
  rfl
/-! ### what is left of a row -/
def keepC (id : Int) (c : T33) : Bool := !decide (c.1 = id)
theorem filter_take_succ {α : Type} {p : α → Bool} {s : List α} {j : Nat} (d : α) (h : j < s.length) : (s.take (j + 1)).filter p = (s.take j).filter p ++ (if p (s.getD j d) then [s.getD j d] else []) := by
  rw [List.take_add_one, List.getD_eq_getElem?_getD, List.getElem?_eq_getElem h, List.filter_append]
  congr 1
  simp only [Option.toList, Option.getD_some]
  by_cases hp : p s[j] = true <;> simp [hp]
theorem take_set_self {α : Type} {t : List α} {i : Nat} {x : α} (h : i < t.length) : (t.set i x).take (i + 1) = t.take i ++ [x] := by
  rw [List.take_add_one, List.getElem?_set_self h, List.take_set_of_le (Nat.le_refl i)]
  rfl
theorem DeleteFunc_L0_spec (s : List T33) (f : Int) (hs : s.length < 4611686018427387904) : ∀ (n i j k : Nat) (t : List T33), t.length = s.length → s.length - j = n → n < k → i ≤ j → j ≤ s.length → t.take i = (s.take j).filter (keepC f) → t.drop j = s.drop j →
    ∃ (t' : List T33) (i' : Nat), DeleteFunc_of_L0 k (t, f, (i : Int), (j : Int)) = some (.inl (t', (i' : Int))) ∧ t'.length = s.length ∧ i' ≤ s.length ∧ t'.take i' = s.filter (keepC f)
  | 0, i, j, k + 1, t, hl, hn, hk, hij, hj, h1, h2 => by
    refine ⟨t, i, ?_, hl, by omega, ?_⟩
    · simp only [DeleteFunc_of_L0]
      rw [i_lt, decide_eq_false (by omega)]
      rfl
    · rw [h1, List.take_of_length_le (by omega)]
  | n + 1, i, j, k + 1, t, hl, hn, hk, hij, hj, h1, h2 => by
    have hjt : j < t.length := by omega
    have hjs : j < s.length := by omega
    have hx : t.getD j (0, 0, 0, 0, 0, 0) = s.getD j (0, 0, 0, 0, 0, 0) := by
      have h3 := h2
      rw [getD_drop (d := (0, 0, 0, 0, 0, 0)) hjt, getD_drop (d := (0, 0, 0, 0, 0, 0)) hjs, List.cons.injEq] at h3
      exact h3.1
    have hd : t.drop (j + 1) = s.drop (j + 1) := by
      have h3 := h2
      rw [getD_drop (d := (0, 0, 0, 0, 0, 0)) hjt, getD_drop (d := (0, 0, 0, 0, 0, 0)) hjs, List.cons.injEq] at h3
      exact h3.2
    have hf := filter_take_succ (p := keepC f) (0, 0, 0, 0, 0, 0) hjs
    simp only [DeleteFunc_of_L0]
    rw [i_lt, decide_eq_true hjt, decide_eq_true (Int.natCast_nonneg j)]
    simp only [cond_true, of1_spec, Option.bind_some, Int.toNat_natCast, hx, w64_succ (by omega : j < 4611686018427387904), w64_succ (by omega : i < 4611686018427387904)]
    rw [i_lt, decide_eq_true (by omega : i < t.length), decide_eq_true (Int.natCast_nonneg i)]
    generalize hxx : s.getD j (0, 0, 0, 0, 0, 0) = x at *
    by_cases h : x.1 = f
    · rw [decide_eq_true h]
      refine DeleteFunc_L0_spec s f hs n i (j + 1) k t hl (by omega) (by omega) (by omega) (by omega) ?_ hd
      rw [hf, h1]
      simp [keepC, h]
    · rw [decide_eq_false h]
      simp only [cond_true, cond_false]
      refine DeleteFunc_L0_spec s f hs n (i + 1) (j + 1) k (t.set i x) (by simp [hl]) (by omega) (by omega) (by omega) (by omega) ?_ ?_
      · rw [take_set_self (by omega), hf, h1]
        simp [keepC, h]
      · rw [List.drop_set_of_lt (by omega)]
        exact hd
theorem findIx_cases (p : T33 → Bool) (s : List T33) : (findIx p s = -1 ∧ ∀ x ∈ s, p x = false) ∨ ∃ j : Nat, findIx p s = (j : Int) ∧ ∃ h : j < s.length, p s[j] = true ∧ ∀ q (hq : q < j), p (s[q]'(by omega)) = false := by
  unfold findIx
  cases h : s.findIdx? p with
  | none => exact .inl ⟨rfl, List.findIdx?_eq_none_iff.1 h⟩
  | some j =>
    obtain ⟨hj, hp, hlt⟩ := List.findIdx?_eq_some_iff_getElem.1 h
    exact .inr ⟨j, rfl, hj, hp, fun q hq => by simpa using hlt q hq⟩
theorem DeleteFunc_spec (s : List T33) (f : Int) (k : Nat) (hs : s.length < 4611686018427387904) (hk : s.length < k) : DeleteFunc_of k s f = some (s.filter (keepC f)) := by
  unfold DeleteFunc_of
  simp only [IndexFunc_of_spec s f k hs hk, Option.bind_some]
  rcases findIx_cases (fun c => decide (c.1 = f)) s with ⟨h1, h2⟩ | ⟨j, h1, hj, hp, hlt⟩
  · rw [h1]
    have : s.filter (keepC f) = s := List.filter_eq_self.2 (fun x hx => by have := h2 x hx; simp [keepC]; simpa using this)
    rw [this]
    rfl
  · rw [h1, decide_eq_false (by omega)]
    simp only [cond_false, w64_succ (by omega : j < 4611686018427387904)]
    have hpre : (s.take j).filter (keepC f) = s.take j := List.filter_eq_self.2 (fun x hx => by
      obtain ⟨q, hq, rfl⟩ := List.mem_iff_getElem.1 hx
      have hq' : q < j := by rw [List.length_take] at hq; omega
      have := hlt q hq'
      simp only [List.getElem_take, keepC]
      simpa using this)
    obtain ⟨t', i', e1, e2, e3, e4⟩ := DeleteFunc_L0_spec s f hs (s.length - (j + 1)) j (j + 1) k s rfl rfl (by omega) (by omega) (by omega) (by
      rw [filter_take_succ (p := keepC f) (0, 0, 0, 0, 0, 0) hj, hpre, List.getD_eq_getElem?_getD, List.getElem?_eq_getElem hj]
      have : s[j].1 = f := by simpa using hp
      simp [keepC, this]) rfl
    rw [e1]
    have hcl : (clearL t' i' ((0, 0, 0, 0, 0, 0) : T33)).length = t'.length := by
      unfold clearL
      rw [List.length_append, List.length_take, List.length_replicate]; omega
    have htk : (clearL t' i' ((0, 0, 0, 0, 0, 0) : T33)).take i' = t'.take i' := by
      unfold clearL
      rw [List.take_append_of_le_length (by rw [List.length_take]; omega), List.take_take, Nat.min_self]
    have hle : decide ((i' : Int) ≤ Int.ofNat t'.length) = true := decide_eq_true (by rw [e2]; exact Int.ofNat_le.2 e3)
    simp only [Option.bind_some, Int.toNat_natCast, decide_eq_true (Int.natCast_nonneg i'), hle, hcl, cond_true, htk, e4]
theorem contacts_Delete_spec (l : List T33) (id : Int) (k : Nat) (hs : l.length ≤ 1000000000) (hk : l.length < k) : contacts_Delete k (l, id) = some (l.filter (keepC id), if (l.filter (keepC id)).length = l.length then 6 else 0) := by
  unfold contacts_Delete
  simp only [Clone_spec l k hs, contacts_of_spec, Option.bind_some, DeleteFunc_spec l id k (by omega) hk]
  by_cases h : (l.filter (keepC id)).length = l.length
  · rw [decide_eq_true (by rw [h]), if_pos h]; rfl
  · rw [decide_eq_false (fun e => h (Int.ofNat.inj e)), if_neg h]; rfl
theorem find_drop {p : T33 → Bool} {s : List T33} {i : Nat} {d : T33} (h : i < s.length) : (s.drop i).find? p = bif p (s.getD i d) then some (s.getD i d) else (s.drop (i + 1)).find? p := by
  rw [getD_drop (d := d) h, List.find?_cons]
  cases p (s.getD i d) <;> rfl
theorem ref06_Find_L0_spec (l : List T33) (id : Int) (t4 : T33) (hs : l.length < 4611686018427387904) : ∀ (n i k : Nat), l.length - i = n → n < k → feluccaref06_Find_L0 k (l, id, t4, (i : Int)) = some (match (l.drop i).find? (fun c => decide (c.1 = id)) with | some c => .inr (c, true) | none => .inl t4)
  | 0, i, k + 1, hn, hk => by
    rw [List.drop_eq_nil_of_le (by omega)]
    simp only [feluccaref06_Find_L0]
    rw [i_lt, decide_eq_false (by omega)]
    rfl
  | n + 1, i, k + 1, hn, hk => by
    have hi : i < l.length := by omega
    rw [find_drop (d := (0, 0, 0, 0, 0, 0)) hi]
    simp only [feluccaref06_Find_L0]
    rw [i_lt, decide_eq_true hi, decide_eq_true (Int.natCast_nonneg i), Int.toNat_natCast]
    simp only [cond_true, w64_succ (by omega : i < 4611686018427387904), ref06_Find_L0_spec l id t4 hs n (i + 1) k (by omega) (by omega)]
    generalize l.getD i (0, 0, 0, 0, 0, 0) = x
    by_cases h : x.1 = id <;> simp [h]
theorem ref06_Find_spec (l : List T33) (id : Int) (k : Nat) (hs : l.length < 4611686018427387904) (hk : l.length < k) : feluccaref06_Find k (l, id) = some (findC l id) := by
  unfold feluccaref06_Find findC
  have := ref06_Find_L0_spec l id (0, 0, 0, 0, 0, 0) hs l.length 0 k (by omega) hk
  rw [Int.natCast_zero, List.drop_zero] at this
  simp only [this, Option.bind_some]
  cases l.find? (fun c => decide (c.1 = id)) <;> rfl
theorem drop_filter {p : T33 → Bool} {s : List T33} {i : Nat} (d : T33) (h : i < s.length) : (s.drop i).filter p = (bif p (s.getD i d) then [s.getD i d] else []) ++ (s.drop (i + 1)).filter p := by
  rw [getD_drop (d := d) h, List.filter_cons]
  cases hp : p (s.getD i d) <;> simp
theorem ref06_Delete_L0_spec (l : List T33) (id : Int) (hs : l.length ≤ 1000000000) : ∀ (n i k : Nat) (o : List T33), l.length - i = n → n < k → o.length ≤ i → i ≤ l.length → feluccaref06_Delete_L0 k (l, id, o, (i : Int)) = some (.inl (l, o ++ (l.drop i).filter (keepC id)))
  | 0, i, k + 1, o, hn, hk, ho, hi => by
    rw [List.drop_eq_nil_of_le (by omega)]
    simp only [feluccaref06_Delete_L0]
    rw [i_lt, decide_eq_false (by omega)]
    simp
  | n + 1, i, k + 1, o, hn, hk, ho, _ => by
    have hi : i < l.length := by omega
    rw [drop_filter (0, 0, 0, 0, 0, 0) hi]
    simp only [feluccaref06_Delete_L0]
    rw [i_lt, decide_eq_true hi, decide_eq_true (Int.natCast_nonneg i), Int.toNat_natCast]
    simp only [cond_true, w64_succ (by omega : i < 4611686018427387904)]
    generalize l.getD i (0, 0, 0, 0, 0, 0) = x
    have hsz : decide ((List.length o + List.length [x]) * 48 ≤ 140737488355328) = true := decide_eq_true (by simp only [List.length_cons, List.length_nil]; omega)
    rw [hsz]
    by_cases h : x.1 = id
    · rw [decide_eq_true h]
      simp only [Bool.not_true, cond_false, ref06_Delete_L0_spec l id hs n (i + 1) k o (by omega) (by omega) (by omega) (by omega)]
      simp [keepC, h]
    · rw [decide_eq_false h]
      simp only [Bool.not_false, cond_true, ref06_Delete_L0_spec l id hs n (i + 1) k (o ++ [x]) (by omega) (by omega) (by simp; omega) (by omega)]
      simp [keepC, h]
theorem ref06_Delete_spec (l : List T33) (id : Int) (k : Nat) (hs : l.length ≤ 1000000000) (hk : l.length < k) : feluccaref06_Delete k (l, id) = some (l.filter (keepC id), if (l.filter (keepC id)).length = l.length then 6 else 0) := by
  unfold feluccaref06_Delete
  have := ref06_Delete_L0_spec l id hs l.length 0 k [] (by omega) hk (by simp) (by omega)
  rw [Int.natCast_zero, List.drop_zero, List.nil_append] at this
  simp only [this, Option.bind_some]
  by_cases h : (l.filter (keepC id)).length = l.length
  · rw [decide_eq_true (by rw [h]), if_pos h]; rfl
  · rw [decide_eq_false (fun e => h (Int.ofNat.inj e)), if_neg h]; rfl
/-- A contact with another rate. -/
def rated (c : T33) (r : Int) : T33 := (c.1, c.2.1, c.2.2.1, c.2.2.2.1, c.2.2.2.2.1, r)
def chgC (l : List T33) (id rate : Int) : List T33 × Int :=
  if rate < 1 ∨ 2147483647 < rate then (l, 1) else match l.findIdx? (fun c => decide (c.1 = id)) with
    | none => (l, 6)
    | some j => (l.set j (rated (l.getD j (0, 0, 0, 0, 0, 0)) rate), 0)
theorem contacts_Change_spec (l : List T33) (id rate : Int) (k : Nat) (hs : l.length ≤ 1000000000) (hk : l.length < k) : contacts_Change k (l, id, rate) = some (chgC l id rate) := by
  unfold contacts_Change chgC
  simp only [Clone_spec l k hs, contacts_of_spec, Option.bind_some, IndexFunc_of_spec l id k (by omega) hk]
  by_cases h1 : rate < 1
  · simp [h1]
  · by_cases h2 : 2147483647 < rate
    · simp [h1, h2]
    · rw [if_neg (by omega), decide_eq_false h1, decide_eq_false h2]
      simp only [cond_false]
      unfold findIx
      cases h : l.findIdx? (fun c => decide (c.1 = id)) with
      | none => rfl
      | some j =>
        obtain ⟨hj, _, _⟩ := List.findIdx?_eq_some_iff_getElem.1 h
        have e1 : decide ((j : Int) < 0) = false := decide_eq_false (by omega)
        simp only [e1, cond_false, decide_eq_true (Int.natCast_nonneg j), cond_true, Int.toNat_natCast]
        rw [i_lt, decide_eq_true hj]
        rfl
theorem firstN_step {p : T33 → Bool} {s : List T33} {i : Nat} (d : T33) (h : i < s.length) : (s.drop i).findIdx? p = bif p (s.getD i d) then some 0 else ((s.drop (i + 1)).findIdx? p).map (· + 1) := by
  rw [getD_drop (d := d) h, List.findIdx?_cons]
  cases p (s.getD i d) <;> rfl
theorem ref06_Change_L0_spec (id rate : Int) (l : List T33) (hs : l.length < 4611686018427387904) : ∀ (n i k : Nat), l.length - i = n → n < k → feluccaref06_Change_L0 k (id, rate, l, (i : Int)) = some (match (l.drop i).findIdx? (fun c => decide (c.1 = id)) with
    | none => .inl l
    | some j => .inr (l.set (i + j) (rated (l.getD (i + j) (0, 0, 0, 0, 0, 0)) rate), 0))
  | 0, i, k + 1, hn, hk => by
    rw [List.drop_eq_nil_of_le (by omega)]
    simp only [feluccaref06_Change_L0]
    rw [i_lt, decide_eq_false (by omega)]
    rfl
  | n + 1, i, k + 1, hn, hk => by
    have hi : i < l.length := by omega
    rw [firstN_step (0, 0, 0, 0, 0, 0) hi]
    simp only [feluccaref06_Change_L0]
    rw [i_lt, decide_eq_true hi, decide_eq_true (Int.natCast_nonneg i), Int.toNat_natCast]
    simp only [cond_true, w64_succ (by omega : i < 4611686018427387904), ref06_Change_L0_spec id rate l hs n (i + 1) k (by omega) (by omega)]
    by_cases h : (l.getD i (0, 0, 0, 0, 0, 0)).1 = id
    · rw [decide_eq_true h]
      rfl
    · rw [decide_eq_false h]
      simp only [cond_false]
      cases (l.drop (i + 1)).findIdx? (fun c => decide (c.1 = id)) with
      | none => rfl
      | some j =>
        simp only [Option.map_some]
        rw [show i + 1 + j = i + (j + 1) by omega]
theorem ref06_Change_spec (l : List T33) (id rate : Int) (k : Nat) (hs : l.length ≤ 1000000000) (hk : l.length < k) : feluccaref06_Change k (l, id, rate) = some (chgC l id rate) := by
  unfold feluccaref06_Change chgC
  have := ref06_Change_L0_spec id rate l (by omega) l.length 0 k (by omega) hk
  rw [Int.natCast_zero, List.drop_zero] at this
  simp only [ref06_Copy_spec l k hs, Option.bind_some, this]
  by_cases h1 : rate < 1
  · simp [h1]
  · by_cases h2 : 2147483647 < rate
    · simp [h1, h2]
    · rw [if_neg (by omega), decide_eq_false h1, decide_eq_false h2]
      simp only [cond_false]
      cases l.findIdx? (fun c => decide (c.1 = id)) with
      | none => rfl
      | some j => simp only [Option.bind_some, Nat.zero_add]
/-! ### the order -/
def lessC (a b : T33) : Bool := if a.2.1 ≠ b.2.1 then decide (a.2.1 < b.2.1) else if a.2.2.1 ≠ b.2.2.1 then decide (a.2.2.1 < b.2.2.1) else if a.2.2.2.1 ≠ b.2.2.2.1 then decide (a.2.2.2.1 < b.2.2.2.1) else decide (a.1 < b.1)
theorem less_spec (k : Nat) (a b : T33) : feluccaref06_less k (a, b) = some (lessC a b) := by
  unfold feluccaref06_less lessC
  by_cases h1 : a.2.1 = b.2.1 <;> by_cases h2 : a.2.2.1 = b.2.2.1 <;> by_cases h3 : a.2.2.2.1 = b.2.2.2.1 <;> by_cases h4 : a.2.1 < b.2.1 <;> by_cases h5 : a.2.2.1 < b.2.2.1 <;> by_cases h6 : a.2.2.2.1 < b.2.2.2.1 <;> by_cases h7 : a.1 < b.1 <;> simp [h1, h2, h3, h4, h5, h6, h7]
theorem cmpI_cases (a b : Int) : (a < b ∧ cmpI a b = -1) ∨ (a = b ∧ cmpI a b = 0) ∨ (b < a ∧ cmpI a b = 1) := by
  unfold cmpI
  by_cases h1 : a < b
  · exact .inl ⟨h1, if_pos h1⟩
  · by_cases h2 : b < a
    · exact .inr (.inr ⟨h2, by rw [if_neg h1, if_pos h2]⟩)
    · exact .inr (.inl ⟨by omega, by rw [if_neg h1, if_neg h2]⟩)
theorem less_cmp (a b : T33) : lessC a b = decide (cmpC a b < 0) := by
  unfold lessC cmpC
  rcases cmpI_cases a.2.1 b.2.1 with ⟨h1, e1⟩ | ⟨h1, e1⟩ | ⟨h1, e1⟩
  · rw [e1, if_pos (by omega), decide_eq_true h1]; rfl
  · rw [e1, if_neg (by simpa using h1)]
    rcases cmpI_cases a.2.2.1 b.2.2.1 with ⟨h2, e2⟩ | ⟨h2, e2⟩ | ⟨h2, e2⟩
    · rw [e2, if_pos (by omega), decide_eq_true h2]; rfl
    · rw [e2, if_neg (by simpa using h2)]
      rcases cmpI_cases a.2.2.2.1 b.2.2.2.1 with ⟨h3, e3⟩ | ⟨h3, e3⟩ | ⟨h3, e3⟩
      · rw [e3, if_pos (by omega), decide_eq_true h3]; rfl
      · rw [e3, if_neg (by simpa using h3)]
        rcases cmpI_cases a.1 b.1 with ⟨h4, e4⟩ | ⟨h4, e4⟩ | ⟨h4, e4⟩
        · rw [e4, decide_eq_true h4]; rfl
        · rw [e4, decide_eq_false (by omega)]; rfl
        · rw [e4, decide_eq_false (by omega)]; rfl
      · rw [e3, if_pos (by omega), decide_eq_false (by omega)]; rfl
    · rw [e2, if_pos (by omega), decide_eq_false (by omega)]; rfl
  · rw [e1, if_pos (by omega), decide_eq_false (by omega)]; rfl
theorem cmp_neg (a b : T33) : cmpC b a = - cmpC a b := by
  unfold cmpC cmpI
  repeat' split <;> omega
theorem cmp_range (a b : T33) : cmpC a b = -1 ∨ cmpC a b = 0 ∨ cmpC a b = 1 := by
  unfold cmpC cmpI
  repeat' split <;> omega
/-! ### what is over -/
def leftC (now : Int) (l : List T33) : List T33 := l.filter fun c => decide (now < c.2.2.2.2.1)
def goneC (now : Int) (l : List T33) : List Int := (l.filter fun c => !decide (now < c.2.2.2.2.1)).map fun c => c.1
theorem leftC_step {now : Int} {l : List T33} {i : Nat} (d : T33) (h : i < l.length) : leftC now (l.drop i) = (bif decide (now < (l.getD i d).2.2.2.2.1) then [l.getD i d] else []) ++ leftC now (l.drop (i + 1)) := by
  unfold leftC
  exact drop_filter d h
theorem goneC_step {now : Int} {l : List T33} {i : Nat} (d : T33) (h : i < l.length) : goneC now (l.drop i) = (bif decide (now < (l.getD i d).2.2.2.2.1) then [] else [(l.getD i d).1]) ++ goneC now (l.drop (i + 1)) := by
  unfold goneC
  rw [drop_filter d h, List.map_append]
  cases decide (now < (l.getD i d).2.2.2.2.1) <;> rfl
theorem leftC_len (now : Int) (l : List T33) : (leftC now l).length ≤ l.length := List.length_filter_le _ _
theorem goneC_len (now : Int) (l : List T33) : (goneC now l).length ≤ l.length := by unfold goneC; rw [List.length_map]; exact List.length_filter_le _ _
theorem Expire_L0_spec (l : List T33) (now : Int) (hs : l.length ≤ 1000000000) : ∀ (n i k : Nat) (a : List T33) (g : List Int), l.length - i = n → n < k → a.length ≤ i → g.length ≤ i → i ≤ l.length → contacts_Expire_L0 k (now, a, g, l, Int.ofNat l.length, (i : Int)) = some (.inl (a ++ leftC now (l.drop i), g ++ goneC now (l.drop i)))
  | 0, i, k + 1, a, g, hn, hk, ha, hg, hi => by
    rw [List.drop_eq_nil_of_le (by omega)]
    simp only [contacts_Expire_L0]
    rw [i_lt, decide_eq_false (by omega)]
    simp [leftC, goneC]
  | n + 1, i, k + 1, a, g, hn, hk, ha, hg, _ => by
    have hi : i < l.length := by omega
    rw [leftC_step (0, 0, 0, 0, 0, 0) hi, goneC_step (0, 0, 0, 0, 0, 0) hi]
    simp only [contacts_Expire_L0]
    rw [i_lt, decide_eq_true hi, decide_eq_true (Int.natCast_nonneg i), Int.toNat_natCast]
    simp only [cond_true, w64_succ (by omega : i < 4611686018427387904)]
    generalize l.getD i (0, 0, 0, 0, 0, 0) = x
    have h1 : decide ((List.length a + List.length [x]) * 48 ≤ 140737488355328) = true := decide_eq_true (by simp only [List.length_cons, List.length_nil]; omega)
    have h2 : decide ((List.length g + List.length [x.1]) * 8 ≤ 140737488355328) = true := decide_eq_true (by simp only [List.length_cons, List.length_nil]; omega)
    rw [h1, h2]
    by_cases h : now < x.2.2.2.2.1
    · rw [decide_eq_true h]
      simp only [cond_true, Expire_L0_spec l now hs n (i + 1) k (a ++ [x]) g (by omega) (by omega) (by simp; omega) (by omega) (by omega)]
      simp
    · rw [decide_eq_false h]
      simp only [cond_true, cond_false, Expire_L0_spec l now hs n (i + 1) k a (g ++ [x.1]) (by omega) (by omega) (by omega) (by simp; omega) (by omega)]
      simp
theorem contacts_Expire_spec (l : List T33) (now : Int) (k : Nat) (hs : l.length ≤ 1000000000) (hk : l.length < k) : contacts_Expire k (l, now) = some (leftC now l, sorted (goneC now l)) := by
  unfold contacts_Expire
  have := Expire_L0_spec l now hs l.length 0 k [] [] (by omega) hk (by simp) (by simp) (by omega)
  rw [Int.natCast_zero, List.drop_zero, List.nil_append, List.nil_append] at this
  simp only [this, Option.bind_some, slices_Sort, sortF]
  rw [decide_eq_true (by have := goneC_len now l; omega)]
  rfl
theorem insert_L1 (l o : List T33) (now i : Int) (x : Int) : ∀ (n : Nat) (P Q : List Int) (k : Nat), P.length = n → n < k → P.length + Q.length < 1000000000 → (P ++ Q).Pairwise (· ≤ ·) → (∀ q ∈ Q, x < q) →
    ∃ R, feluccaref06_Expire_L1 k (l, now, o, P ++ x :: Q, i, (P.length : Int)) = some (.inl (l, now, o, R, i)) ∧ R.Pairwise (· ≤ ·) ∧ R.Perm (P ++ x :: Q)
  | 0, P, Q, k + 1, hP, hk, hb, hs, hq => by
    have : P = [] := List.eq_nil_of_length_eq_zero hP
    subst this
    refine ⟨x :: Q, ?_, ?_, List.Perm.refl _⟩
    · simp only [feluccaref06_Expire_L1]
      rfl
    · rw [List.pairwise_cons]
      exact ⟨fun q h => by have := hq q h; omega, by simpa using hs⟩
  | n + 1, P, Q, k + 1, hP, hk, hb, hs, hq => by
    obtain ⟨P1, p, rfl⟩ : ∃ P1 p, P = P1 ++ [p] := by
      rcases List.eq_nil_or_concat P with rfl | ⟨P1, p, h⟩
      · simp at hP
      · exact ⟨P1, p, by simpa using h⟩
    have hn : P1.length = n := by simpa using hP
    have hPl : (P1 ++ [p]).length = n + 1 := hP
    have hlen : List.length (P1 ++ [p] ++ x :: Q) = n + 2 + Q.length := by simp [hn]; omega
    have e1 : w64 (((n + 1 : Nat) : Int) - 1) = (n : Int) := by
      rw [w64_id (by omega) (by simp at hb; omega)]; omega
    have g1 : List.getD (P1 ++ [p] ++ x :: Q) (n + 1) 0 = x := by rw [List.getD_eq_getElem?_getD, List.getElem?_append_right (by omega), hPl]; simp
    have g0 : List.getD (P1 ++ [p] ++ x :: Q) n 0 = p := by
      rw [List.getD_eq_getElem?_getD, List.append_assoc, List.getElem?_append_right (by omega), hn]; simp
    have hset : List.set (List.set (P1 ++ [p] ++ x :: Q) n x) (n + 1) p = P1 ++ x :: p :: Q := by
      rw [List.append_assoc, List.set_append_right _ _ (by omega), List.set_append_right _ _ (by omega), hn]
      simp
    have hA : decide ((0 : Int) ≤ (n : Int)) = true := decide_eq_true (Int.natCast_nonneg n)
    have hB : decide ((n : Int) < Int.ofNat (n + 2 + Q.length)) = true := by rw [i_lt]; exact decide_eq_true (by omega)
    have hC : decide ((0 : Int) ≤ ((n + 1 : Nat) : Int)) = true := decide_eq_true (Int.natCast_nonneg _)
    have hD : decide (((n + 1 : Nat) : Int) < Int.ofNat (n + 2 + Q.length)) = true := by rw [i_lt]; exact decide_eq_true (by omega)
    have hE : decide ((0 : Int) < ((n + 1 : Nat) : Int)) = true := decide_eq_true (by omega)
    simp only [feluccaref06_Expire_L1, hPl]
    rw [e1, Int.toNat_natCast, Int.toNat_natCast, g0, g1]
    simp only [List.length_set, hlen, hA, hB, hC, hD, hE, cond_true, hset]
    by_cases h : x < p
    · rw [decide_eq_true h]
      have hs' : (P1 ++ p :: Q).Pairwise (· ≤ ·) := by simpa using hs
      obtain ⟨R, r1, r2, r3⟩ := insert_L1 l o now i x n P1 (p :: Q) k hn (by omega) (by simp at hb ⊢; omega) hs' (fun q hq' => by
        rcases List.mem_cons.1 hq' with rfl | hq'
        · exact h
        · exact hq q hq')
      refine ⟨R, ?_, r2, r3.trans ?_⟩
      · rw [hn] at r1
        simpa only [cond_true] using r1
      · rw [List.append_assoc]
        exact List.Perm.append_left P1 (List.Perm.swap p x Q)
    · rw [decide_eq_false h]
      refine ⟨P1 ++ [p] ++ x :: Q, rfl, ?_, List.Perm.refl _⟩
      rw [List.pairwise_append] at hs ⊢
      obtain ⟨h1, h2, h3⟩ := hs
      refine ⟨h1, List.pairwise_cons.2 ⟨fun q hq' => by have := hq q hq'; omega, h2⟩, fun a ha b hb' => ?_⟩
      rcases List.mem_cons.1 hb' with rfl | hb'
      · have hap : a ≤ p := by
          rcases List.mem_append.1 ha with ha' | ha'
          · rw [List.pairwise_append] at h1
            exact h1.2.2 a ha' p (by simp)
          · simp at ha'; omega
        omega
      · exact h3 a ha b hb'
theorem ref06_Expire_L0_spec (l : List T33) (now : Int) (hs : l.length ≤ 100000000) : ∀ (n i k : Nat) (a : List T33) (g : List Int), l.length - i = n → n + l.length + 1 < k → a.length ≤ i → g.length ≤ i → i ≤ l.length → g.Pairwise (· ≤ ·) →
    ∃ G, feluccaref06_Expire_L0 k (l, now, a, g, (i : Int)) = some (.inl (a ++ leftC now (l.drop i), G)) ∧ G.Pairwise (· ≤ ·) ∧ G.Perm (g ++ goneC now (l.drop i))
  | 0, i, k + 1, a, g, hn, hk, ha, hg, hi, hp => by
    rw [List.drop_eq_nil_of_le (by omega)]
    refine ⟨g, ?_, hp, by simp [goneC]⟩
    simp only [feluccaref06_Expire_L0]
    rw [i_lt, decide_eq_false (by omega)]
    simp [leftC]
  | n + 1, i, k + 1, a, g, hn, hk, ha, hg, _, hp => by
    have hi : i < l.length := by omega
    rw [leftC_step (0, 0, 0, 0, 0, 0) hi, goneC_step (0, 0, 0, 0, 0, 0) hi]
    simp only [feluccaref06_Expire_L0]
    rw [i_lt, decide_eq_true hi, decide_eq_true (Int.natCast_nonneg i), Int.toNat_natCast]
    simp only [cond_true, w64_succ (by omega : i < 4611686018427387904)]
    generalize l.getD i (0, 0, 0, 0, 0, 0) = x
    have h1 : decide ((List.length a + List.length [x]) * 48 ≤ 140737488355328) = true := decide_eq_true (by simp only [List.length_cons, List.length_nil]; omega)
    have h2 : decide ((List.length g + List.length [x.1]) * 8 ≤ 140737488355328) = true := decide_eq_true (by simp only [List.length_cons, List.length_nil]; omega)
    rw [h1, h2]
    by_cases h : now < x.2.2.2.2.1
    · rw [decide_eq_true h]
      obtain ⟨G, r1, r2, r3⟩ := ref06_Expire_L0_spec l now hs n (i + 1) k (a ++ [x]) g (by omega) (by omega) (by simp; omega) (by omega) (by omega) hp
      exact ⟨G, by simpa only [cond_true, List.append_assoc] using r1, r2, by simpa using r3⟩
    · rw [decide_eq_false h]
      obtain ⟨R, q1, q2, q3⟩ := insert_L1 l a now (i : Int) x.1 g.length g [] k rfl (by omega) (by simp; omega) (by simpa using hp) (fun q hq => by cases hq)
      have hR : R.length ≤ i + 1 := by rw [q3.length_eq]; simp; omega
      obtain ⟨G, r1, r2, r3⟩ := ref06_Expire_L0_spec l now hs n (i + 1) k a R (by omega) (by omega) (by omega) hR (by omega) q2
      refine ⟨G, ?_, r2, ?_⟩
      · have q1' : feluccaref06_Expire_L1 k (l, now, a, g ++ [x.1], (i : Int), Int.ofNat g.length) = some (.inl (l, now, a, R, (i : Int))) := q1
        simp only [cond_true, cond_false, q1', Option.bind_some, w64_succ (by omega : i < 4611686018427387904), r1]
        simp
      · refine r3.trans ?_
        simp only [cond_false]
        rw [← List.append_assoc]
        exact q3.append_right _
theorem sorted_unique {a b : List Int} (h : a.Perm b) (ha : a.Pairwise (· ≤ ·)) (hb : b.Pairwise (· ≤ ·)) : a = b := by
  refine List.Perm.eq_of_pairwise (fun x y _ _ h1 h2 => ?_) ha hb h
  omega
theorem sorted_pw (l : List Int) : (sorted l).Pairwise (· ≤ ·) := sorted_pw0 l
theorem sorted_perm (l : List Int) : (sorted l).Perm l := sorted_perm0 l
theorem ref06_Expire_spec (l : List T33) (now : Int) (k : Nat) (hs : l.length ≤ 100000000) (hk : 2 * l.length + 1 < k) : feluccaref06_Expire k (l, now) = some (leftC now l, sorted (goneC now l)) := by
  unfold feluccaref06_Expire
  obtain ⟨G, r1, r2, r3⟩ := ref06_Expire_L0_spec l now hs l.length 0 k [] [] (by omega) (by omega) (by simp) (by simp) (by omega) List.Pairwise.nil
  rw [Int.natCast_zero, List.drop_zero, List.nil_append] at r1
  rw [List.drop_zero, List.nil_append] at r3
  have : G = sorted (goneC now l) := sorted_unique (r3.trans (sorted_perm _).symm) r2 (sorted_pw _)
  subst this
  simp only [r1, Option.bind_some]
theorem Compare_spec (k : Nat) (a b : T33) (h : 5 ≤ k) : contacts_Compare k (a, b) = some (cmpC a b) := by
  obtain ⟨k', rfl⟩ : ∃ k', k = k' + 5 := ⟨k - 5, by omega⟩
  exact contacts_Compare_spec k' a b
/-! ### what is right -/
def rngC (c : T33) : Prop := (-9223372036854775808 ≤ c.2.2.2.1 ∧ c.2.2.2.1 ≤ 9223372036854775807) ∧ (-9223372036854775808 ≤ c.2.2.2.2.1 ∧ c.2.2.2.2.1 ≤ 9223372036854775807)
abbrev z28 : T33 := (0, 0, 0, 0, 0, 0)
def okAt (l : List T33) (i : Nat) : Bool := conB (l.getD i z28) && (!decide ((l.getD i z28).1 ∈ (l.take i).map (·.1)) && (bif decide (0 < i) then decide (cmpC (l.getD (i - 1) z28) (l.getD i z28) < 0) && !ovB (l.getD (i - 1) z28) (l.getD i z28) else true))
def chkR (l : List T33) : Nat → Nat → Bool
  | 0, _ => true
  | n + 1, i => okAt l i && chkR l n (i + 1)
theorem has_put (x n : Int) (l : List Int) : hasN x (putN n l) = (decide (x = n) || hasN x l) := by
  unfold putN
  rw [Bool.eq_iff_iff]
  cases h : hasN n l with
  | true =>
    simp only [cond_true, Bool.or_eq_true, decide_eq_true_eq]
    constructor
    · exact .inr
    · rintro (rfl | h')
      · exact h
      · exact h'
  | false =>
    simp only [cond_false, Bool.or_eq_true, decide_eq_true_eq]
    rw [hasN_iff, hasN_iff, List.mem_append, List.mem_singleton]
    exact Or.comm
theorem mem_take_succ {l : List T33} {i : Nat} (h : i < l.length) (x : Int) : decide (x ∈ (l.take (i + 1)).map (·.1)) = (decide (x = (l.getD i z28).1) || decide (x ∈ (l.take i).map (·.1))) := by
  rw [List.take_add_one, List.getElem?_eq_getElem h, List.getD_eq_getElem?_getD, List.getElem?_eq_getElem h, Bool.eq_iff_iff]
  simp only [Option.toList, List.map_append, List.mem_append, List.map_cons, List.map_nil, List.mem_singleton, Option.getD_some, Bool.or_eq_true, decide_eq_true_eq]
  exact Or.comm
theorem Right_L0_spec (l : List T33) (hs : l.length ≤ 1000000000) (hr : ∀ c ∈ l, rngC c) : ∀ (n i k : Nat) (had : List Int), l.length - i = n → n + 5 < k → i ≤ l.length → (∀ x, hasN x had = decide (x ∈ (l.take i).map (·.1))) → contacts_Right_L0 k (l, had, l, Int.ofNat l.length, (i : Int)) = some (bif chkR l n i then .inl l else .inr false)
  | 0, i, k + 1, had, hn, hk, hi, hh => by
    simp only [contacts_Right_L0]
    rw [i_lt, decide_eq_false (by omega)]
    rfl
  | n + 1, i, k + 1, had, hn, hk, _, hh => by
    have hi : i < l.length := by omega
    have hx : l.getD i z28 ∈ l := by rw [List.getD_eq_getElem?_getD, List.getElem?_eq_getElem hi]; exact List.getElem_mem hi
    obtain ⟨r1, r2⟩ := hr _ hx
    have ih := Right_L0_spec l hs hr n (i + 1) k (putN (l.getD i z28).1 had) (by omega) (by omega) (by omega) (fun x => by rw [has_put, hh, mem_take_succ hi])
    have hcmp : ∀ a b, contacts_Compare k (a, b) = some (cmpC a b) := fun a b => Compare_spec k a b (by omega)
    simp only [contacts_Right_L0, chkR, okAt]
    rw [i_lt, decide_eq_true hi, decide_eq_true (Int.natCast_nonneg i), Int.toNat_natCast]
    simp only [cond_true, check_Contact_spec _ _ r1 r2, Option.bind_some, w64_succ (by omega : i < 4611686018427387904), hh, ih, hcmp, contacts_overlap_spec]
    cases conB (l.getD i z28) with
    | false => rfl
    | true =>
      cases decide ((l.getD i z28).1 ∈ (l.take i).map (·.1)) with
      | true => rfl
      | false =>
        by_cases h0 : 0 < i
        · have e1 : w64 ((i : Int) - 1) = ((i - 1 : Nat) : Int) := by rw [w64_id (by omega) (by omega)]; omega
          have e2 : decide ((0 : Int) < (i : Int)) = true := decide_eq_true (by omega)
          rw [e2, e1, decide_eq_true (Int.natCast_nonneg (i - 1)), Int.toNat_natCast, i_lt, decide_eq_true (by omega : i - 1 < l.length), decide_eq_true h0]
          generalize cmpC (l.getD (i - 1) z28) (l.getD i z28) = c
          generalize ovB (l.getD (i - 1) z28) (l.getD i z28) = v
          by_cases hc : 0 ≤ c
          · rw [decide_eq_true hc, decide_eq_false (by omega : ¬ c < 0)]
            cases v <;> rfl
          · rw [decide_eq_false hc, decide_eq_true (by omega : c < 0)]
            cases v
            · simp
            · rfl
        · have e2 : decide ((0 : Int) < (i : Int)) = false := decide_eq_false (by omega)
          rw [e2, decide_eq_false h0]
          simp
theorem contacts_Right_spec0 (l : List T33) (k : Nat) (hs : l.length ≤ 1000000000) (hr : ∀ c ∈ l, rngC c) (hk : l.length + 5 < k) : contacts_Right k l = some (chkR l l.length 0 && decide (l.length ≤ 4096)) := by
  unfold contacts_Right
  have := Right_L0_spec l hs hr l.length 0 k [] (by omega) hk (by omega) (fun x => by simp [hasN])
  rw [Int.natCast_zero] at this
  simp only [this, Option.bind_some]
  cases chkR l l.length 0 with
  | false => rfl
  | true =>
    simp only [cond_true, Bool.true_and]
    by_cases h : l.length ≤ 4096
    · rw [decide_eq_true h, decide_eq_true (show Int.ofNat l.length ≤ 4096 from by have : Int.ofNat l.length = (l.length : Int) := rfl; omega)]; rfl
    · rw [decide_eq_false h, decide_eq_false (show ¬ Int.ofNat l.length ≤ 4096 from by have : Int.ofNat l.length = (l.length : Int) := rfl; omega)]; rfl
theorem ref03_Node_spec (k : Nat) (n : Int) : feluccaref03_Node k n = some (nodeB n) := by
  unfold feluccaref03_Node nodeB
  by_cases h1 : 1 ≤ n <;> by_cases h2 : n ≤ 255 <;> simp [h1, h2]
theorem ref03_pair_spec (k : Nat) (a b s e : Int) : feluccaref03_pair k (a, b, s, e) = some (wayB a b && spanB s e) := by
  unfold feluccaref03_pair wayB spanB
  simp only [ref03_Node_spec, Option.bind_some]
  cases nodeB a <;> cases nodeB b <;> by_cases h : a = b <;> by_cases h1 : 0 ≤ s <;> by_cases h2 : s < e <;> by_cases h3 : e ≤ 2147483647 <;> simp [h, h1, h2, h3]
theorem ref03_Contact_spec (k : Nat) (c : T33) : feluccaref03_Contact k c = some (conB c) := by
  unfold feluccaref03_Contact conB
  simp only [ref03_pair_spec, Option.bind_some]
  cases wayB c.2.1 c.2.2.1 <;> cases spanB c.2.2.2.1 c.2.2.2.2.1 <;> by_cases h1 : 1 ≤ c.1 <;> by_cases h2 : c.1 ≤ 1048576 <;> by_cases h3 : 1 ≤ c.2.2.2.2.2 <;> by_cases h4 : c.2.2.2.2.2 ≤ 2147483647 <;> simp [h1, h2, h3, h4]
/-- Do two go the same way at one time, as the document says it. -/
def ovR (a b : T33) : Bool := decide (a.2.1 = b.2.1) && (decide (a.2.2.1 = b.2.2.1) && (decide (a.2.2.2.1 < b.2.2.2.2.1) && decide (b.2.2.2.1 < a.2.2.2.2.1)))
theorem ref06_overlap_spec (k : Nat) (a b : T33) : feluccaref06_overlap k (a, b) = some (ovR a b) := by
  unfold feluccaref06_overlap ovR
  by_cases h1 : a.2.1 = b.2.1 <;> by_cases h2 : a.2.2.1 = b.2.2.1 <;> by_cases h3 : a.2.2.2.1 < b.2.2.2.2.1 <;> by_cases h4 : b.2.2.2.1 < a.2.2.2.2.1 <;> simp [h1, h2, h3, h4]
/-- Is contact i unlike those at j, and behind it, up to i? -/
def chkPair (l : List T33) (i : Nat) : Nat → Nat → Bool
  | 0, _ => true
  | n + 1, j => !decide ((l.getD j z28).1 = (l.getD i z28).1) && (!ovR (l.getD j z28) (l.getD i z28) && chkPair l i n (j + 1))
theorem ref06_Right_L1_spec (l : List T33) (hs : l.length ≤ 1000000000) (i : Nat) (hi : i < l.length) : ∀ (n j k : Nat), i - j = n → n < k → feluccaref06_Right_L1 k (l, (i : Int), (j : Int)) = some (bif chkPair l i n j then .inl (l, (i : Int)) else .inr false)
  | 0, j, k + 1, hn, hk => by
    simp only [feluccaref06_Right_L1]
    rw [decide_eq_false (by omega)]
    rfl
  | n + 1, j, k + 1, hn, hk => by
    have ih := ref06_Right_L1_spec l hs i hi n (j + 1) k (by omega) (by omega)
    simp only [feluccaref06_Right_L1, chkPair]
    rw [decide_eq_true (by omega : (j : Int) < (i : Int)), decide_eq_true (Int.natCast_nonneg j), i_lt, decide_eq_true (by omega : j < l.length), decide_eq_true (Int.natCast_nonneg i), i_lt, decide_eq_true hi, Int.toNat_natCast, Int.toNat_natCast]
    simp only [cond_true, ref06_overlap_spec, Option.bind_some, w64_succ (by omega : j < 4611686018427387904), ih]
    cases decide ((l.getD j z28).1 = (l.getD i z28).1) <;> cases ovR (l.getD j z28) (l.getD i z28) <;> simp
def okR (l : List T33) (i : Nat) : Bool := conB (l.getD i z28) && ((bif decide (0 < i) then lessC (l.getD (i - 1) z28) (l.getD i z28) else true) && chkPair l i i 0)
def chkS (l : List T33) : Nat → Nat → Bool
  | 0, _ => true
  | n + 1, i => okR l i && chkS l n (i + 1)
theorem ref06_Right_L0_spec (l : List T33) (hs : l.length ≤ 1000000000) : ∀ (n i k : Nat), l.length - i = n → n + l.length < k → i ≤ l.length → feluccaref06_Right_L0 k (l, (i : Int)) = some (bif chkS l n i then .inl l else .inr false)
  | 0, i, k + 1, hn, hk, hi => by
    simp only [feluccaref06_Right_L0]
    rw [i_lt, decide_eq_false (by omega)]
    rfl
  | n + 1, i, k + 1, hn, hk, _ => by
    have hi : i < l.length := by omega
    have ih := ref06_Right_L0_spec l hs n (i + 1) k (by omega) (by omega) (by omega)
    have h1 := ref06_Right_L1_spec l hs i hi i 0 k (by omega) (by omega)
    rw [Int.natCast_zero] at h1
    simp only [feluccaref06_Right_L0, chkS, okR]
    rw [i_lt, decide_eq_true hi, decide_eq_true (Int.natCast_nonneg i), Int.toNat_natCast]
    simp only [cond_true, ref03_Contact_spec, Option.bind_some, less_spec, h1]
    cases conB (l.getD i z28) with
    | false => rfl
    | true =>
      by_cases h0 : 0 < i
      · have e1 : w64 ((i : Int) - 1) = ((i - 1 : Nat) : Int) := by rw [w64_id (by omega) (by omega)]; omega
        have e2 : decide ((0 : Int) < (i : Int)) = true := decide_eq_true (by omega)
        rw [e2, e1, decide_eq_true (Int.natCast_nonneg (i - 1)), Int.toNat_natCast, i_lt, decide_eq_true (by omega : i - 1 < l.length), decide_eq_true h0]
        cases lessC (l.getD (i - 1) z28) (l.getD i z28) <;> cases chkPair l i i 0 <;> simp only [cond_true, cond_false, Bool.true_and, Bool.false_and, w64_succ (by omega : i < 4611686018427387904), ih]
      · have e2 : decide ((0 : Int) < (i : Int)) = false := decide_eq_false (by omega)
        rw [e2, decide_eq_false h0]
        cases chkPair l i i 0 <;> simp only [cond_true, cond_false, Bool.true_and, Bool.false_and, w64_succ (by omega : i < 4611686018427387904), ih]
theorem ref06_Right_spec0 (l : List T33) (k : Nat) (hs : l.length ≤ 1000000000) (hk : 2 * l.length < k) : feluccaref06_Right k l = some (chkS l l.length 0 && decide (l.length ≤ 4096)) := by
  unfold feluccaref06_Right
  have := ref06_Right_L0_spec l hs l.length 0 k (by omega) (by omega) (by omega)
  rw [Int.natCast_zero] at this
  simp only [this, Option.bind_some]
  cases chkS l l.length 0 with
  | false => rfl
  | true =>
    simp only [cond_true, Bool.true_and]
    by_cases h : l.length ≤ 4096
    · rw [decide_eq_true h, decide_eq_true (show Int.ofNat l.length ≤ 4096 from by have : Int.ofNat l.length = (l.length : Int) := rfl; omega)]; rfl
    · rw [decide_eq_false h, decide_eq_false (show ¬ Int.ofNat l.length ≤ 4096 from by have : Int.ofNat l.length = (l.length : Int) := rfl; omega)]; rfl
/-! ### both are the same -/
theorem chkR_all (l : List T33) : ∀ n i, chkR l n i = true ↔ ∀ q, i ≤ q → q < i + n → okAt l q = true
  | 0, i => by simp [chkR]; omega
  | n + 1, i => by
    simp only [chkR, Bool.and_eq_true, chkR_all l n (i + 1)]
    constructor
    · rintro ⟨h1, h2⟩ q hq hq'
      rcases Nat.eq_or_lt_of_le hq with rfl | h
      · exact h1
      · exact h2 q h (by omega)
    · intro h
      exact ⟨h i (Nat.le_refl i) (by omega), fun q hq hq' => h q (by omega) (by omega)⟩
theorem chkS_all (l : List T33) : ∀ n i, chkS l n i = true ↔ ∀ q, i ≤ q → q < i + n → okR l q = true
  | 0, i => by simp [chkS]; omega
  | n + 1, i => by
    simp only [chkS, Bool.and_eq_true, chkS_all l n (i + 1)]
    constructor
    · rintro ⟨h1, h2⟩ q hq hq'
      rcases Nat.eq_or_lt_of_le hq with rfl | h
      · exact h1
      · exact h2 q h (by omega)
    · intro h
      exact ⟨h i (Nat.le_refl i) (by omega), fun q hq hq' => h q (by omega) (by omega)⟩
theorem chkPair_all (l : List T33) (i : Nat) : ∀ n j, chkPair l i n j = true ↔ ∀ q, j ≤ q → q < j + n → (l.getD q z28).1 ≠ (l.getD i z28).1 ∧ ovR (l.getD q z28) (l.getD i z28) = false
  | 0, j => by simp [chkPair]; omega
  | n + 1, j => by
    simp only [chkPair, Bool.and_eq_true, chkPair_all l i n (j + 1)]
    constructor
    · rintro ⟨h1, h2, h3⟩ q hq hq'
      rcases Nat.eq_or_lt_of_le hq with rfl | h
      · exact ⟨by simpa using h1, by simpa using h2⟩
      · exact h3 q h (by omega)
    · intro h
      obtain ⟨h1, h2⟩ := h j (Nat.le_refl j) (by omega)
      exact ⟨by simpa using h1, by simpa using h2, fun q hq hq' => h q (by omega) (by omega)⟩
theorem cmp_lt_iff (a b : T33) : cmpC a b < 0 ↔ a.2.1 < b.2.1 ∨ (a.2.1 = b.2.1 ∧ (a.2.2.1 < b.2.2.1 ∨ (a.2.2.1 = b.2.2.1 ∧ (a.2.2.2.1 < b.2.2.2.1 ∨ (a.2.2.2.1 = b.2.2.2.1 ∧ a.1 < b.1))))) := by
  unfold cmpC
  rcases cmpI_cases a.2.1 b.2.1 with ⟨h1, e1⟩ | ⟨h1, e1⟩ | ⟨h1, e1⟩ <;> rcases cmpI_cases a.2.2.1 b.2.2.1 with ⟨h2, e2⟩ | ⟨h2, e2⟩ | ⟨h2, e2⟩ <;> rcases cmpI_cases a.2.2.2.1 b.2.2.2.1 with ⟨h3, e3⟩ | ⟨h3, e3⟩ | ⟨h3, e3⟩ <;> rcases cmpI_cases a.1 b.1 with ⟨h4, e4⟩ | ⟨h4, e4⟩ | ⟨h4, e4⟩ <;> rw [e1, e2, e3, e4] <;> simp <;> omega
theorem cmp_trans {a b c : T33} (h1 : cmpC a b < 0) (h2 : cmpC b c < 0) : cmpC a c < 0 := by
  rw [cmp_lt_iff] at *
  omega
theorem con_span {c : T33} (h : conB c = true) : c.2.2.2.1 < c.2.2.2.2.1 := by
  unfold conB spanB at h
  simp only [Bool.and_eq_true, decide_eq_true_eq] at h
  omega
theorem ov_iff {a b : T33} (ha : conB a = true) (hb : conB b = true) : ovB a b = ovR a b := by
  have h1 := con_span ha
  have h2 := con_span hb
  unfold ovB ovR
  rw [Bool.eq_iff_iff]
  simp only [Bool.and_eq_true, decide_eq_true_eq]
  omega
theorem ovR_false {a b : T33} : ovR a b = false ↔ ¬ (a.2.1 = b.2.1 ∧ a.2.2.1 = b.2.2.1 ∧ a.2.2.2.1 < b.2.2.2.2.1 ∧ b.2.2.2.1 < a.2.2.2.2.1) := by
  unfold ovR
  rw [← Bool.not_eq_true]
  simp only [Bool.and_eq_true, decide_eq_true_eq]
theorem mem_take_ids {l : List T33} {i : Nat} (hi : i ≤ l.length) (x : Int) : x ∈ (l.take i).map (·.1) ↔ ∃ j, j < i ∧ (l.getD j z28).1 = x := by
  rw [List.mem_map]
  constructor
  · rintro ⟨c, hc, rfl⟩
    obtain ⟨q, hq, rfl⟩ := List.mem_iff_getElem.1 hc
    have hq' : q < i := by rw [List.length_take] at hq; omega
    exact ⟨q, hq', by rw [List.getD_eq_getElem?_getD, List.getElem?_eq_getElem (by omega), List.getElem_take]; rfl⟩
  · rintro ⟨j, hj, rfl⟩
    refine ⟨l.getD j z28, ?_, rfl⟩
    rw [List.getD_eq_getElem?_getD, List.getElem?_eq_getElem (by omega)]
    exact List.mem_iff_getElem.2 ⟨j, by rw [List.length_take]; omega, by rw [List.getElem_take]; rfl⟩
/-- A row that is right, at each place, as the program looks at it: what follows for all pairs. -/
theorem right_pairs {l : List T33} {n : Nat} (hn : n ≤ l.length) (h : ∀ q, q < n → okAt l q = true) : ∀ i, i < n → ∀ j, j < i → cmpC (l.getD j z28) (l.getD i z28) < 0 ∧ ((l.getD j z28).2.1 = (l.getD i z28).2.1 → (l.getD j z28).2.2.1 = (l.getD i z28).2.2.1 → (l.getD j z28).2.2.2.2.1 ≤ (l.getD i z28).2.2.2.1) := by
  have hc : ∀ q, q < n → conB (l.getD q z28) = true := fun q hq => by have := h q hq; unfold okAt at this; simp only [Bool.and_eq_true] at this; exact this.1
  have hs : ∀ q, q + 1 < n → cmpC (l.getD q z28) (l.getD (q + 1) z28) < 0 ∧ ovB (l.getD q z28) (l.getD (q + 1) z28) = false := fun q hq => by
    have := h (q + 1) hq
    unfold okAt at this
    rw [decide_eq_true (by omega : 0 < q + 1)] at this
    simp only [Bool.and_eq_true, cond_true, Nat.add_sub_cancel, decide_eq_true_eq, Bool.not_eq_true'] at this
    exact this.2.2
  have step : ∀ q, q + 1 < n → (l.getD q z28).2.1 = (l.getD (q + 1) z28).2.1 → (l.getD q z28).2.2.1 = (l.getD (q + 1) z28).2.2.1 → (l.getD q z28).2.2.2.2.1 ≤ (l.getD (q + 1) z28).2.2.2.1 := fun q hq e1 e2 => by
    obtain ⟨s1, s2⟩ := hs q hq
    rw [ov_iff (hc q (by omega)) (hc (q + 1) hq), ovR_false] at s2
    rw [cmp_lt_iff] at s1
    have c1 := con_span (hc q (by omega))
    have c2 := con_span (hc (q + 1) hq)
    omega
  intro i
  induction i with
  | zero => intro _ j hj; omega
  | succ i ih =>
    intro hi j hj
    rcases Nat.eq_or_lt_of_le (Nat.lt_succ_iff.1 hj) with rfl | hj
    · exact ⟨(hs j hi).1, step j hi⟩
    · obtain ⟨i1, i2⟩ := ih (by omega) j hj
      obtain ⟨s1, _⟩ := hs i hi
      refine ⟨cmp_trans i1 s1, fun e1 e2 => ?_⟩
      rw [cmp_lt_iff] at i1 s1
      have c1 := con_span (hc i (by omega))
      have f1 : (l.getD j z28).2.1 = (l.getD i z28).2.1 := by omega
      have f2 : (l.getD j z28).2.2.1 = (l.getD i z28).2.2.1 := by omega
      have := i2 f1 f2
      omega
theorem chk_same (l : List T33) : chkR l l.length 0 = chkS l l.length 0 := by
  rw [Bool.eq_iff_iff, chkR_all, chkS_all]
  constructor
  · intro h q _ hq
    rw [Nat.zero_add] at hq
    have h' : ∀ q, q < l.length → okAt l q = true := fun q hq => h q (Nat.zero_le q) (by omega)
    have hp := right_pairs (Nat.le_refl _) h'
    have hk := h' q hq
    unfold okAt at hk
    simp only [Bool.and_eq_true] at hk
    obtain ⟨k1, k2, k3⟩ := hk
    unfold okR
    simp only [Bool.and_eq_true]
    refine ⟨k1, ?_, (chkPair_all l q q 0).2 (fun j _ hj => ?_)⟩
    · by_cases h0 : 0 < q
      · rw [decide_eq_true h0, less_cmp]
        exact decide_eq_true (hp q hq (q - 1) (by omega)).1
      · rw [decide_eq_false h0]; rfl
    · rw [Nat.zero_add] at hj
      obtain ⟨p1, p2⟩ := hp q hq j hj
      refine ⟨fun e => ?_, ?_⟩
      · have : (l.getD q z28).1 ∈ (l.take q).map (·.1) := (mem_take_ids (by omega) _).2 ⟨j, hj, e⟩
        rw [decide_eq_true this] at k2
        cases k2
      · rw [ovR_false]
        rintro ⟨e1, e2, e3, e4⟩
        have := p2 e1 e2
        omega
  · intro h q _ hq
    rw [Nat.zero_add] at hq
    have h' : ∀ q, q < l.length → okR l q = true := fun q hq => h q (Nat.zero_le q) (by omega)
    have hc : ∀ q, q < l.length → conB (l.getD q z28) = true := fun q hq => by have := h' q hq; unfold okR at this; simp only [Bool.and_eq_true] at this; exact this.1
    have hk := h' q hq
    unfold okR at hk
    simp only [Bool.and_eq_true] at hk
    obtain ⟨k1, k2, k3⟩ := hk
    rw [chkPair_all] at k3
    unfold okAt
    simp only [Bool.and_eq_true]
    refine ⟨k1, ?_, ?_⟩
    · rw [decide_eq_false (fun hm => ?_)]
      · rfl
      · obtain ⟨j, hj, e⟩ := (mem_take_ids (by omega) _).1 hm
        exact (k3 j (Nat.zero_le j) (by omega)).1 e
    · by_cases h0 : 0 < q
      · rw [decide_eq_true h0] at k2 ⊢
        rw [less_cmp] at k2
        have := (k3 (q - 1) (Nat.zero_le _) (by omega)).2
        rw [cond_true, Bool.and_eq_true, ov_iff (hc (q - 1) (by omega)) k1, this]
        exact ⟨k2, rfl⟩
      · rw [decide_eq_false h0]; rfl
end Go.Proofs.YtggikacbelogcaaGreat.Ex
