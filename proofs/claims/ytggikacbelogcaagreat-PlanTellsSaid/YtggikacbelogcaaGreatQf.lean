/- The document's tables of ranges: the same answers as the program's. -/
import Derived.Test.YtggikacbelogcaaGreatQc
namespace Go.Proofs.YtggikacbelogcaaGreat.Ex
open Go
set_option linter.unusedVariables false
set_option linter.unusedSimpArgs false
theorem drop_any' {α : Type} {p : α → Bool} {s : List α} {i : Nat} (d : α) (h : i < s.length) : (s.drop i).any p = (p (s.getD i d) || (s.drop (i + 1)).any p) := by
  rw [getD_drop (d := d) h, List.any_cons]
theorem ref03_Range_spec (k : Nat) (r : T35) : feluccaref03_Range k r = some (ranB r) := by
  unfold feluccaref03_Range ranB
  simp only [ref03_pair_spec, Option.bind_some]
  cases wayB r.1 r.2.1 <;> cases spanB r.2.2.1 r.2.2.2.1 <;> by_cases h1 : 0 ≤ r.2.2.2.2 <;> by_cases h2 : r.2.2.2.2 ≤ 2147483647 <;> simp [h1, h2]
def lessR (a b : T35) : Bool := if a.1 ≠ b.1 then decide (a.1 < b.1) else if a.2.1 ≠ b.2.1 then decide (a.2.1 < b.2.1) else decide (a.2.2.1 < b.2.2.1)
theorem lessR_spec (k : Nat) (a b : T35) : feluccaref07_less k (a, b) = some (lessR a b) := by
  unfold feluccaref07_less lessR
  by_cases h1 : a.1 = b.1 <;> by_cases h2 : a.2.1 = b.2.1 <;> by_cases h4 : a.1 < b.1 <;> by_cases h5 : a.2.1 < b.2.1 <;> by_cases h6 : a.2.2.1 < b.2.2.1 <;> simp [h1, h2, h4, h5, h6]
theorem lessR_cmp (a b : T35) : lessR a b = decide (cmpR a b < 0) := by
  rw [Bool.eq_iff_iff, decide_eq_true_eq, cmpR_lt]
  unfold lessR
  by_cases h1 : a.1 = b.1
  · rw [if_neg (by simpa using h1)]
    by_cases h2 : a.2.1 = b.2.1
    · rw [if_neg (by simpa using h2), decide_eq_true_eq]; omega
    · rw [if_pos h2, decide_eq_true_eq]; omega
  · rw [if_pos h1, decide_eq_true_eq]; omega
def ovE (a b : T35) : Bool := decide (a.1 = b.1) && (decide (a.2.1 = b.2.1) && (decide (a.2.2.1 < b.2.2.2.1) && decide (b.2.2.1 < a.2.2.2.1)))
theorem ovE_spec (k : Nat) (a b : T35) : feluccaref07_overlap k (a, b) = some (ovE a b) := by
  unfold feluccaref07_overlap ovE
  by_cases h1 : a.1 = b.1 <;> by_cases h2 : a.2.1 = b.2.1 <;> by_cases h3 : a.2.2.1 < b.2.2.2.1 <;> by_cases h4 : b.2.2.1 < a.2.2.2.1 <;> simp [h1, h2, h3, h4]
theorem ovE_iff {a b : T35} : ovE a b = true ↔ ovD a b := by
  unfold ovE ovD
  simp only [Bool.and_eq_true, decide_eq_true_eq]
theorem ov_same {a b : T35} (ha : ranB a = true) (hb : ranB b = true) : ovQ a b = ovE a b := by
  rw [Bool.eq_iff_iff, ovQ_iff ha hb, ovE_iff]
theorem ref07_Copy_spec (l : List T35) (k : Nat) (h : l.length ≤ 1000000000) : feluccaref07_Copy k l = some l := by
  unfold feluccaref07_Copy
  rw [decide_eq_true (by omega)]
  rfl
/-! ### right -/
def pairE (l : List T35) (i : Nat) : Nat → Nat → Bool
  | 0, _ => true
  | n + 1, j => !ovE (l.getD j z56) (l.getD i z56) && pairE l i n (j + 1)
theorem RightE_L1_spec (l : List T35) (hs : l.length ≤ 1000000000) (i : Nat) (hi : i < l.length) : ∀ (n j k : Nat), i - j = n → n < k → feluccaref07_Right_L1 k (l, (i : Int), (j : Int)) = some (bif pairE l i n j then .inl (l, (i : Int)) else .inr false)
  | 0, j, k + 1, hn, hk => by
    simp only [feluccaref07_Right_L1]
    rw [decide_eq_false (by omega)]
    rfl
  | n + 1, j, k + 1, hn, hk => by
    have ih := RightE_L1_spec l hs i hi n (j + 1) k (by omega) (by omega)
    simp only [feluccaref07_Right_L1, pairE]
    rw [decide_eq_true (by omega : (j : Int) < (i : Int)), decide_eq_true (Int.natCast_nonneg j), i_lt, decide_eq_true (by omega : j < l.length), decide_eq_true (Int.natCast_nonneg i), i_lt, decide_eq_true hi, Int.toNat_natCast, Int.toNat_natCast]
    simp only [cond_true, ovE_spec, Option.bind_some, w64_succ (by omega : j < 4611686018427387904), ih]
    cases ovE (l.getD j z56) (l.getD i z56) <;> simp
def okE (l : List T35) (i : Nat) : Bool := ranB (l.getD i z56) && ((bif decide (0 < i) then lessR (l.getD (i - 1) z56) (l.getD i z56) else true) && pairE l i i 0)
def chkD (l : List T35) : Nat → Nat → Bool
  | 0, _ => true
  | n + 1, i => okE l i && chkD l n (i + 1)
theorem RightE_L0_spec (l : List T35) (hs : l.length ≤ 1000000000) : ∀ (n i k : Nat), l.length - i = n → n + l.length < k → i ≤ l.length → feluccaref07_Right_L0 k (l, (i : Int)) = some (bif chkD l n i then .inl l else .inr false)
  | 0, i, k + 1, hn, hk, hi => by
    simp only [feluccaref07_Right_L0]
    rw [i_lt, decide_eq_false (by omega)]
    rfl
  | n + 1, i, k + 1, hn, hk, _ => by
    have hi : i < l.length := by omega
    have ih := RightE_L0_spec l hs n (i + 1) k (by omega) (by omega) (by omega)
    have h1 := RightE_L1_spec l hs i hi i 0 k (by omega) (by omega)
    rw [Int.natCast_zero] at h1
    simp only [feluccaref07_Right_L0, chkD, okE]
    rw [i_lt, decide_eq_true hi, decide_eq_true (Int.natCast_nonneg i), Int.toNat_natCast]
    simp only [cond_true, ref03_Range_spec, Option.bind_some, lessR_spec, h1]
    cases ranB (l.getD i z56) with
    | false => rfl
    | true =>
      by_cases h0 : 0 < i
      · have e1 : w64 ((i : Int) - 1) = ((i - 1 : Nat) : Int) := by rw [w64_id (by omega) (by omega)]; omega
        have e2 : decide ((0 : Int) < (i : Int)) = true := decide_eq_true (by omega)
        rw [e2, e1, decide_eq_true (Int.natCast_nonneg (i - 1)), Int.toNat_natCast, i_lt, decide_eq_true (by omega : i - 1 < l.length), decide_eq_true h0]
        cases lessR (l.getD (i - 1) z56) (l.getD i z56) <;> cases pairE l i i 0 <;> simp only [cond_true, cond_false, Bool.true_and, Bool.false_and, Bool.not_true, Bool.not_false, Option.bind_some, w64_succ (by omega : i < 4611686018427387904), ih]
      · have e2 : decide ((0 : Int) < (i : Int)) = false := decide_eq_false (by omega)
        rw [e2, decide_eq_false h0]
        cases pairE l i i 0 <;> simp only [cond_true, cond_false, Bool.true_and, Bool.false_and, Option.bind_some, w64_succ (by omega : i < 4611686018427387904), ih]
theorem chkD_all (l : List T35) : ∀ n i, chkD l n i = true ↔ ∀ q, i ≤ q → q < i + n → okE l q = true
  | 0, i => by simp [chkD]; omega
  | n + 1, i => by
    simp only [chkD, Bool.and_eq_true, chkD_all l n (i + 1)]
    constructor
    · rintro ⟨h1, h2⟩ q hq hq'
      rcases Nat.eq_or_lt_of_le hq with rfl | h
      · exact h1
      · exact h2 q h (by omega)
    · intro h
      exact ⟨h i (Nat.le_refl i) (by omega), fun q hq hq' => h q (by omega) (by omega)⟩
theorem pairE_all (l : List T35) (i : Nat) : ∀ n j, pairE l i n j = true ↔ ∀ q, j ≤ q → q < j + n → ovE (l.getD q z56) (l.getD i z56) = false
  | 0, j => by simp [pairE]; omega
  | n + 1, j => by
    simp only [pairE, Bool.and_eq_true, pairE_all l i n (j + 1)]
    constructor
    · rintro ⟨h1, h3⟩ q hq hq'
      rcases Nat.eq_or_lt_of_le hq with rfl | h
      · simpa using h1
      · exact h3 q h (by omega)
    · intro h
      exact ⟨by simpa using h j (Nat.le_refl j) (by omega), fun q hq hq' => h q (by omega) (by omega)⟩
theorem rightE_iff (l : List T35) : chkD l l.length 0 = true ↔ RightR l := by
  rw [chkD_all]
  constructor
  · intro h
    have h' : ∀ q, q < l.length → okE l q = true := fun q hq => h q (Nat.zero_le _) (by omega)
    rw [← rightR_iff, chkQ_all]
    intro q _ hq
    have hq : q < l.length := by omega
    have a := h' q hq
    unfold okE at a
    simp only [Bool.and_eq_true] at a
    obtain ⟨a1, a2, a3⟩ := a
    unfold okQ
    rw [a1, Bool.true_and]
    by_cases h0 : 0 < q
    · rw [decide_eq_true h0, cond_true, lessR_cmp] at a2
      rw [decide_eq_true h0, cond_true, a2, Bool.true_and]
      have b := h' (q - 1) (by omega)
      unfold okE at b
      simp only [Bool.and_eq_true] at b
      rw [ov_same b.1 a1, (pairE_all l q q 0).1 a3 (q - 1) (Nat.zero_le _) (by omega)]
      rfl
    · rw [decide_eq_false h0]; rfl
  · intro h q _ hq
    have hq : q < l.length := by omega
    have h2 := List.pairwise_iff_getElem.1 h.2
    unfold okE
    simp only [Bool.and_eq_true]
    refine ⟨by rw [getR hq]; exact h.1 _ (List.getElem_mem hq), ?_, (pairE_all l q q 0).2 fun j _ hj => ?_⟩
    · by_cases h0 : 0 < q
      · rw [decide_eq_true h0, cond_true, lessR_cmp, getR hq, getR (by omega : q - 1 < l.length)]
        exact decide_eq_true (h2 (q - 1) q (by omega) hq (by omega)).1
      · rw [decide_eq_false h0]; rfl
    · have hj : j < q := by omega
      rw [getR hq, getR (by omega : j < l.length)]
      have h3 := h2 j q (by omega) hq hj
      cases hv : ovE l[j] l[q] with
      | false => rfl
      | true =>
        rw [ovE_iff] at hv
        unfold ovD at hv
        have := h3.2 hv.1 hv.2.1
        omega
theorem ref07_Right_spec (l : List T35) (k : Nat) (hs : l.length ≤ 1000000000) (hk : 2 * l.length < k) : feluccaref07_Right k l = some (rightQ l) := by
  have hch : chkD l l.length 0 = chkQ l l.length 0 := by rw [Bool.eq_iff_iff, rightE_iff, rightR_iff]
  unfold feluccaref07_Right rightQ
  have := RightE_L0_spec l hs l.length 0 k (by omega) (by omega) (by omega)
  rw [Int.natCast_zero] at this
  simp only [this, Option.bind_some, hch]
  cases chkQ l l.length 0 with
  | false => rfl
  | true =>
    simp only [cond_true, Bool.true_and]
    by_cases h : l.length ≤ 4096
    · rw [decide_eq_true h, decide_eq_true (show Int.ofNat l.length ≤ 4096 from by have : Int.ofNat l.length = (l.length : Int) := rfl; omega)]; rfl
    · rw [decide_eq_false h, decide_eq_false (show ¬ Int.ofNat l.length ≤ 4096 from by have : Int.ofNat l.length = (l.length : Int) := rfl; omega)]; rfl
theorem SameE_L0_spec (a b : List T35) (hs : a.length < 4611686018427387904) (hl : a.length = b.length) : ∀ (n i k : Nat), a.length - i = n → n < k → feluccaref07_Same_L0 k (a, b, (i : Int)) = some (sameI a b i)
  | 0, i, k + 1, hn, hk => by
    rw [sameI_end (by omega) hl]
    simp only [feluccaref07_Same_L0]
    rw [i_lt, decide_eq_false (by omega)]
    rfl
  | n + 1, i, k + 1, hn, hk => by
    have hi : i < a.length := by omega
    rw [sameI_step (0, 0, 0, 0, 0) hi hl]
    simp only [feluccaref07_Same_L0, eq5]
    rw [i_lt, decide_eq_true hi, decide_eq_true (Int.natCast_nonneg i), i_lt, decide_eq_true (hl ▸ hi : i < b.length)]
    simp only [cond_true, Int.toNat_natCast, w64_succ (by omega : i < 4611686018427387904), SameE_L0_spec a b hs hl n (i + 1) k (by omega) (by omega)]
    by_cases h : a.getD i (0, 0, 0, 0, 0) = b.getD i (0, 0, 0, 0, 0)
    · rw [if_pos h, decide_eq_true h]; rfl
    · rw [if_neg h, decide_eq_false h]; rfl
theorem ref07_Same_spec (a b : List T35) (k : Nat) (hs : a.length < 4611686018427387904) (hk : a.length < k) : feluccaref07_Same k (a, b) = some (decide (a = b)) := by
  unfold feluccaref07_Same
  dsimp only
  by_cases hl : a.length = b.length
  · have := SameE_L0_spec a b hs hl a.length 0 k (by omega) hk
    rw [Int.natCast_zero] at this
    rw [decide_eq_true (by rw [hl] : Int.ofNat a.length = Int.ofNat b.length)]
    simp only [this, Bool.not_true, cond_false, Option.bind_some]
    unfold sameI
    by_cases h : a = b <;> simp [h]
  · have : ¬ a = b := fun h => hl (by rw [h])
    have h' : ¬ (Int.ofNat a.length = Int.ofNat b.length) := fun h => hl (Int.ofNat.inj h)
    rw [decide_eq_false h', decide_eq_false this]
    rfl
end Go.Proofs.YtggikacbelogcaaGreat.Ex
