/- Tables of ranges: what is right; what becomes of it. -/
import Derived.Test.YtggikacbelogcaaGreatQa
namespace Go.Proofs.YtggikacbelogcaaGreat.Ex
open Go
set_option linter.unusedVariables false
set_option linter.unusedSimpArgs false
theorem cmpR_neg (a b : T35) : cmpR b a = - cmpR a b := by
  unfold cmpR cmpI
  repeat' split <;> omega
theorem cmpR_lt (a b : T35) : cmpR a b < 0 ↔ (a.1 < b.1 ∨ (a.1 = b.1 ∧ (a.2.1 < b.2.1 ∨ (a.2.1 = b.2.1 ∧ a.2.2.1 < b.2.2.1)))) := by
  unfold cmpR cmpI
  repeat' split <;> omega
theorem cmpR_zero (a b : T35) : cmpR a b = 0 ↔ (a.1 = b.1 ∧ a.2.1 = b.2.1 ∧ a.2.2.1 = b.2.2.1) := by
  unfold cmpR cmpI
  repeat' split <;> omega
theorem cmpR_trans {a b c : T35} (h1 : cmpR a b < 0) (h2 : cmpR b c < 0) : cmpR a c < 0 := by
  rw [cmpR_lt] at *; omega
/-! ### right -/
def okQ (l : List T35) (i : Nat) : Bool := ranB (l.getD i z56) && (bif decide (0 < i) then decide (cmpR (l.getD (i - 1) z56) (l.getD i z56) < 0) && !ovQ (l.getD (i - 1) z56) (l.getD i z56) else true)
def chkQ (l : List T35) : Nat → Nat → Bool
  | 0, _ => true
  | n + 1, i => okQ l i && chkQ l n (i + 1)
theorem chkQ_all (l : List T35) : ∀ n i, chkQ l n i = true ↔ ∀ q, i ≤ q → q < i + n → okQ l q = true
  | 0, i => by simp only [chkQ]; exact ⟨fun _ q h1 h2 => by omega, fun _ => trivial⟩
  | n + 1, i => by
    simp only [chkQ, Bool.and_eq_true, chkQ_all l n (i + 1)]
    constructor
    · rintro ⟨h1, h2⟩ q hq1 hq2
      rcases Nat.eq_or_lt_of_le hq1 with rfl | h
      · exact h1
      · exact h2 q (by omega) (by omega)
    · intro h
      exact ⟨h i (Nat.le_refl _) (by omega), fun q h1 h2 => h q (by omega) (by omega)⟩
theorem RightQ_L0_spec (l : List T35) (hs : l.length ≤ 1000000000) (hr : ∀ c ∈ l, rngR c) : ∀ (n i k : Nat), l.length - i = n → n + 5 < k → i ≤ l.length → ranges_Right_L0 k (l, l, Int.ofNat l.length, (i : Int)) = some (bif chkQ l n i then .inl l else .inr false)
  | 0, i, k + 1, hn, hk, hi => by
    simp only [ranges_Right_L0]
    rw [i_lt, decide_eq_false (by omega)]
    rfl
  | n + 1, i, k + 1, hn, hk, _ => by
    have hi : i < l.length := by omega
    have hg : l.getD i z56 ∈ l := by rw [List.getD_eq_getElem?_getD, List.getElem?_eq_getElem hi]; exact List.getElem_mem hi
    have hc := check_Range_spec k (l.getD i z56) (hr _ hg)
    have ih := RightQ_L0_spec l hs hr n (i + 1) k (by omega) (by omega) (by omega)
    simp only [ranges_Right_L0]
    rw [i_lt, decide_eq_true hi, decide_eq_true (Int.natCast_nonneg i), Int.toNat_natCast]
    simp only [cond_true, hc, Option.bind_some, chkQ, okQ]
    cases ranB (l.getD i z56) with
    | false => rfl
    | true =>
      simp only [cond_true, Bool.true_and, w64_succ (by omega : i < 4611686018427387904), ih]
      by_cases h0 : 0 < i
      · have e0 : w64 ((i : Int) - 1) = ((i - 1 : Nat) : Int) := by rw [w64_id (by omega) (by omega)]; omega
        rw [decide_eq_true (by omega : (0 : Int) < (i : Int)), decide_eq_true h0, e0]
        rw [i_lt, decide_eq_true (by omega : i - 1 < l.length), decide_eq_true (Int.natCast_nonneg (i - 1)), Int.toNat_natCast]
        simp only [cond_true, CompareR_spec k _ _ (by omega : 5 ≤ k), Option.bind_some, ranges_overlap_spec]
        by_cases h1 : cmpR (l.getD (i - 1) z56) (l.getD i z56) < 0
        · rw [decide_eq_false (by omega : ¬ 0 ≤ cmpR (l.getD (i - 1) z56) (l.getD i z56)), decide_eq_true h1]
          cases ovQ (l.getD (i - 1) z56) (l.getD i z56) <;> rfl
        · rw [decide_eq_true (by omega : 0 ≤ cmpR (l.getD (i - 1) z56) (l.getD i z56)), decide_eq_false h1]
          rfl
      · rw [decide_eq_false (by omega : ¬ (0 : Int) < (i : Int)), decide_eq_false h0]
        rfl
theorem ran_span {r : T35} (h : ranB r = true) : r.2.2.1 < r.2.2.2.1 := by
  unfold ranB spanB at h
  simp only [Bool.and_eq_true, decide_eq_true_eq] at h
  omega
def ovD (a b : T35) : Prop := a.1 = b.1 ∧ a.2.1 = b.2.1 ∧ a.2.2.1 < b.2.2.2.1 ∧ b.2.2.1 < a.2.2.2.1
theorem ovQ_iff {a b : T35} (ha : ranB a = true) (hb : ranB b = true) : ovQ a b = true ↔ ovD a b := by
  have := ran_span ha
  have := ran_span hb
  unfold ovQ ovD
  simp only [Bool.and_eq_true, decide_eq_true_eq]
  omega
theorem ovQ_false {a b : T35} (ha : ranB a = true) (hb : ranB b = true) : ovQ a b = false ↔ ¬ ovD a b := by
  rw [← ovQ_iff ha hb]; simp
def RQ (a b : T35) : Prop := cmpR a b < 0 ∧ (a.1 = b.1 → a.2.1 = b.2.1 → a.2.2.2.1 ≤ b.2.2.1)
def RightR (l : List T35) : Prop := (∀ c ∈ l, ranB c = true) ∧ l.Pairwise RQ
theorem getR {l : List T35} {i : Nat} (h : i < l.length) : l.getD i z56 = l[i] := by rw [List.getD_eq_getElem?_getD, List.getElem?_eq_getElem h]; rfl
theorem RQ_trans {a b c : T35} (ha : ranB a = true) (hb : ranB b = true) (hc : ranB c = true) (h1 : RQ a b) (h2 : RQ b c) : RQ a c := by
  have s1 := ran_span ha
  have s2 := ran_span hb
  have s3 := ran_span hc
  obtain ⟨p1, p2⟩ := h1
  obtain ⟨q1, q2⟩ := h2
  refine ⟨cmpR_trans p1 q1, fun e1 e2 => ?_⟩
  rw [cmpR_lt] at p1 q1
  omega
theorem rightR_iff (l : List T35) : chkQ l l.length 0 = true ↔ RightR l := by
  rw [chkQ_all]
  constructor
  · intro h
    have h' : ∀ q, q < l.length → okQ l q = true := fun q hq => h q (Nat.zero_le _) (by omega)
    have hc : ∀ q (hq : q < l.length), ranB l[q] = true := fun q hq => by
      have := h' q hq
      unfold okQ at this
      simp only [Bool.and_eq_true] at this
      rw [getR hq] at this
      exact this.1
    have hn : ∀ q (hq : q + 1 < l.length), RQ l[q] l[q + 1] := fun q hq => by
      have := h' (q + 1) hq
      unfold okQ at this
      rw [decide_eq_true (Nat.succ_pos q), Nat.add_sub_cancel, getR (by omega : q < l.length), getR hq] at this
      simp only [cond_true, Bool.and_eq_true, decide_eq_true_eq, Bool.not_eq_true'] at this
      have s1 := ran_span (hc q (by omega))
      have s2 := ran_span (hc (q + 1) hq)
      obtain ⟨_, h3, h4⟩ := this
      rw [ovQ_false (hc _ _) (hc _ _)] at h4
      refine ⟨h3, fun e1 e2 => ?_⟩
      rw [cmpR_lt] at h3
      unfold ovD at h4
      omega
    refine ⟨fun c hc' => ?_, ?_⟩
    · obtain ⟨q, hq, rfl⟩ := List.mem_iff_getElem.1 hc'
      exact hc q hq
    · rw [List.pairwise_iff_getElem]
      intro i j hi hj hij
      obtain ⟨d, rfl⟩ : ∃ d, j = i + 1 + d := ⟨j - i - 1, by omega⟩
      clear hij
      induction d with
      | zero => exact hn i hj
      | succ d ih => exact RQ_trans (hc _ _) (hc _ (by omega)) (hc _ _) (ih (by omega)) (hn (i + 1 + d) hj)
  · rintro ⟨h1, h2⟩ q _ hq
    have hq : q < l.length := by omega
    rw [List.pairwise_iff_getElem] at h2
    unfold okQ
    simp only [Bool.and_eq_true]
    refine ⟨by rw [getR hq]; exact h1 _ (List.getElem_mem hq), ?_⟩
    by_cases h0 : 0 < q
    · rw [decide_eq_true h0]
      simp only [cond_true, Bool.and_eq_true, decide_eq_true_eq, Bool.not_eq_true']
      have hq1 : q - 1 < l.length := by omega
      rw [getR hq1, getR hq]
      obtain ⟨a1, a3⟩ := h2 (q - 1) q hq1 hq (by omega)
      refine ⟨a1, ?_⟩
      rw [ovQ_false (h1 _ (List.getElem_mem hq1)) (h1 _ (List.getElem_mem hq))]
      rintro ⟨b1, b2, b3, b4⟩
      have := a3 b1 b2
      omega
    · rw [decide_eq_false h0]; rfl
theorem RightR.sort {l : List T35} (h : RightR l) : ∀ i j, i < j → j < l.length → cmpR (l.getD i z56) (l.getD j z56) < 0 := fun i j hij hj => by
  have := (List.pairwise_iff_getElem.1 h.2) i j (by omega) hj hij
  rw [getR (by omega), getR hj]
  exact this.1
def rightQ (l : List T35) : Bool := chkQ l l.length 0 && decide (l.length ≤ 4096)
theorem rightQ_iff {l : List T35} : rightQ l = true ↔ RightR l ∧ l.length ≤ 4096 := by
  unfold rightQ; rw [Bool.and_eq_true, rightR_iff, decide_eq_true_eq]
theorem RightQ_spec (l : List T35) (k : Nat) (hs : l.length ≤ 1000000000) (hr : ∀ c ∈ l, rngR c) (hk : l.length + 5 < k) : ranges_Right k l = some (rightQ l) := by
  unfold ranges_Right rightQ
  have := RightQ_L0_spec l hs hr l.length 0 k (by omega) hk (by omega)
  rw [Int.natCast_zero] at this
  simp only [this, Option.bind_some]
  cases chkQ l l.length 0 with
  | false => rfl
  | true =>
    simp only [cond_true, Bool.true_and]
    have e : decide (Int.ofNat l.length ≤ 4096) = decide (l.length ≤ 4096) := by
      have : Int.ofNat l.length = (l.length : Int) := rfl
      rw [this]
      by_cases h : l.length ≤ 4096
      · rw [decide_eq_true h, decide_eq_true (by omega)]
      · rw [decide_eq_false h, decide_eq_false (by omega)]
    rw [e]
    cases decide (l.length ≤ 4096) <;> rfl
theorem RightR.nil : RightR [] := ⟨fun c hc => (by cases hc), List.Pairwise.nil⟩
theorem RightR.filter {l : List T35} (h : RightR l) (p : T35 → Bool) : RightR (l.filter p) := ⟨fun c hc => h.1 c (List.mem_filter.1 hc).1, h.2.filter p⟩
/-! ### the place of a range -/
theorem BSR_L0_spec (l : List T35) (t : T35) (n : Int) (hs : l.length ≤ 1000000000) (hsort : ∀ i j, i < j → j < l.length → cmpR (l.getD i z56) (l.getD j z56) < 0) : ∀ (m i j k : Nat), j - i ≤ m → m + 5 < k → i ≤ j → j ≤ l.length → (∀ q, q < i → cmpR (l.getD q z56) t < 0) → (∀ q, j ≤ q → q < l.length → 0 ≤ cmpR (l.getD q z56) t) →
    ∃ r, r ≤ l.length ∧ (∀ q, q < r → cmpR (l.getD q z56) t < 0) ∧ (∀ q, r ≤ q → q < l.length → 0 ≤ cmpR (l.getD q z56) t) ∧ BinarySearchFunc_R_L0 k (l, (), t, n, (i : Int), (j : Int)) = some (.inl (l, (), t, n, (r : Int)))
  | m, i, j, k + 1, hm, hk, hij, hj, h1, h2 => by
    by_cases hlt : i < j
    · have hh : (i + j) / 2 < j ∧ i ≤ (i + j) / 2 := by omega
      have hcmp := CompareR_spec k (l.getD ((i + j) / 2) z56) t (by omega)
      obtain ⟨m', rfl⟩ : ∃ m', m = m' + 1 := ⟨m - 1, by omega⟩
      simp only [BinarySearchFunc_R_L0]
      rw [decide_eq_true (by omega : (i : Int) < (j : Int)), mid_id (by omega), decide_eq_true (Int.natCast_nonneg ((i + j) / 2)), i_lt, decide_eq_true (by omega : (i + j) / 2 < l.length), Int.toNat_natCast]
      simp only [cond_true, hcmp, Option.bind_some, w64_succ (by omega : (i + j) / 2 < 4611686018427387904)]
      by_cases hc : cmpR (l.getD ((i + j) / 2) z56) t < 0
      · rw [decide_eq_true hc]
        exact BSR_L0_spec l t n hs hsort m' ((i + j) / 2 + 1) j k (by omega) (by omega) (by omega) hj (fun q hq => by
          rcases Nat.eq_or_lt_of_le (Nat.lt_succ_iff.1 hq) with rfl | hq
          · exact hc
          · exact cmpR_trans (hsort q _ hq (by omega)) hc) h2
      · rw [decide_eq_false hc]
        refine BSR_L0_spec l t n hs hsort m' i ((i + j) / 2) k (by omega) (by omega) (by omega) (by omega) h1 (fun q hq hql => ?_)
        rcases Nat.eq_or_lt_of_le hq with rfl | hq
        · omega
        · rcases Int.lt_or_le (cmpR (l.getD q z56) t) 0 with h | h
          · exact absurd (cmpR_trans (hsort _ q hq hql) h) hc
          · exact h
    · refine ⟨i, by omega, h1, fun q hq => h2 q (by omega), ?_⟩
      simp only [BinarySearchFunc_R_L0]
      rw [decide_eq_false (by omega)]
      rfl
theorem BSR_spec (l : List T35) (t : T35) (k : Nat) (hs : l.length ≤ 1000000000) (hsort : ∀ i j, i < j → j < l.length → cmpR (l.getD i z56) (l.getD j z56) < 0) (hk : l.length + 6 < k) :
    ∃ r, r ≤ l.length ∧ (∀ q, q < r → cmpR (l.getD q z56) t < 0) ∧ (∀ q, r ≤ q → q < l.length → 0 ≤ cmpR (l.getD q z56) t) ∧ BinarySearchFunc_R k (l, t, ()) = some ((r : Int), decide (r < l.length ∧ cmpR (l.getD r z56) t = 0)) := by
  obtain ⟨r, h1, h2, h3, h4⟩ := BSR_L0_spec l t (Int.ofNat l.length) hs hsort l.length 0 l.length k (by omega) (by omega) (by omega) (Nat.le_refl _) (fun q hq => by omega) (fun q hq hq' => by omega)
  refine ⟨r, h1, h2, h3, ?_⟩
  have h4' : BinarySearchFunc_R_L0 k (l, (), t, Int.ofNat l.length, 0, Int.ofNat l.length) = some (.inl (l, (), t, Int.ofNat l.length, (r : Int))) := h4
  unfold BinarySearchFunc_R
  simp only [h4', Option.bind_some]
  have hcmp := CompareR_spec k (l.getD r z56) t (by omega)
  rw [i_lt]
  by_cases hr : r < l.length
  · rw [decide_eq_true hr, decide_eq_true (Int.natCast_nonneg r), Int.toNat_natCast]
    simp only [cond_true, hcmp, Option.bind_some, hr, true_and]
    by_cases hc : cmpR (l.getD r z56) t = 0
    · rw [decide_eq_true hc]; rfl
    · rw [decide_eq_false hc]; rfl
  · rw [decide_eq_false hr, decide_eq_false (show ¬ (r < l.length ∧ cmpR (l.getD r z56) t = 0) from fun h => hr h.1)]
    rfl
/-! ### what becomes of a table -/
def insR (l : List T35) (r : Nat) (c : T35) : List T35 := l.take r ++ c :: l.drop r
theorem insR_mem {l : List T35} {r : Nat} {c x : T35} : x ∈ insR l r c ↔ x = c ∨ x ∈ l := by
  unfold insR
  rw [List.mem_append, List.mem_cons]
  have : x ∈ l ↔ x ∈ l.take r ∨ x ∈ l.drop r := by rw [← List.mem_append, List.take_append_drop]
  rw [this]
  constructor
  · rintro (h | h | h)
    · exact .inr (.inl h)
    · exact .inl h
    · exact .inr (.inr h)
  · rintro (h | h | h)
    · exact .inr (.inl h)
    · exact .inl h
    · exact .inr (.inr h)
theorem insR_len {l : List T35} {r : Nat} {c : T35} : (insR l r c).length = l.length + 1 := by
  unfold insR
  rw [List.length_append, List.length_cons, List.length_take, List.length_drop]; omega
theorem RightR.ins {l : List T35} (h : RightR l) {r : Nat} {c : T35} (hr : r ≤ l.length) (h1 : ∀ q, q < r → cmpR (l.getD q z56) c < 0) (h2 : ∀ q, r ≤ q → q < l.length → 0 ≤ cmpR (l.getD q z56) c) (hc : ranB c = true) (hov : ∀ x ∈ l, ovQ x c = false) : RightR (insR l r c) := by
  constructor
  · intro x hx
    rcases insR_mem.1 hx with rfl | hx
    · exact hc
    · exact h.1 x hx
  · unfold insR
    have hp := h.2
    rw [← List.take_append_drop r l] at hp
    rw [List.pairwise_append] at hp
    obtain ⟨p1, p2, p3⟩ := hp
    have t1 : ∀ x ∈ l.take r, cmpR x c < 0 := fun x hx => by
      obtain ⟨q, hq, rfl⟩ := List.mem_iff_getElem.1 hx
      have hq' : q < r := by rw [List.length_take] at hq; omega
      have := h1 q hq'
      rw [getR (by omega)] at this
      rw [List.getElem_take]
      exact this
    have t2 : ∀ x ∈ l.drop r, 0 ≤ cmpR x c := fun x hx => by
      obtain ⟨q, hq, rfl⟩ := List.mem_iff_getElem.1 hx
      have hq' : r + q < l.length := by rw [List.length_drop] at hq; omega
      have := h2 (r + q) (by omega) hq'
      rw [getR hq'] at this
      rw [List.getElem_drop]
      exact this
    have sc := ran_span hc
    have o1 : ∀ x ∈ l.take r, RQ x c := fun x hx => by
      have hm := List.mem_of_mem_take hx
      have hlt := t1 x hx
      refine ⟨hlt, fun e1 e2 => ?_⟩
      have hv := hov x hm
      rw [ovQ_false (h.1 x hm) hc] at hv
      unfold ovD at hv
      rw [cmpR_lt] at hlt
      have sx := ran_span (h.1 x hm)
      omega
    have o2 : ∀ x ∈ l.drop r, RQ c x := fun x hx => by
      have hm := List.mem_of_mem_drop hx
      have hge := t2 x hx
      have hv := hov x hm
      rw [ovQ_false (h.1 x hm) hc] at hv
      unfold ovD at hv
      have sx := ran_span (h.1 x hm)
      have hlt : cmpR c x < 0 := by
        rw [cmpR_neg]
        have hne : cmpR x c ≠ 0 := fun e => by
          rw [cmpR_zero] at e
          omega
        omega
      refine ⟨hlt, fun e1 e2 => ?_⟩
      rw [cmpR_lt] at hlt
      omega
    rw [List.pairwise_append, List.pairwise_cons]
    refine ⟨p1, ⟨o2, p2⟩, fun a ha b hb => ?_⟩
    rcases List.mem_cons.1 hb with rfl | hb
    · exact o1 a ha
    · exact p3 a ha b hb
theorem InsertR_one (l : List T35) (c : T35) (r k : Nat) (hs : l.length ≤ 1000000000) (hr : r ≤ l.length) : slices_InsertR k l ((r : Int), [c]) = some (insR l r c) := by
  unfold slices_InsertR insF insR
  rw [decide_eq_true (Int.natCast_nonneg r), decide_eq_true (show (r : Int) ≤ Int.ofNat l.length from by have : Int.ofNat l.length = (l.length : Int) := rfl; omega), decide_eq_true (show (l.length + [c].length) * 40 ≤ 140737488355328 from by simp only [List.length_cons, List.length_nil]; omega)]
  simp
/-- What Add does to a table of ranges that is right. -/
theorem AddR_cases {l : List T35} (h : RightR l) (hl : l.length ≤ 4000) (c : T35) (hc : rngR c) (k : Nat) (hk : l.length + 6 < k) :
    (∃ e, e ≠ 0 ∧ ranges_Add k (l, c) = some (l, e)) ∨ ∃ r, r ≤ l.length ∧ ranges_Add k (l, c) = some (insR l r c, 0) ∧ RightR (insR l r c) ∧ ranB c = true ∧ ∀ x ∈ l, ovQ x c = false := by
  obtain ⟨r, r1, r2, r3, r4⟩ := BSR_spec l c k (by omega) h.sort hk
  have h4 : decide (4096 ≤ Int.ofNat l.length) = false := decide_eq_false (by have : Int.ofNat l.length = (l.length : Int) := rfl; omega)
  unfold ranges_Add
  simp only [CloneR_spec l k (by omega), check_Range_spec k c hc, ovs_spec l c k (by omega) (by omega), r4, InsertR_one l c r k (by omega) r1, Option.bind_some, h4]
  cases hb : ranB c with
  | false => exact .inl ⟨1, by decide, rfl⟩
  | true =>
    cases ho : l.any (fun x => ovQ x c) with
    | true => exact .inl ⟨5, by decide, rfl⟩
    | false =>
      have hov : ∀ x ∈ l, ovQ x c = false := fun x hx => by
        have := List.any_eq_false.1 ho x hx
        simpa using this
      refine .inr ⟨r, r1, ?_, h.ins r1 r2 r3 hb hov, rfl, hov⟩
      cases decide (r < l.length ∧ cmpR (l.getD r z56) c = 0) <;> rfl
/-- What Delete does. -/
theorem DeleteR_cases {l : List T35} (h : RightR l) (hl : l.length ≤ 4000) (c : T35) (k : Nat) (hk : l.length + 6 < k) :
    (∃ e, e ≠ 0 ∧ ranges_Delete k (l, c) = some (l, e)) ∨ ∃ l', ranges_Delete k (l, c) = some (l', 0) ∧ RightR l' ∧ l'.length + 1 = l.length ∧ ∀ x ∈ l', x ∈ l := by
  obtain ⟨r, r1, r2, r3, r4⟩ := BSR_spec l c k (by omega) h.sort hk
  unfold ranges_Delete
  simp only [CloneR_spec l k (by omega), r4, Option.bind_some]
  by_cases hf : r < l.length ∧ cmpR (l.getD r z56) c = 0
  · rw [decide_eq_true hf]
    have hs : (l.take r ++ l.drop (r + 1)).Sublist l := by
      have := List.take_append_drop r l
      conv => rhs; rw [← List.take_append_drop r l]
      refine List.Sublist.append (List.Sublist.refl _) ?_
      have : l.drop (r + 1) = (l.drop r).drop 1 := by rw [List.drop_drop]
      rw [this]
      exact List.drop_sublist 1 _
    have hd : slices_DeleteR k l ((r : Int), w64 ((r : Int) + 1)) = some (l.take r ++ l.drop (r + 1)) := by
      unfold slices_DeleteR delF
      rw [w64_succ (by omega)]
      rw [decide_eq_true (Int.natCast_nonneg r), decide_eq_true (show (r : Int) < ((r + 1 : Nat) : Int) from by omega), decide_eq_true (show ((r + 1 : Nat) : Int) ≤ Int.ofNat l.length from by have : Int.ofNat l.length = (l.length : Int) := rfl; omega)]
      rfl
    refine .inr ⟨l.take r ++ l.drop (r + 1), ?_, ⟨fun x hx => h.1 x (hs.subset hx), h.2.sublist hs⟩, ?_, fun x hx => hs.subset hx⟩
    · simp only [cond_true, hd, Option.bind_some]
    · rw [List.length_append, List.length_take, List.length_drop]; omega
  · rw [decide_eq_false hf]
    exact .inl ⟨6, by decide, rfl⟩
def longR (r : T35) (o : Int) : T35 := (r.1, r.2.1, r.2.2.1, r.2.2.2.1, o)
theorem RightR.set {l : List T35} (h : RightR l) {j : Nat} (hj : j < l.length) {o : Int} (ho : 0 ≤ o ∧ o ≤ 2147483647) : RightR (l.set j (longR l[j] o)) := by
  constructor
  · intro c hc
    rcases List.mem_or_eq_of_mem_set hc with h1 | rfl
    · exact h.1 c h1
    · have := h.1 _ (List.getElem_mem hj)
      unfold ranB longR at *
      simp only [Bool.and_eq_true, decide_eq_true_eq] at this ⊢
      exact ⟨this.1, ho⟩
  · have h2 := List.pairwise_iff_getElem.1 h.2
    rw [List.pairwise_iff_getElem]
    intro p q hp hq hpq
    rw [List.length_set] at hp hq
    have := h2 p q hp hq hpq
    rw [List.getElem_set, List.getElem_set]
    split
    · rename_i e
      subst e
      rw [if_neg (by omega)]
      exact this
    · split
      · rename_i e
        subst e
        exact this
      · exact this
/-- What Change does. -/
theorem ChangeR_cases {l : List T35} (h : RightR l) (hl : l.length ≤ 4000) (c : T35) (k : Nat) (hk : l.length + 6 < k) :
    (∃ e, e ≠ 0 ∧ ranges_Change k (l, c) = some (l, e)) ∨ ∃ j, ∃ hj : j < l.length, ranges_Change k (l, c) = some (l.set j (longR l[j] c.2.2.2.2), 0) ∧ RightR (l.set j (longR l[j] c.2.2.2.2)) := by
  obtain ⟨r, r1, r2, r3, r4⟩ := BSR_spec l c k (by omega) h.sort hk
  unfold ranges_Change
  simp only [CloneR_spec l k (by omega), r4, Option.bind_some]
  by_cases hf : r < l.length ∧ cmpR (l.getD r z56) c = 0
  · rw [decide_eq_true hf]
    by_cases h1 : c.2.2.2.2 < 0
    · rw [decide_eq_true h1]; exact .inl ⟨1, by decide, rfl⟩
    by_cases h2 : 2147483647 < c.2.2.2.2
    · rw [decide_eq_false h1, decide_eq_true h2]; exact .inl ⟨1, by decide, rfl⟩
    have hj := hf.1
    refine .inr ⟨r, hj, ?_, h.set hj (by omega)⟩
    rw [decide_eq_false h1, decide_eq_false h2]
    simp only [cond_true, cond_false, Int.toNat_natCast]
    rw [i_lt, decide_eq_true hj, decide_eq_true (Int.natCast_nonneg r)]
    simp only [cond_true]
    rw [getR hj]
    rfl
  · rw [decide_eq_false hf]
    by_cases h1 : c.2.2.2.2 < 0
    · rw [decide_eq_true h1]; exact .inl ⟨1, by decide, rfl⟩
    by_cases h2 : 2147483647 < c.2.2.2.2
    · rw [decide_eq_false h1, decide_eq_true h2]; exact .inl ⟨1, by decide, rfl⟩
    rw [decide_eq_false h1, decide_eq_false h2]; exact .inl ⟨6, by decide, rfl⟩
end Go.Proofs.YtggikacbelogcaaGreat.Ex
