import Derived.Test.YtggikacbelogcaaGreatPc
namespace Go.Proofs.YtggikacbelogcaaGreat.Ex
open Go
set_option linter.unusedVariables false
theorem mid_id {i j : Nat} (h : i + j < 4611686018427387904) : w64 (Int.fdiv (IntKind.wrap IntKind.u64 (w64 ((i : Int) + (j : Int)))) (2 ^ min (Int.toNat 1) 64)) = (((i + j) / 2 : Nat) : Int) := by
  have e1 : w64 ((i : Int) + (j : Int)) = ((i + j : Nat) : Int) := by rw [w64_id (by omega) (by omega)]; omega
  have e2 : IntKind.wrap IntKind.u64 ((i + j : Nat) : Int) = ((i + j : Nat) : Int) := by
    rw [IntKind.wrap_u64]; omega
  have e3 : (2 : Int) ^ min (Int.toNat 1) 64 = 2 := by decide
  rw [e1, e2, e3, Int.fdiv_eq_ediv_of_nonneg _ (by omega)]
  rw [w64_id (by omega) (by omega)]
  omega
theorem BS_L0_spec (l : List T33) (t : T33) (n : Int) (hs : l.length ≤ 1000000000) (hsort : ∀ i j, i < j → j < l.length → cmpC (l.getD i z28) (l.getD j z28) < 0) : ∀ (m i j k : Nat), j - i ≤ m → m + 5 < k → i ≤ j → j ≤ l.length → (∀ q, q < i → cmpC (l.getD q z28) t < 0) → (∀ q, j ≤ q → q < l.length → 0 ≤ cmpC (l.getD q z28) t) →
    ∃ r, r ≤ l.length ∧ (∀ q, q < r → cmpC (l.getD q z28) t < 0) ∧ (∀ q, r ≤ q → q < l.length → 0 ≤ cmpC (l.getD q z28) t) ∧ BinarySearchFunc_C_L0 k (l, (), t, n, (i : Int), (j : Int)) = some (.inl (l, (), t, n, (r : Int)))
  | m, i, j, k + 1, hm, hk, hij, hj, h1, h2 => by
    by_cases hlt : i < j
    · have hh : (i + j) / 2 < j ∧ i ≤ (i + j) / 2 := by omega
      have hcmp := Compare_spec k (l.getD ((i + j) / 2) z28) t (by omega)
      obtain ⟨m', rfl⟩ : ∃ m', m = m' + 1 := ⟨m - 1, by omega⟩
      simp only [BinarySearchFunc_C_L0]
      rw [decide_eq_true (by omega : (i : Int) < (j : Int)), mid_id (by omega), decide_eq_true (Int.natCast_nonneg ((i + j) / 2)), i_lt, decide_eq_true (by omega : (i + j) / 2 < l.length), Int.toNat_natCast]
      simp only [cond_true, hcmp, Option.bind_some, w64_succ (by omega : (i + j) / 2 < 4611686018427387904)]
      by_cases hc : cmpC (l.getD ((i + j) / 2) z28) t < 0
      · rw [decide_eq_true hc]
        exact BS_L0_spec l t n hs hsort m' ((i + j) / 2 + 1) j k (by omega) (by omega) (by omega) hj (fun q hq => by
          rcases Nat.eq_or_lt_of_le (Nat.lt_succ_iff.1 hq) with rfl | hq
          · exact hc
          · exact cmp_trans (hsort q _ hq (by omega)) hc) h2
      · rw [decide_eq_false hc]
        refine BS_L0_spec l t n hs hsort m' i ((i + j) / 2) k (by omega) (by omega) (by omega) (by omega) h1 (fun q hq hql => ?_)
        rcases Nat.eq_or_lt_of_le hq with rfl | hq
        · omega
        · rcases Int.lt_or_le (cmpC (l.getD q z28) t) 0 with h | h
          · exact absurd (cmp_trans (hsort _ q hq hql) h) hc
          · exact h
    · refine ⟨i, by omega, h1, fun q hq => h2 q (by omega), ?_⟩
      simp only [BinarySearchFunc_C_L0]
      rw [decide_eq_false (by omega)]
      rfl
theorem BS_spec (l : List T33) (t : T33) (k : Nat) (hs : l.length ≤ 1000000000) (hsort : ∀ i j, i < j → j < l.length → cmpC (l.getD i z28) (l.getD j z28) < 0) (hk : l.length + 6 < k) :
    ∃ r, r ≤ l.length ∧ (∀ q, q < r → cmpC (l.getD q z28) t < 0) ∧ (∀ q, r ≤ q → q < l.length → 0 ≤ cmpC (l.getD q z28) t) ∧ BinarySearchFunc_C k (l, t, ()) = some ((r : Int), decide (r < l.length ∧ cmpC (l.getD r z28) t = 0)) := by
  obtain ⟨r, h1, h2, h3, h4⟩ := BS_L0_spec l t (Int.ofNat l.length) hs hsort l.length 0 l.length k (by omega) (by omega) (by omega) (Nat.le_refl _) (fun q hq => by omega) (fun q hq hq' => by omega)
  refine ⟨r, h1, h2, h3, ?_⟩
  have h4' : BinarySearchFunc_C_L0 k (l, (), t, Int.ofNat l.length, 0, Int.ofNat l.length) = some (.inl (l, (), t, Int.ofNat l.length, (r : Int))) := h4
  unfold BinarySearchFunc_C
  simp only [h4', Option.bind_some]
  have hcmp := Compare_spec k (l.getD r z28) t (by omega)
  rw [i_lt]
  by_cases hr : r < l.length
  · rw [decide_eq_true hr, decide_eq_true (Int.natCast_nonneg r), Int.toNat_natCast]
    simp only [cond_true, hcmp, Option.bind_some, hr, true_and]
    by_cases hc : cmpC (l.getD r z28) t = 0
    · rw [decide_eq_true hc]; rfl
    · rw [decide_eq_false hc]; rfl
  · rw [decide_eq_false hr, decide_eq_false (show ¬ (r < l.length ∧ cmpC (l.getD r z28) t = 0) from fun h => hr h.1)]
    rfl
theorem drop_any {p : T33 → Bool} {s : List T33} {i : Nat} (d : T33) (h : i < s.length) : (s.drop i).any p = (p (s.getD i d) || (s.drop (i + 1)).any p) := by
  rw [getD_drop (d := d) h, List.any_cons]
theorem ref06_Add_L0_spec (l : List T33) (c : T33) (r : Nat) (hs : l.length ≤ 1000000000) (hr : r ≤ l.length) (h1 : ∀ q, q < r → lessC (l.getD q z28) c = true) (h2 : ∀ q, r ≤ q → q < l.length → lessC (l.getD q z28) c = false) : ∀ (n i k : Nat), l.length - i = n → n < k → i ≤ l.length → feluccaref06_Add_L0 k (l, c, ((min i r : Nat) : Int), (i : Int)) = some (bif (l.drop i).any (fun x => ovR x c) then .inr (l, 5) else .inl (l, c, (r : Int)))
  | 0, i, k + 1, hn, hk, hi => by
    rw [List.drop_eq_nil_of_le (by omega), Nat.min_eq_right (by omega)]
    simp only [feluccaref06_Add_L0]
    rw [i_lt, decide_eq_false (by omega)]
    rfl
  | n + 1, i, k + 1, hn, hk, _ => by
    have hi : i < l.length := by omega
    have ih := ref06_Add_L0_spec l c r hs hr h1 h2 n (i + 1) k (by omega) (by omega) (by omega)
    rw [drop_any z28 hi]
    simp only [feluccaref06_Add_L0]
    rw [i_lt, decide_eq_true hi, decide_eq_true (Int.natCast_nonneg i), Int.toNat_natCast]
    simp only [cond_true, ref06_overlap_spec, Option.bind_some, less_spec, ref06_Copy_spec l k hs, w64_succ (by omega : i < 4611686018427387904)]
    cases ovR (l.getD i z28) c with
    | true => rfl
    | false =>
      simp only [cond_false, Bool.false_or]
      rw [← ih]
      by_cases hq : i < r
      · rw [h1 i hq, Nat.min_eq_left (by omega : i + 1 ≤ r)]; rfl
      · rw [h2 i (by omega) hi, Nat.min_eq_right (by omega : r ≤ i), Nat.min_eq_right (by omega : r ≤ i + 1)]; rfl
/-- A row with a contact more, at place r. -/
def insAt (l : List T33) (r : Nat) (c : T33) : List T33 := l.take r ++ c :: l.drop r
theorem ref06_Add_spec (l : List T33) (c : T33) (r k : Nat) (hs : l.length ≤ 1000000000) (hr : r ≤ l.length) (h1 : ∀ q, q < r → lessC (l.getD q z28) c = true) (h2 : ∀ q, r ≤ q → q < l.length → lessC (l.getD q z28) c = false) (hk : l.length < k) :
    feluccaref06_Add k (l, c) = some (if conB c = false then (l, 1) else if 4096 ≤ l.length then (l, 3) else if (findC l c.1).2 = true then (l, 4) else if l.any (fun x => ovR x c) = true then (l, 5) else (insAt l r c, 0)) := by
  unfold feluccaref06_Add
  have h3 := ref06_Add_L0_spec l c r hs hr h1 h2 l.length 0 k (by omega) hk (by omega)
  rw [Nat.zero_min, Int.natCast_zero, List.drop_zero] at h3
  simp only [ref03_Contact_spec, Option.bind_some, ref06_Copy_spec l k hs, ref06_Find_spec l c.1 k (by omega) hk, h3]
  cases conB c with
  | false => rfl
  | true =>
    simp only [cond_true]
    rw [if_neg (by simp)]
    by_cases h4 : 4096 ≤ l.length
    · rw [if_pos h4, decide_eq_true (show (4096 : Int) ≤ Int.ofNat l.length from by have : Int.ofNat l.length = (l.length : Int) := rfl; omega)]; rfl
    · rw [if_neg h4, decide_eq_false (show ¬ (4096 : Int) ≤ Int.ofNat l.length from by have : Int.ofNat l.length = (l.length : Int) := rfl; omega)]
      simp only [cond_false]
      cases (findC l c.1).2 with
      | true => rfl
      | false =>
        simp only [cond_false]
        rw [if_neg (by simp)]
        cases l.any (fun x => ovR x c) with
        | true => rfl
        | false =>
          simp only [cond_false, Option.bind_some, Int.toNat_natCast]
          rw [if_neg (by simp), decide_eq_true (Int.natCast_nonneg r), decide_eq_true (show (r : Int) ≤ Int.ofNat l.length from by have : Int.ofNat l.length = (l.length : Int) := rfl; omega)]
          have ht : (l.take r).length = r := by rw [List.length_take]; omega
          simp only [cond_true, ref06_Copy_spec (l.take r) k (by omega), Option.bind_some]
          have e1 : decide ((List.length (l.take r) + List.length [c]) * 48 ≤ 140737488355328) = true := decide_eq_true (by simp only [List.length_cons, List.length_nil]; omega)
          have e2 : decide ((List.length (l.take r ++ [c]) + List.length (l.drop r)) * 48 ≤ 140737488355328) = true := decide_eq_true (by simp only [List.length_append, List.length_cons, List.length_nil, List.length_drop]; omega)
          rw [e1, e2]
          simp [insAt]
theorem Add1_spec (k : Nat) (x c : T33) : contacts_Add_1 k (x, c) = some (ovB x c) := by
  unfold contacts_Add_1
  simp only [contacts_overlap_spec, Option.bind_some]
  cases ovB x c <;> rfl
theorem IndexFunc_ov_L0_spec (s : List T33) (f : T33) (hs : s.length < 4611686018427387904) : ∀ (n i k : Nat), s.length - i = n → n < k → IndexFunc_ov_L0 k (s, f, Int.ofNat s.length, (i : Int)) = some (firstI (fun c => ovB c f) s i)
  | 0, i, k + 1, hn, hk => by
    rw [firstI_end (by omega)]
    simp only [IndexFunc_ov_L0]
    rw [i_lt, decide_eq_false (by omega)]
    rfl
  | n + 1, i, k + 1, hn, hk => by
    have hi : i < s.length := by omega
    rw [firstI_step (d := (0, 0, 0, 0, 0, 0)) hi]
    simp only [IndexFunc_ov_L0]
    rw [i_lt, decide_eq_true hi, decide_eq_true (Int.natCast_nonneg i)]
    simp only [cond_true, Add1_spec, Option.bind_some, Int.toNat_natCast, w64_succ (by omega : i < 4611686018427387904), IndexFunc_ov_L0_spec s f hs n (i + 1) k (by omega) (by omega)]
    generalize s.getD i (0, 0, 0, 0, 0, 0) = x
    cases ovB x f <;> simp
theorem IndexFunc_ov_spec (s : List T33) (f : T33) (k : Nat) (hs : s.length < 4611686018427387904) (hk : s.length < k) : IndexFunc_ov k (s, f) = some (findIx (fun c => ovB c f) s) := by
  unfold IndexFunc_ov findIx
  have := IndexFunc_ov_L0_spec s f hs s.length 0 k (by omega) hk
  rw [Int.natCast_zero] at this
  simp only [this, Option.bind_some]
  unfold firstI
  rw [List.drop_zero]
  cases s.findIdx? (fun c => ovB c f) <;> simp
theorem findIx_any (p : T33 → Bool) (s : List T33) : decide (0 ≤ findIx p s) = s.any p := by
  rw [Bool.eq_iff_iff, List.any_eq_true]
  rcases findIx_cases p s with ⟨h1, h2⟩ | ⟨j, h1, hj, hp, _⟩
  · rw [h1]
    constructor
    · intro h; simp at h
    · rintro ⟨x, hx, hp⟩; rw [h2 x hx] at hp; cases hp
  · rw [h1]
    exact ⟨fun _ => ⟨s[j], List.getElem_mem hj, hp⟩, fun _ => decide_eq_true (Int.natCast_nonneg j)⟩
theorem ContainsFunc_of_spec (s : List T33) (f : Int) (k : Nat) (hs : s.length < 4611686018427387904) (hk : s.length < k) : ContainsFunc_of k (s, f) = some (s.any fun c => decide (c.1 = f)) := by
  unfold ContainsFunc_of
  simp only [IndexFunc_of_spec s f k hs hk, Option.bind_some, findIx_any]
  cases s.any (fun c => decide (c.1 = f)) <;> rfl
theorem ContainsFunc_ov_spec (s : List T33) (f : T33) (k : Nat) (hs : s.length < 4611686018427387904) (hk : s.length < k) : ContainsFunc_ov k (s, f) = some (s.any fun c => ovB c f) := by
  unfold ContainsFunc_ov
  simp only [IndexFunc_ov_spec s f k hs hk, Option.bind_some, findIx_any]
  cases s.any (fun c => ovB c f) <;> rfl
end Go.Proofs.YtggikacbelogcaaGreat.Ex
