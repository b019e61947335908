/- Tables of ranges, in plain words: what each function answers. -/
import Derived.Test.YtggikacbelogcaaGreatPd
import Derived.Test.YtggikacbelogcaaGreatF4
namespace Go.Proofs.YtggikacbelogcaaGreat.Ex
open Go
set_option linter.unusedVariables false
set_option linter.unusedSimpArgs false
abbrev z56 : T35 := (0, 0, 0, 0, 0)
def ranB (r : T35) : Bool := wayB r.1 r.2.1 && spanB r.2.2.1 r.2.2.2.1 && decide (0 ≤ r.2.2.2.2 ∧ r.2.2.2.2 ≤ 2147483647)
def rngR (r : T35) : Prop := (-9223372036854775808 ≤ r.2.2.1 ∧ r.2.2.1 ≤ 9223372036854775807) ∧ (-9223372036854775808 ≤ r.2.2.2.1 ∧ r.2.2.2.1 ≤ 9223372036854775807)
theorem check_Range_spec (k : Nat) (r : T35) (h : rngR r) : check_Range k r = some (ranB r) := by
  unfold check_Range ranB
  simp only [check_way_spec, check_span_spec _ _ _ h.2.1 h.2.2 h.1.1 h.1.2, num_In_spec, Option.bind_some]
  cases wayB r.1 r.2.1 <;> cases spanB r.2.2.1 r.2.2.2.1 <;> by_cases h3 : (0 ≤ r.2.2.2.2 ∧ r.2.2.2.2 ≤ 2147483647) <;> simp [h3]
theorem cmp_Or3_spec (k : Nat) (a b c : Int) : cmp_Or_int (k + 4) [a, b, c] = some (if a ≠ 0 then a else if b ≠ 0 then b else c) := by
  unfold cmp_Or_int
  have e1 : w64 (0 + 1) = 1 := by decide
  have e2 : w64 (1 + 1) = 2 := by decide
  have e3 : w64 (2 + 1) = 3 := by decide
  simp only [cmp_Or_int_L0, List.length_cons, List.length_nil, e1, e2, e3]
  by_cases h1 : a = 0 <;> by_cases h2 : b = 0 <;> by_cases h3 : c = 0 <;> simp [h1, h2, h3, e1, e2, e3]
def cmpR (a b : T35) : Int := if cmpI a.1 b.1 ≠ 0 then cmpI a.1 b.1 else if cmpI a.2.1 b.2.1 ≠ 0 then cmpI a.2.1 b.2.1 else cmpI a.2.2.1 b.2.2.1
theorem CompareR_spec (k : Nat) (a b : T35) (h : 5 ≤ k) : ranges_Compare k (a, b) = some (cmpR a b) := by
  obtain ⟨m, rfl⟩ : ∃ m, k = m + 4 := ⟨k - 4, by omega⟩
  unfold ranges_Compare cmpR
  simp only [cmp_Compare_spec, Option.bind_some, cmp_Or3_spec]
def ovQ (a b : T35) : Bool := decide (a.1 = b.1) && decide (a.2.1 = b.2.1) && decide (max a.2.2.1 b.2.2.1 < min a.2.2.2.1 b.2.2.2.1)
theorem ranges_overlap_spec (k : Nat) (a b : T35) : ranges_overlap k (a, b) = some (ovQ a b) := by
  unfold ranges_overlap ovQ
  have hx : ∀ x y : Int, mx x y = max x y := by intro x y; unfold mx; omega
  have hn : ∀ x y : Int, mn x y = min x y := by intro x y; unfold mn; omega
  simp only [hx, hn]
  by_cases h1 : a.1 = b.1 <;> by_cases h2 : a.2.1 = b.2.1 <;> by_cases h3 : max a.2.2.1 b.2.2.1 < min a.2.2.2.1 b.2.2.2.1 <;> simp [h1, h2, h3]
theorem CloneR_spec (l : List T35) (k : Nat) (h : l.length ≤ 1000000000) : slices_Clone_api_Range_api_Range k l = some l := by
  unfold slices_Clone_api_Range_api_Range
  rw [decide_eq_true (by omega)]
  rfl
theorem eq5 (x y : T35) : (x.1 == y.1 && (x.2.1 == y.2.1 && (x.2.2.1 == y.2.2.1 && (x.2.2.2.1 == y.2.2.2.1 && x.2.2.2.2 == y.2.2.2.2)))) = decide (x = y) := by
  obtain ⟨a, b, c, d, e⟩ := x
  obtain ⟨a', b', c', d', e'⟩ := y
  rw [Bool.eq_iff_iff]
  simp
theorem EqualR_L0_spec (a b : List T35) (hs : a.length < 4611686018427387904) (hl : a.length = b.length) : ∀ (n i k : Nat), a.length - i = n → n < k → slices_Equal_api_Range_api_Range_L0 k (a, b, Int.ofNat a.length, (i : Int)) = some (sameI a b i)
  | 0, i, k + 1, hn, hk => by
    rw [sameI_end (by omega) hl]
    simp only [slices_Equal_api_Range_api_Range_L0]
    rw [i_lt, decide_eq_false (by omega)]
    rfl
  | n + 1, i, k + 1, hn, hk => by
    have hi : i < a.length := by omega
    rw [sameI_step (0, 0, 0, 0, 0) hi hl]
    simp only [slices_Equal_api_Range_api_Range_L0, eq5]
    rw [i_lt, decide_eq_true hi, decide_eq_true (Int.natCast_nonneg i), i_lt, decide_eq_true (hl ▸ hi : i < b.length)]
    simp only [cond_true, Int.toNat_natCast, w64_succ (by omega : i < 4611686018427387904), EqualR_L0_spec a b hs hl n (i + 1) k (by omega) (by omega)]
    by_cases h : a.getD i (0, 0, 0, 0, 0) = b.getD i (0, 0, 0, 0, 0)
    · rw [if_pos h, decide_eq_true h]; rfl
    · rw [if_neg h, decide_eq_false h]; rfl
theorem SameR_spec (a b : List T35) (k : Nat) (hs : a.length ≤ 1000000000) (hk : a.length < k) : ranges_Same k (a, b) = some (decide (a = b)) := by
  have he : slices_Equal_api_Range_api_Range k (a, b) = some (decide (a = b)) := by
    unfold slices_Equal_api_Range_api_Range
    dsimp only
    by_cases hl : a.length = b.length
    · have := EqualR_L0_spec a b (by omega) hl a.length 0 k (by omega) hk
      rw [Int.natCast_zero] at this
      rw [decide_eq_true (by rw [hl] : Int.ofNat a.length = Int.ofNat b.length)]
      simp only [this, Bool.not_true, cond_false, Option.bind_some]
      unfold sameI
      by_cases h : a = b <;> simp [h]
    · have : ¬ a = b := fun h => hl (by rw [h])
      have h' : ¬ (Int.ofNat a.length = Int.ofNat b.length) := fun h => hl (Int.ofNat.inj h)
      rw [decide_eq_false h', decide_eq_false this]
      rfl
  unfold ranges_Same
  simp only [he, Option.bind_some]
  cases decide (a = b) <;> rfl
/-! ### places in a row of any kind -/
def firstA {α : Type} (p : α → Bool) (s : List α) (i : Nat) : Unit ⊕ Int := match (s.drop i).findIdx? p with
  | none => .inl ()
  | some j => .inr ((i + j : Nat) : Int)
theorem firstA_end {α : Type} {p : α → Bool} {s : List α} {i : Nat} (h : s.length ≤ i) : firstA p s i = .inl () := by
  unfold firstA; rw [List.drop_eq_nil_of_le h]; rfl
theorem firstA_step {α : Type} {p : α → Bool} {s : List α} {i : Nat} (d : α) (h : i < s.length) : firstA p s i = bif p (s.getD i d) then .inr (i : Int) else firstA p s (i + 1) := by
  unfold firstA
  rw [getD_drop (d := d) h, List.findIdx?_cons]
  generalize s.getD i d = x
  cases hp : p x with
  | true => simp
  | false =>
    simp only [cond_false]
    cases (s.drop (i + 1)).findIdx? p with
    | none => rfl
    | some j => simp; omega
def findA {α : Type} (p : α → Bool) (s : List α) : Int := match s.findIdx? p with
  | none => -1
  | some j => (j : Int)
theorem findA_first {α : Type} (p : α → Bool) (s : List α) : (match firstA p s 0 with | .inl _ => some (-1) | .inr r => some r) = some (findA p s) := by
  unfold firstA findA
  rw [List.drop_zero]
  cases s.findIdx? p <;> simp
theorem findA_cases {α : Type} (p : α → Bool) (s : List α) : (findA p s = -1 ∧ ∀ x ∈ s, p x = false) ∨ ∃ j : Nat, findA p s = (j : Int) ∧ ∃ h : j < s.length, p s[j] = true ∧ ∀ q (hq : q < j), p (s[q]'(by omega)) = false := by
  unfold findA
  cases h : s.findIdx? p with
  | none => exact .inl ⟨rfl, List.findIdx?_eq_none_iff.1 h⟩
  | some j =>
    obtain ⟨hj, hp, hlt⟩ := List.findIdx?_eq_some_iff_getElem.1 h
    exact .inr ⟨j, rfl, hj, hp, fun q hq => by simpa using hlt q hq⟩
theorem findA_any {α : Type} (p : α → Bool) (s : List α) : decide (0 ≤ findA p s) = s.any p := by
  rw [Bool.eq_iff_iff, List.any_eq_true]
  rcases findA_cases p s with ⟨h1, h2⟩ | ⟨j, h1, hj, hp, _⟩
  · rw [h1]
    constructor
    · intro h; simp at h
    · rintro ⟨x, hx, hp⟩; rw [h2 x hx] at hp; cases hp
  · rw [h1]
    exact ⟨fun _ => ⟨s[j], List.getElem_mem hj, hp⟩, fun _ => decide_eq_true (Int.natCast_nonneg j)⟩
theorem r1_L0_spec (s : List T33) (f : T25) (hs : s.length ≤ 1000000000) : ∀ (n i k : Nat), s.length - i = n → n < k → IndexFunc_r1_L0 k (s, f, Int.ofNat s.length, (i : Int)) = some (firstA (fun c => decide (c.2.2.2.2.1 ≤ f.2.2.1)) s i)
  | 0, i, k + 1, hn, hk => by
    rw [firstA_end (by omega)]
    simp only [IndexFunc_r1_L0]
    rw [i_lt, decide_eq_false (by omega)]
    rfl
  | n + 1, i, k + 1, hn, hk => by
    have hi : i < s.length := by omega
    rw [firstA_step (0, 0, 0, 0, 0, 0) hi]
    simp only [IndexFunc_r1_L0]
    rw [i_lt, decide_eq_true hi, decide_eq_true (Int.natCast_nonneg i)]
    simp only [cond_true, plan_Right_1, Int.toNat_natCast, w64_succ (by omega : i < 4611686018427387904), r1_L0_spec s f hs n (i + 1) k (by omega) (by omega)]
    cases decide ((s.getD i (0, 0, 0, 0, 0, 0)).2.2.2.2.1 ≤ f.2.2.1) <;> rfl
theorem r1_spec (s : List T33) (f : T25) (k : Nat) (hs : s.length ≤ 1000000000) (hk : s.length < k) : ContainsFunc_r1 k (s, f) = some (s.any fun c => decide (c.2.2.2.2.1 ≤ f.2.2.1)) := by
  have h1 : IndexFunc_r1 k (s, f) = some (findA (fun c => decide (c.2.2.2.2.1 ≤ f.2.2.1)) s) := by
    unfold IndexFunc_r1
    have := r1_L0_spec s f hs s.length 0 k (by omega) hk
    rw [Int.natCast_zero] at this
    simp only [this, Option.bind_some]
    exact findA_first _ _
  unfold ContainsFunc_r1
  simp only [h1, Option.bind_some, findA_any]
  cases s.any (fun c => decide (c.2.2.2.2.1 ≤ f.2.2.1)) <;> rfl
theorem r2_L0_spec (s : List T35) (f : T25) (hs : s.length ≤ 1000000000) : ∀ (n i k : Nat), s.length - i = n → n < k → IndexFuncR_r2_L0 k (s, f, Int.ofNat s.length, (i : Int)) = some (firstA (fun c => decide (c.2.2.2.1 ≤ f.2.2.1)) s i)
  | 0, i, k + 1, hn, hk => by
    rw [firstA_end (by omega)]
    simp only [IndexFuncR_r2_L0]
    rw [i_lt, decide_eq_false (by omega)]
    rfl
  | n + 1, i, k + 1, hn, hk => by
    have hi : i < s.length := by omega
    rw [firstA_step (0, 0, 0, 0, 0) hi]
    simp only [IndexFuncR_r2_L0]
    rw [i_lt, decide_eq_true hi, decide_eq_true (Int.natCast_nonneg i)]
    simp only [cond_true, plan_Right_2, Int.toNat_natCast, w64_succ (by omega : i < 4611686018427387904), r2_L0_spec s f hs n (i + 1) k (by omega) (by omega)]
    cases decide ((s.getD i (0, 0, 0, 0, 0)).2.2.2.1 ≤ f.2.2.1) <;> rfl
theorem r2_spec (s : List T35) (f : T25) (k : Nat) (hs : s.length ≤ 1000000000) (hk : s.length < k) : ContainsFuncR_r2 k (s, f) = some (s.any fun c => decide (c.2.2.2.1 ≤ f.2.2.1)) := by
  have h1 : IndexFuncR_r2 k (s, f) = some (findA (fun c => decide (c.2.2.2.1 ≤ f.2.2.1)) s) := by
    unfold IndexFuncR_r2
    have := r2_L0_spec s f hs s.length 0 k (by omega) hk
    rw [Int.natCast_zero] at this
    simp only [this, Option.bind_some]
    exact findA_first _ _
  unfold ContainsFuncR_r2
  simp only [h1, Option.bind_some, findA_any]
  cases s.any (fun c => decide (c.2.2.2.1 ≤ f.2.2.1)) <;> rfl
theorem Add1R_spec (k : Nat) (x c : T35) : ranges_Add_1 k (x, c) = some (ovQ x c) := by
  unfold ranges_Add_1
  simp only [ranges_overlap_spec, Option.bind_some]
  cases ovQ x c <;> rfl
theorem ovR_L0_spec (s : List T35) (f : T35) (hs : s.length ≤ 1000000000) : ∀ (n i k : Nat), s.length - i = n → n < k → IndexFuncR_ov_L0 k (s, f, Int.ofNat s.length, (i : Int)) = some (firstA (fun c => ovQ c f) s i)
  | 0, i, k + 1, hn, hk => by
    rw [firstA_end (by omega)]
    simp only [IndexFuncR_ov_L0]
    rw [i_lt, decide_eq_false (by omega)]
    rfl
  | n + 1, i, k + 1, hn, hk => by
    have hi : i < s.length := by omega
    rw [firstA_step (0, 0, 0, 0, 0) hi]
    simp only [IndexFuncR_ov_L0]
    rw [i_lt, decide_eq_true hi, decide_eq_true (Int.natCast_nonneg i)]
    simp only [cond_true, Add1R_spec, Option.bind_some, Int.toNat_natCast, w64_succ (by omega : i < 4611686018427387904), ovR_L0_spec s f hs n (i + 1) k (by omega) (by omega)]
    cases ovQ (s.getD i (0, 0, 0, 0, 0)) f <;> rfl
theorem ovs_spec (s : List T35) (f : T35) (k : Nat) (hs : s.length ≤ 1000000000) (hk : s.length < k) : ContainsFuncR_ov k (s, f) = some (s.any fun c => ovQ c f) := by
  have h1 : IndexFuncR_ov k (s, f) = some (findA (fun c => ovQ c f) s) := by
    unfold IndexFuncR_ov
    have := ovR_L0_spec s f hs s.length 0 k (by omega) hk
    rw [Int.natCast_zero] at this
    simp only [this, Option.bind_some]
    exact findA_first _ _
  unfold ContainsFuncR_ov
  simp only [h1, Option.bind_some, findA_any]
  cases s.any (fun c => ovQ c f) <;> rfl
theorem exR_L0_spec (s : List T35) (f : Int) (hs : s.length ≤ 1000000000) : ∀ (n i k : Nat), s.length - i = n → n < k → IndexFuncR_ex_L0 k (s, f, Int.ofNat s.length, (i : Int)) = some (firstA (fun c => decide (c.2.2.2.1 ≤ f)) s i)
  | 0, i, k + 1, hn, hk => by
    rw [firstA_end (by omega)]
    simp only [IndexFuncR_ex_L0]
    rw [i_lt, decide_eq_false (by omega)]
    rfl
  | n + 1, i, k + 1, hn, hk => by
    have hi : i < s.length := by omega
    rw [firstA_step (0, 0, 0, 0, 0) hi]
    simp only [IndexFuncR_ex_L0]
    rw [i_lt, decide_eq_true hi, decide_eq_true (Int.natCast_nonneg i)]
    simp only [cond_true, ranges_Expire_1, Int.toNat_natCast, w64_succ (by omega : i < 4611686018427387904), exR_L0_spec s f hs n (i + 1) k (by omega) (by omega)]
    cases decide ((s.getD i (0, 0, 0, 0, 0)).2.2.2.1 ≤ f) <;> rfl
theorem exR_spec (s : List T35) (f : Int) (k : Nat) (hs : s.length ≤ 1000000000) (hk : s.length < k) : IndexFuncR_ex k (s, f) = some (findA (fun c => decide (c.2.2.2.1 ≤ f)) s) := by
  unfold IndexFuncR_ex
  have := exR_L0_spec s f hs s.length 0 k (by omega) hk
  rw [Int.natCast_zero] at this
  simp only [this, Option.bind_some]
  exact findA_first _ _
/-! ### what is left -/
def keepR (now : Int) (r : T35) : Bool := !decide (r.2.2.2.1 ≤ now)
theorem DelFuncR_L0_spec (s : List T35) (f : Int) (hs : s.length ≤ 1000000000) : ∀ (n i j k : Nat) (t : List T35), t.length = s.length → s.length - j = n → n < k → i ≤ j → j ≤ s.length → t.take i = (s.take j).filter (keepR f) → t.drop j = s.drop j →
    ∃ (t' : List T35) (i' : Nat), DeleteFuncR_ex_L0 k (t, f, (i : Int), (j : Int)) = some (.inl (t', (i' : Int))) ∧ t'.length = s.length ∧ i' ≤ s.length ∧ t'.take i' = s.filter (keepR f)
  | 0, i, j, k + 1, t, hl, hn, hk, hij, hj, h1, h2 => by
    refine ⟨t, i, ?_, hl, by omega, ?_⟩
    · simp only [DeleteFuncR_ex_L0]
      rw [i_lt, decide_eq_false (by omega)]
      rfl
    · rw [h1, List.take_of_length_le (by omega)]
  | n + 1, i, j, k + 1, t, hl, hn, hk, hij, hj, h1, h2 => by
    have hjt : j < t.length := by omega
    have hjs : j < s.length := by omega
    have hx : t.getD j z56 = s.getD j z56 := by
      have h3 := h2
      rw [getD_drop (d := z56) hjt, getD_drop (d := z56) hjs, List.cons.injEq] at h3
      exact h3.1
    have hd : t.drop (j + 1) = s.drop (j + 1) := by
      have h3 := h2
      rw [getD_drop (d := z56) hjt, getD_drop (d := z56) hjs, List.cons.injEq] at h3
      exact h3.2
    have hf := filter_take_succ (p := keepR f) z56 hjs
    simp only [DeleteFuncR_ex_L0]
    rw [i_lt, decide_eq_true hjt, decide_eq_true (Int.natCast_nonneg j)]
    simp only [cond_true, ranges_Expire_1, Int.toNat_natCast, hx, w64_succ (by omega : j < 4611686018427387904), w64_succ (by omega : i < 4611686018427387904)]
    rw [i_lt, decide_eq_true (by omega : i < t.length), decide_eq_true (Int.natCast_nonneg i)]
    generalize hxx : s.getD j z56 = x at *
    by_cases h : x.2.2.2.1 ≤ f
    · rw [decide_eq_true h]
      refine DelFuncR_L0_spec s f hs n i (j + 1) k t hl (by omega) (by omega) (by omega) (by omega) ?_ hd
      rw [hf, h1]
      simp [keepR, h]
    · rw [decide_eq_false h]
      simp only [cond_true, cond_false, Option.bind_some]
      refine DelFuncR_L0_spec s f hs n (i + 1) (j + 1) k (t.set i x) (by simp [hl]) (by omega) (by omega) (by omega) (by omega) ?_ ?_
      · rw [take_set_self (by omega), hf, h1]
        simp [keepR, h]
      · rw [List.drop_set_of_lt (by omega)]
        exact hd
theorem DelFuncR_spec (s : List T35) (f : Int) (k : Nat) (hs : s.length ≤ 1000000000) (hk : s.length < k) : DeleteFuncR_ex k s f = some (s.filter (keepR f)) := by
  unfold DeleteFuncR_ex
  simp only [exR_spec s f k hs hk, Option.bind_some]
  rcases findA_cases (fun c : T35 => decide (c.2.2.2.1 ≤ f)) s with ⟨h1, h2⟩ | ⟨j, h1, hj, hp, hlt⟩
  · rw [h1]
    have : s.filter (keepR f) = s := List.filter_eq_self.2 (fun x hx => by have := h2 x hx; unfold keepR; rw [this]; rfl)
    rw [this]
    rfl
  · rw [h1, decide_eq_false (by omega)]
    simp only [cond_false, w64_succ (by omega : j < 4611686018427387904)]
    have hpre : (s.take j).filter (keepR f) = s.take j := List.filter_eq_self.2 (fun x hx => by
      obtain ⟨q, hq, rfl⟩ := List.mem_iff_getElem.1 hx
      have hq' : q < j := by rw [List.length_take] at hq; omega
      have := hlt q hq'
      simp only [List.getElem_take, keepR]
      rw [this]; rfl)
    obtain ⟨t', i', e1, e2, e3, e4⟩ := DelFuncR_L0_spec s f hs (s.length - (j + 1)) j (j + 1) k s rfl rfl (by omega) (by omega) (by omega) (by
      rw [filter_take_succ (p := keepR f) z56 hj, hpre, List.getD_eq_getElem?_getD, List.getElem?_eq_getElem hj]
      have hkp : keepR f s[j] = false := by unfold keepR; rw [hp]; rfl
      simp [hkp]) rfl
    rw [e1]
    have hcl : (clearL t' i' z56).length = t'.length := by
      unfold clearL
      rw [List.length_append, List.length_take, List.length_replicate]; omega
    have htk : (clearL t' i' z56).take i' = t'.take i' := by
      unfold clearL
      rw [List.take_append_of_le_length (by rw [List.length_take]; omega), List.take_take, Nat.min_self]
    have hle : decide ((i' : Int) ≤ Int.ofNat t'.length) = true := decide_eq_true (by rw [e2]; exact Int.ofNat_le.2 e3)
    simp only [Option.bind_some, Int.toNat_natCast, decide_eq_true (Int.natCast_nonneg i'), hle, hcl, cond_true, htk, e4]
def leftR (now : Int) (l : List T35) : List T35 := l.filter fun c => decide (now < c.2.2.2.1)
theorem ExpireR_spec (l : List T35) (now : Int) (k : Nat) (hs : l.length ≤ 1000000000) (hk : l.length < k) : ranges_Expire k (l, now) = some (leftR now l) := by
  unfold ranges_Expire
  simp only [CloneR_spec l k hs, DelFuncR_spec l now k hs hk, Option.bind_some]
  have : keepR now = fun c : T35 => decide (now < c.2.2.2.1) := by
    funext c
    unfold keepR
    rw [Bool.eq_iff_iff]
    simp
  rw [this]
  rfl
end Go.Proofs.YtggikacbelogcaaGreat.Ex
