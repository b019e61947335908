/- The document's Add, Delete, Change and Expire of ranges: the program's. -/
import Derived.Test.YtggikacbelogcaaGreatQf
namespace Go.Proofs.YtggikacbelogcaaGreat.Ex
open Go
set_option linter.unusedVariables false
set_option linter.unusedSimpArgs false
def addQ (l : List T35) (c : T35) (r : Nat) : List T35 × Int := if ranB c = false then (l, 1) else if 4096 ≤ l.length then (l, 3) else if (l.any fun x => ovQ x c) = true then (l, 5) else (insR l r c, 0)
theorem AddQ_spec (l : List T35) (c : T35) (k : Nat) (hs : l.length ≤ 1000000) (hc : rngR c) (hsort : ∀ i j, i < j → j < l.length → cmpR (l.getD i z56) (l.getD j z56) < 0) (hk : l.length + 6 < k) :
    ∃ r, r ≤ l.length ∧ (∀ q, q < r → cmpR (l.getD q z56) c < 0) ∧ (∀ q, r ≤ q → q < l.length → 0 ≤ cmpR (l.getD q z56) c) ∧ ranges_Add k (l, c) = some (addQ l c r) := by
  obtain ⟨r, r1, r2, r3, r4⟩ := BSR_spec l c k (by omega) hsort hk
  refine ⟨r, r1, r2, r3, ?_⟩
  unfold ranges_Add addQ
  simp only [CloneR_spec l k (by omega), check_Range_spec k c hc, ovs_spec l c k (by omega) (by omega), r4, InsertR_one l c r k (by omega) r1, Option.bind_some]
  cases ranB c with
  | false => rfl
  | true =>
    rw [if_neg (by simp)]
    by_cases h5 : 4096 ≤ l.length
    · rw [if_pos h5, decide_eq_true (show (4096 : Int) ≤ Int.ofNat l.length from by have : Int.ofNat l.length = (l.length : Int) := rfl; omega)]; rfl
    · rw [if_neg h5, decide_eq_false (show ¬ (4096 : Int) ≤ Int.ofNat l.length from by have : Int.ofNat l.length = (l.length : Int) := rfl; omega)]
      simp only [cond_false, cond_true]
      cases (l.any fun x => ovQ x c) with
      | true => rfl
      | false =>
        rw [if_neg (by simp)]
        cases decide (r < l.length ∧ cmpR (l.getD r z56) c = 0) <;> rfl
theorem AddE_L0_spec (l : List T35) (c : T35) (r : Nat) (hs : l.length ≤ 1000000) (hr : r ≤ l.length) (h1 : ∀ q, q < r → lessR (l.getD q z56) c = true) (h2 : ∀ q, r ≤ q → q < l.length → lessR (l.getD q z56) c = false) : ∀ (n i k : Nat), l.length - i = n → n < k → i ≤ l.length → feluccaref07_Add_L0 k (l, c, ((min i r : Nat) : Int), (i : Int)) = some (bif (l.drop i).any (fun x => ovE x c) then .inr (l, 5) else .inl (l, c, (r : Int)))
  | 0, i, k + 1, hn, hk, hi => by
    rw [List.drop_eq_nil_of_le (by omega), Nat.min_eq_right (by omega)]
    simp only [feluccaref07_Add_L0]
    rw [i_lt, decide_eq_false (by omega)]
    rfl
  | n + 1, i, k + 1, hn, hk, _ => by
    have hi : i < l.length := by omega
    have ih := AddE_L0_spec l c r hs hr h1 h2 n (i + 1) k (by omega) (by omega) (by omega)
    rw [drop_any' z56 hi]
    simp only [feluccaref07_Add_L0]
    rw [i_lt, decide_eq_true hi, decide_eq_true (Int.natCast_nonneg i), Int.toNat_natCast]
    simp only [cond_true, ovE_spec, Option.bind_some, lessR_spec, ref07_Copy_spec l k (by omega), w64_succ (by omega : i < 4611686018427387904)]
    cases ovE (l.getD i z56) c with
    | true => rfl
    | false =>
      simp only [cond_false, Bool.false_or]
      rw [← ih]
      by_cases hq : i < r
      · rw [h1 i hq, Nat.min_eq_left (by omega : i + 1 ≤ r)]; rfl
      · rw [h2 i (by omega) hi, Nat.min_eq_right (by omega : r ≤ i), Nat.min_eq_right (by omega : r ≤ i + 1)]; rfl
theorem AddE_spec (l : List T35) (c : T35) (r k : Nat) (hs : l.length ≤ 1000000) (hr : r ≤ l.length) (h1 : ∀ q, q < r → lessR (l.getD q z56) c = true) (h2 : ∀ q, r ≤ q → q < l.length → lessR (l.getD q z56) c = false) (hk : l.length < k) :
    feluccaref07_Add k (l, c) = some (if ranB c = false then (l, 1) else if 4096 ≤ l.length then (l, 3) else if l.any (fun x => ovE x c) = true then (l, 5) else (insR l r c, 0)) := by
  unfold feluccaref07_Add
  have h3 := AddE_L0_spec l c r hs hr h1 h2 l.length 0 k (by omega) hk (by omega)
  rw [Nat.zero_min, Int.natCast_zero, List.drop_zero] at h3
  simp only [ref03_Range_spec, Option.bind_some, ref07_Copy_spec l k (by omega), h3]
  cases ranB c with
  | false => rfl
  | true =>
    simp only [cond_true]
    rw [if_neg (by simp)]
    by_cases h4 : 4096 ≤ l.length
    · rw [if_pos h4, decide_eq_true (show (4096 : Int) ≤ Int.ofNat l.length from by have : Int.ofNat l.length = (l.length : Int) := rfl; omega)]; rfl
    · rw [if_neg h4, decide_eq_false (show ¬ (4096 : Int) ≤ Int.ofNat l.length from by have : Int.ofNat l.length = (l.length : Int) := rfl; omega)]
      simp only [cond_false]
      cases l.any (fun x => ovE x c) with
      | true => rfl
      | false =>
        simp only [cond_false, Option.bind_some, Int.toNat_natCast]
        rw [if_neg (by simp), decide_eq_true (Int.natCast_nonneg r), decide_eq_true (show (r : Int) ≤ Int.ofNat l.length from by have : Int.ofNat l.length = (l.length : Int) := rfl; omega)]
        have ht : (l.take r).length = r := by rw [List.length_take]; omega
        simp only [cond_true, ref07_Copy_spec (l.take r) k (by omega), Option.bind_some]
        have e1 : decide ((List.length (l.take r) + List.length [c]) * 40 ≤ 140737488355328) = true := decide_eq_true (by simp only [List.length_cons, List.length_nil]; omega)
        have e2 : decide ((List.length (l.take r ++ [c]) + List.length (l.drop r)) * 40 ≤ 140737488355328) = true := decide_eq_true (by simp only [List.length_append, List.length_cons, List.length_nil, List.length_drop]; omega)
        rw [e1, e2]
        simp [insR]
theorem AddE_same {l : List T35} (h : RightR l) (hs : l.length ≤ 1000000) (c : T35) (hc : rngR c) (k : Nat) (hk : l.length + 6 < k) : feluccaref07_Add k (l, c) = ranges_Add k (l, c) := by
  obtain ⟨r, h1, h2, h3, h4⟩ := AddQ_spec l c k hs hc h.sort hk
  rw [h4, AddE_spec l c r k hs h1 (fun q hq => by rw [lessR_cmp]; exact decide_eq_true (h2 q hq)) (fun q hq hq' => by rw [lessR_cmp]; exact decide_eq_false (by have := h3 q hq hq'; omega)) (by omega)]
  unfold addQ
  cases hcb : ranB c with
  | false => rfl
  | true =>
    have : (l.any fun x => ovE x c) = l.any fun x => ovQ x c := by
      rw [Bool.eq_iff_iff, List.any_eq_true, List.any_eq_true]
      constructor
      · rintro ⟨x, hx, hv⟩; exact ⟨x, hx, (ov_same (h.1 x hx) hcb).symm ▸ hv⟩
      · rintro ⟨x, hx, hv⟩; exact ⟨x, hx, (ov_same (h.1 x hx) hcb) ▸ hv⟩
    rw [this]
/-! ### the place of a range -/
def keyB (c x : T35) : Bool := decide (x.1 = c.1) && (decide (x.2.1 = c.2.1) && decide (x.2.2.1 = c.2.2.1))
theorem keyB_iff (c x : T35) : keyB c x = true ↔ cmpR x c = 0 := by
  rw [cmpR_zero]
  unfold keyB
  simp only [Bool.and_eq_true, decide_eq_true_eq]
theorem place_L0_spec (l : List T35) (c : T35) (hs : l.length ≤ 1000000) : ∀ (n i k : Nat), l.length - i = n → n < k → feluccaref07_place_L0 k (l, c, (i : Int)) = some (firstA (keyB c) l i)
  | 0, i, k + 1, hn, hk => by
    rw [firstA_end (by omega)]
    simp only [feluccaref07_place_L0]
    rw [i_lt, decide_eq_false (by omega)]
    rfl
  | n + 1, i, k + 1, hn, hk => by
    have hi : i < l.length := by omega
    rw [firstA_step (0, 0, 0, 0, 0) hi]
    simp only [feluccaref07_place_L0]
    rw [i_lt, decide_eq_true hi, decide_eq_true (Int.natCast_nonneg i)]
    simp only [cond_true, Int.toNat_natCast, w64_succ (by omega : i < 4611686018427387904), place_L0_spec l c hs n (i + 1) k (by omega) (by omega)]
    unfold keyB
    cases decide ((l.getD i (0, 0, 0, 0, 0)).1 = c.1) <;> cases decide ((l.getD i (0, 0, 0, 0, 0)).2.1 = c.2.1) <;> cases decide ((l.getD i (0, 0, 0, 0, 0)).2.2.1 = c.2.2.1) <;> rfl
theorem place_spec (l : List T35) (c : T35) (k : Nat) (hs : l.length ≤ 1000000) (hk : l.length < k) : feluccaref07_place k (l, c) = some (findA (keyB c) l) := by
  unfold feluccaref07_place
  have := place_L0_spec l c hs l.length 0 k (by omega) hk
  rw [Int.natCast_zero] at this
  simp only [this, Option.bind_some]
  exact findA_first _ _
theorem place_found {l : List T35} (h : RightR l) {c : T35} {r : Nat} (r2 : ∀ q, q < r → cmpR (l.getD q z56) c < 0) (r3 : ∀ q, r ≤ q → q < l.length → 0 ≤ cmpR (l.getD q z56) c) :
    (findA (keyB c) l = -1 ∧ ¬ (r < l.length ∧ cmpR (l.getD r z56) c = 0)) ∨ (findA (keyB c) l = (r : Int) ∧ r < l.length ∧ cmpR (l.getD r z56) c = 0) := by
  rcases findA_cases (keyB c) l with ⟨h1, h2⟩ | ⟨j, h1, hj, hp, _⟩
  · refine .inl ⟨h1, fun ⟨h3, h4⟩ => ?_⟩
    have h5 := h2 _ (List.getElem_mem h3)
    rw [getR h3] at h4
    rw [(keyB_iff c _).2 h4] at h5
    cases h5
  · have hz := (keyB_iff c _).1 hp
    have hrj : r = j := by
      rcases Nat.lt_trichotomy r j with hlt | heq | hgt
      · have h5 := r3 r (Nat.le_refl _) (by omega)
        have h6 := h.sort r j hlt hj
        rw [getR hj, cmpR_lt] at h6
        rw [cmpR_zero] at hz
        have h7 : cmpR (l.getD r z56) c < 0 := by
          rw [cmpR_lt]; omega
        omega
      · exact heq
      · have h5 := r2 j hgt
        rw [getR hj] at h5
        omega
    subst hrj
    exact .inr ⟨h1, hj, by rw [getR hj]; exact hz⟩
theorem DeleteE_same {l : List T35} (h : RightR l) (hs : l.length ≤ 1000000) (c : T35) (k : Nat) (hk : l.length + 6 < k) : feluccaref07_Delete k (l, c) = ranges_Delete k (l, c) := by
  obtain ⟨r, r1, r2, r3, r4⟩ := BSR_spec l c k (by omega) h.sort hk
  unfold ranges_Delete feluccaref07_Delete
  simp only [CloneR_spec l k (by omega), r4, Option.bind_some, place_spec l c k hs (by omega), ref07_Copy_spec l k (by omega)]
  rcases place_found h r2 r3 with ⟨p1, p2⟩ | ⟨p1, p2, p3⟩
  · rw [p1, decide_eq_false p2]; rfl
  · have hd : slices_DeleteR k l ((r : Int), w64 ((r : Int) + 1)) = some (l.take r ++ l.drop (r + 1)) := by
      unfold slices_DeleteR delF
      rw [w64_succ (by omega)]
      rw [decide_eq_true (Int.natCast_nonneg r), decide_eq_true (show (r : Int) < ((r + 1 : Nat) : Int) from by omega), decide_eq_true (show ((r + 1 : Nat) : Int) ≤ Int.ofNat l.length from by have : Int.ofNat l.length = (l.length : Int) := rfl; omega)]
      rfl
    rw [w64_succ (by omega : r < 4611686018427387904)] at hd
    have e0 : decide ((r : Int) < 0) = false := decide_eq_false (by omega)
    have e1 : decide ((r : Int) ≤ Int.ofNat l.length) = true := decide_eq_true (by have : Int.ofNat l.length = (l.length : Int) := rfl; omega)
    have e2 : decide (((r + 1 : Nat) : Int) ≤ Int.ofNat l.length) = true := decide_eq_true (by have : Int.ofNat l.length = (l.length : Int) := rfl; omega)
    have e3 : decide ((List.length (l.take r) + List.length (l.drop (r + 1))) * 40 ≤ 140737488355328) = true := decide_eq_true (by rw [List.length_take, List.length_drop]; omega)
    rw [p1, decide_eq_true (⟨p2, p3⟩ : r < l.length ∧ cmpR (l.getD r z56) c = 0)]
    simp only [hd, e0, e1, cond_false, cond_true, Option.bind_some, decide_eq_true (Int.natCast_nonneg r), Int.toNat_natCast, ref07_Copy_spec (l.take r) k (by rw [List.length_take]; omega), w64_succ (by omega : r < 4611686018427387904), decide_eq_true (Int.natCast_nonneg (r + 1)), e2, e3]
theorem ChangeE_same {l : List T35} (h : RightR l) (hs : l.length ≤ 1000000) (c : T35) (k : Nat) (hk : l.length + 6 < k) : feluccaref07_Change k (l, c) = ranges_Change k (l, c) := by
  obtain ⟨r, r1, r2, r3, r4⟩ := BSR_spec l c k (by omega) h.sort hk
  unfold ranges_Change feluccaref07_Change
  simp only [CloneR_spec l k (by omega), r4, Option.bind_some, place_spec l c k hs (by omega), ref07_Copy_spec l k (by omega)]
  rcases place_found h r2 r3 with ⟨p1, p2⟩ | ⟨p1, p2, p3⟩
  · rw [p1, decide_eq_false p2]
    cases decide (c.2.2.2.2 < 0) <;> cases decide (2147483647 < c.2.2.2.2) <;> rfl
  · have e0 : decide ((r : Int) < 0) = false := decide_eq_false (by omega)
    rw [p1, decide_eq_true (⟨p2, p3⟩ : r < l.length ∧ cmpR (l.getD r z56) c = 0)]
    simp only [e0, cond_true, cond_false]
theorem ExpireE_L0_spec (l : List T35) (now : Int) (hs : l.length ≤ 1000000) : ∀ (n i k : Nat) (o : List T35), l.length - i = n → n < k → o.length ≤ i → i ≤ l.length → feluccaref07_Expire_L0 k (l, now, o, (i : Int)) = some (.inl (o ++ leftR now (l.drop i)))
  | 0, i, k + 1, o, hn, hk, ho, hi => by
    rw [List.drop_eq_nil_of_le (by omega)]
    simp only [feluccaref07_Expire_L0]
    rw [i_lt, decide_eq_false (by omega)]
    simp [leftR]
  | n + 1, i, k + 1, o, hn, hk, ho, _ => by
    have hi : i < l.length := by omega
    have hst : leftR now (l.drop i) = (bif decide (now < (l.getD i (0, 0, 0, 0, 0)).2.2.2.1) then [l.getD i (0, 0, 0, 0, 0)] else []) ++ leftR now (l.drop (i + 1)) := by
      unfold leftR
      rw [getD_drop (d := (0, 0, 0, 0, 0)) hi, List.filter_cons]
      cases decide (now < (l.getD i (0, 0, 0, 0, 0)).2.2.2.1) <;> simp
    rw [hst]
    simp only [feluccaref07_Expire_L0]
    rw [i_lt, decide_eq_true hi, decide_eq_true (Int.natCast_nonneg i), Int.toNat_natCast]
    simp only [cond_true, w64_succ (by omega : i < 4611686018427387904)]
    obtain ⟨x, hx⟩ : ∃ x : T35, x = l.getD i (0, 0, 0, 0, 0) := ⟨_, rfl⟩
    simp only [← hx]
    have hsz : decide ((List.length o + List.length [x]) * 40 ≤ 140737488355328) = true := decide_eq_true (by simp only [List.length_cons, List.length_nil]; omega)
    rw [hsz]
    by_cases h : now < x.2.2.2.1
    · rw [decide_eq_true h]
      simp only [cond_true, ExpireE_L0_spec l now hs n (i + 1) k (o ++ [x]) (by omega) (by omega) (by simp; omega) (by omega)]
      simp
    · rw [decide_eq_false h]
      simp only [cond_false, ExpireE_L0_spec l now hs n (i + 1) k o (by omega) (by omega) (by omega) (by omega)]
      simp
theorem ExpireE_spec (l : List T35) (now : Int) (k : Nat) (hs : l.length ≤ 1000000) (hk : l.length < k) : feluccaref07_Expire k (l, now) = some (leftR now l) := by
  unfold feluccaref07_Expire
  have := ExpireE_L0_spec l now hs l.length 0 k [] (by omega) hk (by simp) (by omega)
  rw [Int.natCast_zero, List.drop_zero, List.nil_append] at this
  simp only [this, Option.bind_some]
end Go.Proofs.YtggikacbelogcaaGreat.Ex
