/- Part 7 of what the statements' rows lean on: the executor, the functions' trees, and what they come to in plain words. -/
import Derived.Test.YthlhbnaloefncaaGreatDoorU6
import Derived.Test.YthlhbnaloefncaaGreatDoorProg
namespace Go.Proofs.YthlhbnaloefncaaGreatDoor
set_option linter.unusedVariables false
set_option linter.unusedSimpArgs false
namespace Ex
open Go
def addQ (l : List GRange) (c : GRange) (r : Nat) : List GRange × Int := if ranB c = false then (l, 1) else if 4096 ≤ l.length then (l, 3) else if (l.any fun x => ovQ x c) = true then (l, 5) else (insR l r c, 0)
theorem AddQ_spec (l : List GRange) (c : GRange) (k : Nat) (hs : l.length ≤ 1000000) (hc : rngR c) (hsort : ∀ i j, i < j → j < l.length → cmpR (l.getD i z56) (l.getD j z56) < 0) (hk : l.length + 6 < k) :
    ∃ r, r ≤ l.length ∧ (∀ q, q < r → cmpR (l.getD q z56) c < 0) ∧ (∀ q, r ≤ q → q < l.length → 0 ≤ cmpR (l.getD q z56) c) ∧ ranges_Add k (l, c) = some (addQ l c r) := by
  obtain ⟨r, r1, r2, r3, r4⟩ := BSR_spec l c k (by omega) hsort hk
  refine ⟨r, r1, r2, r3, ?_⟩
  unfold ranges_Add addQ
  simp only [CloneR_spec l k (by omega), check_Range_spec k c hc, ovs_spec l c k (by omega) (by omega), r4, InsertR_one l c r k (by omega) r1, Option.bind_some]
  cases ranB c with
  | false => rfl
  | true =>
    rw [if_neg (by simp)]
    by_cases h5 : 4096 ≤ l.length
    · rw [if_pos h5, dcT (show (4096 : Int) ≤ Int.ofNat l.length from by have : Int.ofNat l.length = (l.length : Int) := rfl; omega)]; rfl
    · rw [if_neg h5, dcF (show ¬ (4096 : Int) ≤ Int.ofNat l.length from by have : Int.ofNat l.length = (l.length : Int) := rfl; omega)]
      simp only [cond_false, cond_true]
      cases (l.any fun x => ovQ x c) with
      | true => rfl
      | false =>
        rw [if_neg (by simp)]
        cases decide (r < l.length ∧ cmpR (l.getD r z56) c = 0) <;> rfl
theorem AddE_L0_spec (l : List GRange) (c : GRange) (r : Nat) (hs : l.length ≤ 1000000) (hr : r ≤ l.length) (h1 : ∀ q, q < r → lessR (l.getD q z56) c = true) (h2 : ∀ q, r ≤ q → q < l.length → lessR (l.getD q z56) c = false) : ∀ (n i k : Nat), l.length - i = n → n < k → i ≤ l.length → rf07_Add_L0 k (l, c, ((min i r : Nat) : Int), (i : Int)) = some (bif (l.drop i).any (fun x => ovE x c) then .inr (l, 5) else .inl (l, c, (r : Int)))
  | 0, i, k + 1, hn, hk, hi => by
    rw [List.drop_eq_nil_of_le (by omega), Nat.min_eq_right (by omega)]
    simp only [rf07_Add_L0]
    rw [i_lt, dcF (by omega)]
    rfl
  | n + 1, i, k + 1, hn, hk, _ => by
    have hi : i < l.length := by omega
    have ih := AddE_L0_spec l c r hs hr h1 h2 n (i + 1) k (by omega) (by omega) (by omega)
    rw [drop_any' z56 hi]
    simp only [rf07_Add_L0]
    rw [i_lt, dcT hi, dcT (Int.natCast_nonneg i), Int.toNat_natCast]
    simp only [cond_true, ovE_spec, Option.bind_some, lessR_spec, ref07_Copy_spec l k (by omega), w64_succ (by omega : i < 4611686018427387904)]
    cases ovE (l.getD i z56) c with
    | true => rfl
    | false =>
      simp only [cond_false, Bool.false_or]
      rw [← ih]
      by_cases hq : i < r
      · rw [h1 i hq, Nat.min_eq_left (by omega : i + 1 ≤ r)]; rfl
      · rw [h2 i (by omega) hi, Nat.min_eq_right (by omega : r ≤ i), Nat.min_eq_right (by omega : r ≤ i + 1)]; rfl
theorem AddE_spec (l : List GRange) (c : GRange) (r k : Nat) (hs : l.length ≤ 1000000) (hr : r ≤ l.length) (h1 : ∀ q, q < r → lessR (l.getD q z56) c = true) (h2 : ∀ q, r ≤ q → q < l.length → lessR (l.getD q z56) c = false) (hk : l.length < k) :
    rf07_Add k (l, c) = some (if ranB c = false then (l, 1) else if 4096 ≤ l.length then (l, 3) else if l.any (fun x => ovE x c) = true then (l, 5) else (insR l r c, 0)) := by
  unfold rf07_Add
  have h3 := AddE_L0_spec l c r hs hr h1 h2 l.length 0 k (by omega) hk (by omega)
  rw [Nat.zero_min, Int.natCast_zero, List.drop_zero] at h3
  simp only [ref03_Range_spec, Option.bind_some, ref07_Copy_spec l k (by omega), h3]
  cases ranB c with
  | false => rfl
  | true =>
    simp only [cond_true]
    rw [if_neg (by simp)]
    by_cases h4 : 4096 ≤ l.length
    · rw [if_pos h4, dcT (show (4096 : Int) ≤ Int.ofNat l.length from by have : Int.ofNat l.length = (l.length : Int) := rfl; omega)]; rfl
    · rw [if_neg h4, dcF (show ¬ (4096 : Int) ≤ Int.ofNat l.length from by have : Int.ofNat l.length = (l.length : Int) := rfl; omega)]
      simp only [cond_false]
      cases l.any (fun x => ovE x c) with
      | true => rfl
      | false =>
        simp only [cond_false, Option.bind_some, Int.toNat_natCast]
        rw [if_neg (by simp), dcT (Int.natCast_nonneg r), dcT (show (r : Int) ≤ Int.ofNat l.length from by have : Int.ofNat l.length = (l.length : Int) := rfl; omega)]
        have ht : (l.take r).length = r := by rw [List.length_take]; omega
        simp only [cond_true, ref07_Copy_spec (l.take r) k (by omega), Option.bind_some]
        have e1 : decide ((List.length (l.take r) + List.length [c]) * 40 ≤ 140737488355328) = true := dcT (by simp only [List.length_cons, List.length_nil]; omega)
        have e2 : decide ((List.length (l.take r ++ [c]) + List.length (l.drop r)) * 40 ≤ 140737488355328) = true := dcT (by simp only [List.length_append, List.length_cons, List.length_nil, List.length_drop]; omega)
        rw [e1, e2]
        simp [insR]
theorem AddE_same {l : List GRange} (h : RightR l) (hs : l.length ≤ 1000000) (c : GRange) (hc : rngR c) (k : Nat) (hk : l.length + 6 < k) : rf07_Add k (l, c) = ranges_Add k (l, c) := by
  obtain ⟨r, h1, h2, h3, h4⟩ := AddQ_spec l c k hs hc h.sort hk
  rw [h4, AddE_spec l c r k hs h1 (fun q hq => by rw [lessR_cmp]; exact dcT (h2 q hq)) (fun q hq hq' => by rw [lessR_cmp]; exact dcF (by have := h3 q hq hq'; omega)) (by omega)]
  unfold addQ
  cases hcb : ranB c with
  | false => rfl
  | true =>
    have : (l.any fun x => ovE x c) = l.any fun x => ovQ x c := by
      rw [Bool.eq_iff_iff, List.any_eq_true, List.any_eq_true]
      constructor
      · rintro ⟨x, hx, hv⟩; exact ⟨x, hx, (ov_same (h.1 x hx) hcb).symm ▸ hv⟩
      · rintro ⟨x, hx, hv⟩; exact ⟨x, hx, (ov_same (h.1 x hx) hcb) ▸ hv⟩
    rw [this]
def keyB (c x : GRange) : Bool := decide (x.1 = c.1) && (decide (x.2.1 = c.2.1) && decide (x.2.2.1 = c.2.2.1))
theorem keyB_iff (c x : GRange) : keyB c x = true ↔ cmpR x c = 0 := by
  rw [cmpR_zero]
  unfold keyB
  simp only [Bool.and_eq_true, decide_eq_true_eq]
theorem place_L0_spec (l : List GRange) (c : GRange) (hs : l.length ≤ 1000000) : ∀ (n i k : Nat), l.length - i = n → n < k → rf07_place_L0 k (l, c, (i : Int)) = some (firstA (keyB c) l i)
  | 0, i, k + 1, hn, hk => by
    rw [firstA_end (by omega)]
    simp only [rf07_place_L0]
    rw [i_lt, dcF (by omega)]
    rfl
  | n + 1, i, k + 1, hn, hk => by
    have hi : i < l.length := by omega
    rw [firstA_step (0, 0, 0, 0, 0) hi]
    simp only [rf07_place_L0]
    rw [i_lt, dcT hi, dcT (Int.natCast_nonneg i)]
    simp only [cond_true, Int.toNat_natCast, w64_succ (by omega : i < 4611686018427387904), place_L0_spec l c hs n (i + 1) k (by omega) (by omega)]
    unfold keyB
    cases decide ((l.getD i (0, 0, 0, 0, 0)).1 = c.1) <;> cases decide ((l.getD i (0, 0, 0, 0, 0)).2.1 = c.2.1) <;> cases decide ((l.getD i (0, 0, 0, 0, 0)).2.2.1 = c.2.2.1) <;> rfl
theorem place_spec (l : List GRange) (c : GRange) (k : Nat) (hs : l.length ≤ 1000000) (hk : l.length < k) : rf07_place k (l, c) = some (findA (keyB c) l) := by
  unfold rf07_place
  have := place_L0_spec l c hs l.length 0 k (by omega) hk
  rw [Int.natCast_zero] at this
  simp only [this, Option.bind_some]
  exact findA_first _ _
theorem place_found {l : List GRange} (h : RightR l) {c : GRange} {r : Nat} (r2 : ∀ q, q < r → cmpR (l.getD q z56) c < 0) (r3 : ∀ q, r ≤ q → q < l.length → 0 ≤ cmpR (l.getD q z56) c) :
    (findA (keyB c) l = -1 ∧ ¬ (r < l.length ∧ cmpR (l.getD r z56) c = 0)) ∨ (findA (keyB c) l = (r : Int) ∧ r < l.length ∧ cmpR (l.getD r z56) c = 0) := by
  rcases findA_cases (keyB c) l with ⟨h1, h2⟩ | ⟨j, h1, hj, hp, _⟩
  · refine .inl ⟨h1, fun ⟨h3, h4⟩ => ?_⟩
    have h5 := h2 _ (List.getElem_mem h3)
    rw [getR h3] at h4
    rw [(keyB_iff c _).2 h4] at h5
    cases h5
  · have hz := (keyB_iff c _).1 hp
    have hrj : r = j := by
      rcases Nat.lt_trichotomy r j with hlt | heq | hgt
      · have h5 := r3 r (Nat.le_refl _) (by omega)
        have h6 := h.sort r j hlt hj
        rw [getR hj, cmpR_lt] at h6
        rw [cmpR_zero] at hz
        have h7 : cmpR (l.getD r z56) c < 0 := by
          rw [cmpR_lt]; omega
        omega
      · exact heq
      · have h5 := r2 j hgt
        rw [getR hj] at h5
        omega
    subst hrj
    exact .inr ⟨h1, hj, by rw [getR hj]; exact hz⟩
theorem DeleteE_same {l : List GRange} (h : RightR l) (hs : l.length ≤ 1000000) (c : GRange) (k : Nat) (hk : l.length + 6 < k) : rf07_Delete k (l, c) = ranges_Delete k (l, c) := by
  obtain ⟨r, r1, r2, r3, r4⟩ := BSR_spec l c k (by omega) h.sort hk
  unfold ranges_Delete rf07_Delete
  simp only [CloneR_spec l k (by omega), r4, Option.bind_some, place_spec l c k hs (by omega), ref07_Copy_spec l k (by omega)]
  rcases place_found h r2 r3 with ⟨p1, p2⟩ | ⟨p1, p2, p3⟩
  · rw [p1, dcF p2]; rfl
  · have hd : slices_DeleteR k l ((r : Int), w64 ((r : Int) + 1)) = some (l.take r ++ l.drop (r + 1)) := by
      unfold slices_DeleteR delF
      rw [w64_succ (by omega)]
      rw [dcT (Int.natCast_nonneg r), dcT (show (r : Int) < ((r + 1 : Nat) : Int) from by omega), dcT (show ((r + 1 : Nat) : Int) ≤ Int.ofNat l.length from by have : Int.ofNat l.length = (l.length : Int) := rfl; omega)]
      rfl
    rw [w64_succ (by omega : r < 4611686018427387904)] at hd
    have e0 : decide ((r : Int) < 0) = false := dcF (by omega)
    have e1 : decide ((r : Int) ≤ Int.ofNat l.length) = true := dcT (by have : Int.ofNat l.length = (l.length : Int) := rfl; omega)
    have e2 : decide (((r + 1 : Nat) : Int) ≤ Int.ofNat l.length) = true := dcT (by have : Int.ofNat l.length = (l.length : Int) := rfl; omega)
    have e3 : decide ((List.length (l.take r) + List.length (l.drop (r + 1))) * 40 ≤ 140737488355328) = true := dcT (by rw [List.length_take, List.length_drop]; omega)
    rw [p1, dcT (⟨p2, p3⟩ : r < l.length ∧ cmpR (l.getD r z56) c = 0)]
    simp only [hd, e0, e1, cond_false, cond_true, Option.bind_some, dcT (Int.natCast_nonneg r), Int.toNat_natCast, ref07_Copy_spec (l.take r) k (by rw [List.length_take]; omega), w64_succ (by omega : r < 4611686018427387904), dcT (Int.natCast_nonneg (r + 1)), e2, e3]
theorem ChangeE_same {l : List GRange} (h : RightR l) (hs : l.length ≤ 1000000) (c : GRange) (k : Nat) (hk : l.length + 6 < k) : rf07_Change k (l, c) = ranges_Change k (l, c) := by
  obtain ⟨r, r1, r2, r3, r4⟩ := BSR_spec l c k (by omega) h.sort hk
  unfold ranges_Change rf07_Change
  simp only [CloneR_spec l k (by omega), r4, Option.bind_some, place_spec l c k hs (by omega), ref07_Copy_spec l k (by omega)]
  rcases place_found h r2 r3 with ⟨p1, p2⟩ | ⟨p1, p2, p3⟩
  · rw [p1, dcF p2]
    cases decide (c.2.2.2.2 < 0) <;> cases decide (2147483647 < c.2.2.2.2) <;> rfl
  · have e0 : decide ((r : Int) < 0) = false := dcF (by omega)
    rw [p1, dcT (⟨p2, p3⟩ : r < l.length ∧ cmpR (l.getD r z56) c = 0)]
    simp only [e0, cond_true, cond_false]
theorem ExpireE_L0_spec (l : List GRange) (now : Int) (hs : l.length ≤ 1000000) : ∀ (n i k : Nat) (o : List GRange), l.length - i = n → n < k → o.length ≤ i → i ≤ l.length → rf07_Expire_L0 k (l, now, o, (i : Int)) = some (.inl (o ++ leftR now (l.drop i)))
  | 0, i, k + 1, o, hn, hk, ho, hi => by
    rw [List.drop_eq_nil_of_le (by omega)]
    simp only [rf07_Expire_L0]
    rw [i_lt, dcF (by omega)]
    simp [leftR]
  | n + 1, i, k + 1, o, hn, hk, ho, _ => by
    have hi : i < l.length := by omega
    have hst : leftR now (l.drop i) = (bif decide (now < (l.getD i (0, 0, 0, 0, 0)).2.2.2.1) then [l.getD i (0, 0, 0, 0, 0)] else []) ++ leftR now (l.drop (i + 1)) := by
      unfold leftR
      rw [getD_drop (d := (0, 0, 0, 0, 0)) hi, List.filter_cons]
      cases decide (now < (l.getD i (0, 0, 0, 0, 0)).2.2.2.1) <;> simp
    rw [hst]
    simp only [rf07_Expire_L0]
    rw [i_lt, dcT hi, dcT (Int.natCast_nonneg i), Int.toNat_natCast]
    simp only [cond_true, w64_succ (by omega : i < 4611686018427387904)]
    obtain ⟨x, hx⟩ : ∃ x : GRange, x = l.getD i (0, 0, 0, 0, 0) := ⟨_, rfl⟩
    simp only [← hx]
    have hsz : decide ((List.length o + List.length [x]) * 40 ≤ 140737488355328) = true := dcT (by simp only [List.length_cons, List.length_nil]; omega)
    rw [hsz]
    by_cases h : now < x.2.2.2.1
    · rw [dcT h]
      simp only [cond_true, ExpireE_L0_spec l now hs n (i + 1) k (o ++ [x]) (by omega) (by omega) (by simp; omega) (by omega)]
      simp
    · rw [dcF h]
      simp only [cond_false, ExpireE_L0_spec l now hs n (i + 1) k o (by omega) (by omega) (by omega) (by omega)]
      simp
theorem ExpireE_spec (l : List GRange) (now : Int) (k : Nat) (hs : l.length ≤ 1000000) (hk : l.length < k) : rf07_Expire k (l, now) = some (leftR now l) := by
  unfold rf07_Expire
  have := ExpireE_L0_spec l now hs l.length 0 k [] (by omega) hk (by simp) (by omega)
  rw [Int.natCast_zero, List.drop_zero, List.nil_append] at this
  simp only [this, Option.bind_some]
end Ex
namespace Ex
open Go
theorem zb (x : Int) : ((0 : Int) == x) = (x == 0) := by
  rw [Bool.eq_iff_iff, beq_iff_eq, beq_iff_eq]
  exact eq_comm
theorem noRange_spec (k : Nat) (r : GRange) : rf04_noRange k r = some (r.1 == 0 && (r.2.1 == 0 && (r.2.2.1 == 0 && (r.2.2.2.1 == 0 && r.2.2.2.2 == 0)))) := by
  unfold rf04_noRange
  exact bif_self _
theorem noContact_spec (k : Nat) (c : GContact) : rf04_noContact k c = some (c.1 == 0 && (c.2.1 == 0 && (c.2.2.1 == 0 && (c.2.2.2.1 == 0 && (c.2.2.2.2.1 == 0 && c.2.2.2.2.2 == 0))))) := by
  unfold rf04_noContact
  exact bif_self _
set_option maxHeartbeats 1000000 in
theorem dir_same (k : Nat) (d : GDirective) (h : rngD d) : rf04_Right k d = direct_Right k d := by
  unfold rf04_Right direct_Right
  simp only [noRange_spec, noContact_spec, direct_may_spec k d h, ref03_Contact_spec, ref03_Range_spec, rf04_whole, Option.bind_some, bif_self, zb, beq_self_eq_true, Bool.true_and, Bool.and_true]
  have em : mayB d = mayB d := rfl
  conv at em => rhs; unfold mayB dC dR
  simp only [em]
  obtain ⟨op, kd, id, f, t, s, e, ra, f2, t2, s2, e2, ow⟩ := d
  simp only
  clear h em
  generalize hzr : (f2 == 0 && (t2 == 0 && (s2 == 0 && (e2 == 0 && ow == 0)))) = zr
  generalize hzc : (id == 0 && (f == 0 && (t == 0 && (s == 0 && (e == 0 && ra == 0))))) = zc
  by_cases k1 : kd = 1
  · have k2 : ¬ kd = 2 := by omega
    by_cases o1 : op = 1
    · simp only [k1, o1]
      cases zr <;> rfl
    · by_cases o2 : op = 2
      · subst o2 k1
        by_cases hra : ra = 0
        · subst hra
          have hm : mx 0 1 = 1 := by decide
          simp only [hm]
          generalize (f == 0 && (t == 0 && (s == 0 && (e == 0 && (0 : Int) == 0)))) = z2
          cases zr <;> cases z2 <;> rfl
        · have : (f == 0 && (t == 0 && (s == 0 && (e == 0 && ra == 0)))) = false := by simp [hra]
          simp only [this]
          cases zr <;> rfl
      · by_cases o3 : op = 3
        · subst o3 k1
          generalize (f == 0 && (t == 0 && (s == 0 && e == 0))) = z3
          cases zr <;> cases z3 <;> rfl
        · have a1 : decide (op = 1) = false := dcF o1
          have a2 : decide (op = 2) = false := dcF o2
          have a3 : decide (op = 3) = false := dcF o3
          have b2 : decide (kd = 2) = false := dcF k2
          simp only [a1, a2, a3, b2, Bool.false_and, cond_false]
          cases zr <;> cases decide (kd = 1) <;> rfl
  · have b1 : decide (kd = 1) = false := dcF k1
    by_cases k2 : kd = 2
    · by_cases o1 : op = 1
      · subst o1 k2
        cases zc <;> rfl
      · by_cases o2 : op = 2
        · subst o2 k2
          have : (e2 == 0 && ow == 0) = (ow == 0 && e2 == 0) := Bool.and_comm _ _
          cases zc <;> cases (e2 == 0) <;> cases (ow == 0) <;> rfl
        · by_cases o3 : op = 3
          · subst o3 k2
            have : decide (e2 = 0) = (e2 == 0) := rfl
            rw [this]
            cases zc <;> cases (e2 == 0) <;> rfl
          · have a1 : decide (op = 1) = false := dcF o1
            have a2 : decide (op = 2) = false := dcF o2
            have a3 : decide (op = 3) = false := dcF o3
            simp only [a1, a2, a3, b1, Bool.false_and, cond_false]
            cases zc <;> cases decide (kd = 2) <;> rfl
    · have b2 : decide (kd = 2) = false := dcF k2
      simp only [b1, b2, Bool.and_false, cond_false]
theorem dir_valid {k : Nat} {d : GDirective} (h : rngD d) (hb : direct_Right k d = some true) : (d.1 = 1 ∨ d.1 = 2 ∨ d.1 = 3) ∧ (d.2.1 = 1 ∨ d.2.1 = 2) := by
  unfold direct_Right at hb
  by_cases k1 : d.2.1 = 1
  · by_cases o1 : d.1 = 1
    · exact ⟨.inl o1, .inl k1⟩
    by_cases o2 : d.1 = 2
    · exact ⟨.inr (.inl o2), .inl k1⟩
    by_cases o3 : d.1 = 3
    · exact ⟨.inr (.inr o3), .inl k1⟩
    simp [o1, o2, o3] at hb
  · by_cases k2 : d.2.1 = 2
    · by_cases o1 : d.1 = 1
      · exact ⟨.inl o1, .inr k2⟩
      by_cases o2 : d.1 = 2
      · exact ⟨.inr (.inl o2), .inr k2⟩
      by_cases o3 : d.1 = 3
      · exact ⟨.inr (.inr o3), .inr k2⟩
      simp [o1, o2, o3] at hb
    · simp [k1, k2] at hb
theorem Copy8_spec (p : GPlan) (k : Nat) (h1 : p.1.length ≤ 1000000000) (h2 : p.2.1.length ≤ 1000000000) : rf08_Copy k p = some p := by
  unfold rf08_Copy
  rw [dcT (by omega), dcT (by omega)]
  rfl
theorem Same8_spec (p q : GPlan) (k : Nat) (h1 : p.1.length ≤ 5000) (h2 : p.2.1.length ≤ 5000) (hk : 12000 < k) : rf08_Same k (p, q) = plan_Same k (p, q) := by
  unfold plan_Same rf08_Same
  simp only [ref06_Same_spec p.1 q.1 k (by omega) (by omega), ref07_Same_spec p.2.1 q.2.1 k (by omega) (by omega), Same_spec p.1 q.1 k (by omega) (by omega), SameR_spec p.2.1 q.2.1 k (by omega) (by omega), Option.bind_some]
  cases decide (p.1 = q.1) <;> cases decide (p.2.1 = q.2.1) <;> cases decide (p.2.2.1 = q.2.2.1) <;> cases decide (p.2.2.2 = q.2.2.2) <;> rfl
theorem R8_L0 (p : GPlan) (hs : p.1.length ≤ 5000) : ∀ (n i k : Nat), p.1.length - i = n → n < k → rf08_Right_L0 k (p, (i : Int)) = some (bif (p.1.drop i).any (fun c => decide (c.2.2.2.2.1 ≤ p.2.2.1)) then .inr false else .inl p)
  | 0, i, k + 1, hn, hk => by
    rw [List.drop_eq_nil_of_le (by omega)]
    simp only [rf08_Right_L0]
    rw [i_lt, dcF (by omega)]
    rfl
  | n + 1, i, k + 1, hn, hk => by
    have hi : i < p.1.length := by omega
    rw [drop_any' (0, 0, 0, 0, 0, 0) hi]
    simp only [rf08_Right_L0]
    rw [i_lt, dcT hi, dcT (Int.natCast_nonneg i), Int.toNat_natCast]
    simp only [cond_true, w64_succ (by omega : i < 4611686018427387904), R8_L0 p hs n (i + 1) k (by omega) (by omega)]
    cases decide ((p.1.getD i (0, 0, 0, 0, 0, 0)).2.2.2.2.1 ≤ p.2.2.1) <;> rfl
theorem R8_L1 (p : GPlan) (hs : p.2.1.length ≤ 5000) : ∀ (n i k : Nat), p.2.1.length - i = n → n < k → rf08_Right_L1 k (p, (i : Int)) = some (bif (p.2.1.drop i).any (fun c => decide (c.2.2.2.1 ≤ p.2.2.1)) then .inr false else .inl ())
  | 0, i, k + 1, hn, hk => by
    rw [List.drop_eq_nil_of_le (by omega)]
    simp only [rf08_Right_L1]
    rw [i_lt, dcF (by omega)]
    rfl
  | n + 1, i, k + 1, hn, hk => by
    have hi : i < p.2.1.length := by omega
    rw [drop_any' (0, 0, 0, 0, 0) hi]
    simp only [rf08_Right_L1]
    rw [i_lt, dcT hi, dcT (Int.natCast_nonneg i), Int.toNat_natCast]
    simp only [cond_true, w64_succ (by omega : i < 4611686018427387904), R8_L1 p hs n (i + 1) k (by omega) (by omega)]
    cases decide ((p.2.1.getD i (0, 0, 0, 0, 0)).2.2.2.1 ≤ p.2.2.1) <;> rfl
theorem Right8_same (p : GPlan) (k : Nat) (h1 : p.1.length ≤ 5000) (h2 : p.2.1.length ≤ 5000) (h3 : ∀ c ∈ p.1, rngC c) (h4 : ∀ r ∈ p.2.1, rngR r) (hk : 12000 < k) : rf08_Right k p = plan_Right k p := by
  have q0 := R8_L0 p (by omega) p.1.length 0 k (by omega) (by omega)
  have q1 := R8_L1 p (by omega) p.2.1.length 0 k (by omega) (by omega)
  rw [Int.natCast_zero, List.drop_zero] at q0 q1
  unfold plan_Right rf08_Right
  simp only [r1_spec p.1 p k (by omega) (by omega), r2_spec p.2.1 p k (by omega) (by omega), Right_spec p.1 k (by omega) h3 (by omega), RightQ_spec p.2.1 k (by omega) h4 (by omega), refRight_spec p.1 k (by omega) (by omega), ref07_Right_spec p.2.1 k (by omega) (by omega), q0, Option.bind_some]
  cases rightB p.1 <;> cases rightQ p.2.1 <;> cases decide (p.2.2.1 < 0) <;> cases decide (2147483647 < p.2.2.1) <;> cases decide (p.2.2.2 < 0) <;> cases decide (1099511627776 < p.2.2.2) <;> cases hA : p.1.any (fun c => decide (c.2.2.2.2.1 ≤ p.2.2.1)) <;> cases hB : p.2.1.any (fun c => decide (c.2.2.2.1 ≤ p.2.2.1)) <;> first | rfl | (simp only [cond_true, cond_false, q1, hB, Option.bind_some])
theorem fin1 (o : List GContact × Int) (p : GPlan) (v : Int) (k : Nat) (h1 : o.1.length ≤ 100000) (h2 : p.2.1.length ≤ 100000) : (bif !decide (o.2 = 0) then some (p, o.2) else (rf08_Copy k (o.1, p.2.1, p.2.2.1, v)).bind fun x => some (x, (0 : Int))) = (bif !decide (o.2 = 0) then some (p, o.2) else some ((o.1, p.2.1, p.2.2.1, v), 0)) := by
  rw [Copy8_spec (o.1, p.2.1, p.2.2.1, v) k (by show o.1.length ≤ _; omega) (by show p.2.1.length ≤ _; omega)]
  rfl
theorem fin2 (o : List GRange × Int) (p : GPlan) (v : Int) (k : Nat) (h1 : o.1.length ≤ 100000) (h2 : p.1.length ≤ 100000) : (bif !decide (o.2 = 0) then some (p, o.2) else (rf08_Copy k (p.1, o.1, p.2.2.1, v)).bind fun x => some (x, (0 : Int))) = (bif !decide (o.2 = 0) then some (p, o.2) else some ((p.1, o.1, p.2.2.1, v), 0)) := by
  rw [Copy8_spec (p.1, o.1, p.2.2.1, v) k (by show p.1.length ≤ _; omega) (by show o.1.length ≤ _; omega)]
  rfl
theorem AddR_len (l : List GContact) (c : GContact) (r : Nat) : (AddR l c r).1.length ≤ l.length + 1 := by
  unfold AddR
  repeat' split
  all_goals first | exact Nat.le_succ _ | (show (insAt l r c).length ≤ _; rw [ins_len]; exact Nat.le_refl _)
theorem addQ_len (l : List GRange) (c : GRange) (r : Nat) : (addQ l c r).1.length ≤ l.length + 1 := by
  unfold addQ
  repeat' split
  all_goals first | exact Nat.le_succ _ | (show (insR l r c).length ≤ _; rw [insR_len]; exact Nat.le_refl _)
theorem Apply8_same {p : GPlan} (h : RightP p) (h1 : p.1.length ≤ 5000) (h2 : p.2.1.length ≤ 5000) (d : GDirective) (hd : rngD d) (k : Nat) (hk : 12000 < k) : rf08_Apply k (p, d) = plan_Apply k (p, d) := by
  obtain ⟨hc1, hv, hcl, hrl, hRT, hRR⟩ := h
  unfold plan_Apply rf08_Apply
  simp only [Copy_spec p k (by omega) (by omega), Copy8_spec p k (by omega) (by omega), past_spec, Option.bind_some, dir_same k d hd]
  obtain ⟨b, hb⟩ := direct_Right_some k d hd
  simp only [hb, Option.bind_some]
  cases b with
  | false => rfl
  | true =>
    simp only [cond_true]
    have eC : (d.2.2.1, d.2.2.2.1, d.2.2.2.2.1, d.2.2.2.2.2.1, d.2.2.2.2.2.2.1, d.2.2.2.2.2.2.2.1) = dC d := rfl
    have eR : d.2.2.2.2.2.2.2.2 = dR d := rfl
    simp only [eC, eR]
    obtain ⟨vo, vk⟩ := dir_valid hd hb
    rcases vk with k1 | k1
    · have hk1 : decide (d.2.1 = 1) = true := dcT k1
      simp only [hk1, cond_true]
      rcases vo with o1 | o2 | o3
      · rw [direct_add1 k d hd o1 k1] at hb
        have hb := Option.some.inj hb
        simp only [Bool.and_eq_true, decide_eq_true_eq] at hb
        obtain ⟨r, _, _, _, ha⟩ := contacts_Add_spec p.1 (dC d) k (by omega) hd.1 hRT.1.sort (by omega)
        have hl := AddR_len p.1 (dC d) r
        have e1 : (d.1 == 1 && d.2.1 == 1) = true := by simp [o1, k1]
        have e2 : decide (d.1 = 1) = true := dcT o1
        have e3 : decide (max (dC d).2.2.2.2.1 (dR d).2.2.2.1 ≤ p.2.2.1) = decide (d.2.2.2.2.2.2.1 ≤ p.2.2.1) := by
          rw [hb.1, Bool.eq_iff_iff]
          simp only [decide_eq_true_eq]
          show max d.2.2.2.2.2.2.1 0 ≤ _ ↔ _
          omega
        simp only [e1, e2, e3, cond_true, Bool.true_and, ← adds_same p.1 (dC d) k (by omega) hd.1 hRT.1.1 hRT.1.sort (by omega), ha, Option.bind_some, fin1 (AddR p.1 (dC d) r) p _ k (by omega) (by omega)]
      · have e1 : (d.1 == 1 && d.2.1 == 1) = false := by simp [o2]
        have e1b : (d.1 == 2 && d.2.1 == 1) = true := by simp [o2, k1]
        have e2 : decide (d.1 = 1) = false := dcF (by omega)
        have e3 : decide (d.1 = 2) = true := dcT o2
        have hl := List.length_filter_le (keepC d.2.2.1) p.1
        simp only [e1, e1b, e2, e3, cond_true, cond_false, Bool.false_and, contacts_Delete_spec p.1 d.2.2.1 k (by omega) (by omega), ref06_Delete_spec p.1 d.2.2.1 k (by omega) (by omega), Option.bind_some]
        exact fin1 (p.1.filter (keepC d.2.2.1), if (p.1.filter (keepC d.2.2.1)).length = p.1.length then 6 else 0) p _ k (by show (p.1.filter (keepC d.2.2.1)).length ≤ _; omega) (by omega)
      · have e1 : (d.1 == 1 && d.2.1 == 1) = false := by simp [o3]
        have e1b : (d.1 == 2 && d.2.1 == 1) = false := by simp [o3]
        have e1c : (d.1 == 3 && d.2.1 == 1) = true := by simp [o3, k1]
        have e2 : decide (d.1 = 1) = false := dcF (by omega)
        have e3 : decide (d.1 = 2) = false := dcF (by omega)
        have hl : (chgC p.1 d.2.2.1 d.2.2.2.2.2.2.2.1).1.length ≤ 5000 := by
          rcases Change_cases hRT.1 d.2.2.1 d.2.2.2.2.2.2.2.1 with ⟨e, _, ha⟩ | ⟨j, hj, _, ha, _⟩
          · rw [ha]; exact h1
          · rw [ha]; simp only [List.length_set]; exact h1
        simp only [e1, e1b, e1c, e2, e3, cond_true, cond_false, Bool.false_and, contacts_Change_spec p.1 d.2.2.1 d.2.2.2.2.2.2.2.1 k (by omega) (by omega), ref06_Change_spec p.1 d.2.2.1 d.2.2.2.2.2.2.2.1 k (by omega) (by omega), Option.bind_some]
        exact fin1 (chgC p.1 d.2.2.1 d.2.2.2.2.2.2.2.1) p _ k (by omega) (by omega)
    · have hk1 : decide (d.2.1 = 1) = false := dcF (by omega)
      have n1 : (d.1 == 1 && d.2.1 == 1) = false := by simp [k1]
      have n2 : (d.1 == 2 && d.2.1 == 1) = false := by simp [k1]
      have n3 : (d.1 == 3 && d.2.1 == 1) = false := by simp [k1]
      simp only [hk1, n1, n2, n3, cond_false]
      rcases vo with o1 | o2 | o3
      · rw [direct_add2 k d hd o1 k1] at hb
        have hb := Option.some.inj hb
        simp only [Bool.and_eq_true, decide_eq_true_eq] at hb
        obtain ⟨r, _, _, _, ha⟩ := AddQ_spec p.2.1 (dR d) k (by omega) hd.2 hRR.1.sort (by omega)
        have hl := addQ_len p.2.1 (dR d) r
        have e1 : (d.1 == 1 && d.2.1 == 2) = true := by simp [o1, k1]
        have e2 : decide (d.1 = 1) = true := dcT o1
        have e3 : decide (max (dC d).2.2.2.2.1 (dR d).2.2.2.1 ≤ p.2.2.1) = decide ((dR d).2.2.2.1 ≤ p.2.2.1) := by
          rw [hb.1, Bool.eq_iff_iff]
          simp only [decide_eq_true_eq]
          omega
        simp only [e1, e2, e3, cond_true, Bool.true_and, AddE_same hRR.1 (by omega) (dR d) hd.2 k (by omega), ha, Option.bind_some, fin2 (addQ p.2.1 (dR d) r) p _ k (by omega) (by omega)]
        try rfl
      · have e1 : (d.1 == 1 && d.2.1 == 2) = false := by simp [o2]
        have e1b : (d.1 == 2 && d.2.1 == 2) = true := by simp [o2, k1]
        have e2 : decide (d.1 = 1) = false := dcF (by omega)
        have e3 : decide (d.1 = 2) = true := dcT o2
        obtain ⟨o, ho, hl⟩ : ∃ o, ranges_Delete k (p.2.1, dR d) = some o ∧ o.1.length ≤ 5000 := by
          rcases DeleteR_cases hRR.1 (by omega) (dR d) k (by omega) with ⟨e, _, ha⟩ | ⟨l', ha, _, hl, _⟩
          · exact ⟨_, ha, h2⟩
          · exact ⟨_, ha, by show l'.length ≤ 5000; omega⟩
        simp only [e1, e1b, e2, e3, cond_true, cond_false, Bool.false_and, DeleteE_same hRR.1 (by omega) (dR d) k (by omega), ho, Option.bind_some]
        exact fin2 o p _ k (by omega) (by omega)
      · have e1 : (d.1 == 1 && d.2.1 == 2) = false := by simp [o3]
        have e1b : (d.1 == 2 && d.2.1 == 2) = false := by simp [o3]
        have e2 : decide (d.1 = 1) = false := dcF (by omega)
        have e3 : decide (d.1 = 2) = false := dcF (by omega)
        obtain ⟨o, ho, hl⟩ : ∃ o, ranges_Change k (p.2.1, dR d) = some o ∧ o.1.length ≤ 5000 := by
          rcases ChangeR_cases hRR.1 (by omega) (dR d) k (by omega) with ⟨e, _, ha⟩ | ⟨j, hj, ha, _⟩
          · exact ⟨_, ha, h2⟩
          · exact ⟨_, ha, by simp only [List.length_set]; exact h2⟩
        simp only [e1, e1b, e2, e3, cond_false, Bool.false_and, ChangeE_same hRR.1 (by omega) (dR d) k (by omega), ho, Option.bind_some]
        exact fin2 o p _ k (by omega) (by omega)
theorem Advance8_same {p : GPlan} (h : RightP p) (h1 : p.1.length ≤ 5000) (h2 : p.2.1.length ≤ 5000) (now : Int) (k : Nat) (hk : 12000 < k) : rf08_Advance k (p, now) = plan_Advance k (p, now) := by
  obtain ⟨hc1, hv, _⟩ := h
  unfold plan_Advance rf08_Advance
  simp only [Copy_spec p k (by omega) (by omega), Copy8_spec p k (by omega) (by omega), contacts_Expire_spec p.1 now k (by omega) (by omega), ref06_Expire_spec p.1 now k (by omega) (by omega), ExpireR_spec p.2.1 now k (by omega) (by omega), ExpireE_spec p.2.1 now k (by omega) (by omega), Option.bind_some]
  by_cases g1 : now < p.2.2.1
  · rw [dcT g1]; rfl
  by_cases g2 : 2147483647 < now
  · rw [dcF g1, dcT g2]; rfl
  rw [dcF g1, dcF g2]
  by_cases g3 : p.2.2.1 < now
  · rw [dcT g3, dcF (show ¬ now = p.2.2.1 by omega)]; rfl
  · rw [dcF g3, dcT (show now = p.2.2.1 by omega)]; rfl
end Ex
namespace Ex.Tx
open Go Go.RowKit Go.Lib Go.Proofs.YthlhbnaloefncaaGreatDoor.Wrd Go.Proofs.YthlhbnaloefncaaGreatDoor.Dig
theorem bz (x : Int) : (x == (0 : Int)) = decide (x = 0) := by
  by_cases h : x = 0
  · subst h; rfl
  · rw [dcF h]; exact beq_eq_false_iff_ne.2 h
theorem rcontact_sp (k : Nat) (i f t s e r : Int) : rf03_Contact k (i, f, t, s, e, r) = some (cOk i f t s e r) := by
  unfold rf03_Contact rf03_pair rf03_Node
  simp only [Option.bind_some, bif_id, bif_and, Bool.and_false]
  congr 1
  rw [Bool.eq_iff_iff]
  simp only [Bool.and_eq_true, decide_eq_true_eq, Bool.not_eq_true', decide_eq_false_iff_not, cOk, and_true]
  omega
theorem rrange_sp (k : Nat) (f t s e y : Int) : rf03_Range k (f, t, s, e, y) = some (rOk f t s e y) := by
  unfold rf03_Range rf03_pair rf03_Node
  simp only [Option.bind_some, bif_id, bif_and, Bool.and_false]
  congr 1
  rw [Bool.eq_iff_iff]
  simp only [Bool.and_eq_true, decide_eq_true_eq, Bool.not_eq_true', decide_eq_false_iff_not, rOk, and_true]
  omega
theorem rright_sp (k : Nat) (d : GDirective) : rf04_Right k d = some (dR d) := by
  obtain ⟨o, q, i, f, t, s, e, r, p, u, v, x, y⟩ := d
  simp only [dR]
  unfold rf04_Right rf04_noRange rf04_noContact rf04_whole
  simp only [rcontact_sp, rrange_sp, Option.bind_some, bif_id, bif_and]
  unfold rightB
  by_cases q1 : q = 1
  · subst q1
    by_cases o1 : o = 1
    · subst o1; simp [bz, zR, bif_and]
    · by_cases o2 : o = 2
      · subst o2; simp [bz, zR, bif_and]
      · by_cases o3 : o = 3
        · subst o3; simp [bz, zR, bif_and]
        · simp [bz, zR, bif_and, o1, o2, o3]
  · by_cases q2 : q = 2
    · subst q2
      by_cases o1 : o = 1
      · subst o1; simp [bz, zC, bif_and]
      · by_cases o2 : o = 2
        · subst o2
          by_cases y0 : y = 0
          · subst y0; simp [bz, zC, bif_and]
          · simp [bz, zC, bif_and, y0]
        · by_cases o3 : o = 3
          · subst o3; simp [bz, zC, bif_and]
          · simp [bz, zC, bif_and, o1, o2, o3]
    · simp [q1, q2]
theorem itoa_nn {n : Int} (h : 0 ≤ n) : itoa n = decDigits n.toNat := by unfold itoa; rw [if_neg (by omega)]
theorem one_text (k : Nat) {m : Int} (h0 : 0 ≤ m) (h1 : m < 10) (hk : 1 ≤ k) : rf01_Text k m = some (ofL (itoa m)) := by
  obtain ⟨k, rfl⟩ : ∃ q, k = q + 1 := ⟨k - 1, by omega⟩
  rw [rf01_Text, dcF (by omega), cond_false, dcT h1, cond_true, itoa_nn h0, dec_small (by omega), Int.tmod_eq_emod_of_nonneg h0, w64' ⟨by omega, by omega⟩]
  unfold strOfNums ofL
  congr 3
  simp only [List.map_cons, List.map_nil]
  congr 2
  simp [IntKind.wrap, IntKind.signed, IntKind.bits]
  omega
theorem ref_text (j : Nat) : ∀ (n : Int) (k : Nat), j ≤ 1000 → 0 ≤ n → n ≤ 2147483647 → n.toNat < 10 ^ (j + 1) → j + 2 ≤ k → rf01_Text k n = some (ofL (itoa n)) := by
  induction j with
  | zero => intro n k _ h0 h1 h2 hk; exact one_text k h0 (by omega) (by omega)
  | succ j ih =>
    intro n k hj h0 h1 h2 hk
    have hp : 10 ^ (j + 1 + 1) = 10 ^ (j + 1) * 10 := Nat.pow_succ ..
    by_cases hl : n < 10
    · exact one_text k h0 hl (by omega)
    · obtain ⟨k, rfl⟩ : ∃ q, k = q + 1 := ⟨k - 1, by omega⟩
      rw [rf01_Text, dcF (by omega), cond_false, dcF hl, cond_false, Int.tdiv_eq_ediv_of_nonneg h0, Int.tmod_eq_emod_of_nonneg h0, w64' (n := n / 10) ⟨by omega, by omega⟩, w64' (n := 48 + n % 10) ⟨by omega, by omega⟩, ih (n / 10) k (by omega) (by omega) (by omega) (by omega) (by omega)]
      have es : strOfNums [IntKind.wrap .u8 (48 + n % 10)] = ofL [UInt8.ofNat (48 + n.toNat % 10)] := by
        unfold strOfNums ofL
        simp only [List.map_cons, List.map_nil]
        congr 4
        simp [IntKind.wrap, IntKind.signed, IntKind.bits]
        omega
      have l1 : (itoa (n / 10)).length ≤ j + 1 := by rw [itoa_nn (by omega)]; exact dec_len _ j (by omega)
      simp only [Option.bind_some]
      rw [es, dcT (by rw [ofL_size, ofL_size]; simp; omega), cond_true, ofL_append, itoa_nn (n := n) h0, itoa_nn (by omega), dec_big (u := n.toNat) (by omega), show (n / 10).toNat = n.toNat / 10 by omega]
theorem rtext_sp (k : Nat) {n : Int} (h0 : 0 ≤ n) (h1 : n ≤ 2147483647) (hk : 12 ≤ k) : rf01_Text k n = some (tB n) := by
  rw [ref_text 9 n k (by omega) h0 h1 (by omega) (by omega), ← tB_data h0 h1, ofL_data]
def rgo (s : List UInt8) (high : Int) : List UInt8 → Int → Int × Bool
  | [], n => if high < n then (0, false) else if itoa n = s then (n, true) else (0, false)
  | c :: l, n => if (c.toNat : Int) < 48 then (0, false) else if 57 < (c.toNat : Int) then (0, false) else
      if (9223372036854775807 - ((c.toNat : Int) - 48)) / 10 < n then (0, false) else rgo s high l (n * 10 + ((c.toNat : Int) - 48))
theorem rgo_true (s : List UInt8) (high : Int) : ∀ (l : List UInt8) (n m : Int), 0 ≤ n → n ≤ 9223372036854775807 → rgo s high l n = (m, true) → 0 ≤ m ∧ m ≤ 9223372036854775807 ∧ m ≤ high ∧ itoa m = s
  | [], n, m, h0, h1, h => by
    unfold rgo at h
    split at h
    · simp at h
    · split at h
      · rename_i h2 h3
        obtain rfl : n = m := (Prod.mk.inj h).1
        exact ⟨h0, h1, by omega, h3⟩
      · simp at h
  | c :: l, n, m, h0, h1, h => by
    unfold rgo at h
    split at h
    · simp at h
    · split at h
      · simp at h
      · split at h
        · simp at h
        · exact rgo_true s high l _ m (by omega) (by omega) h
theorem rgo_false (s : List UInt8) (high : Int) : ∀ (l : List UInt8) (n m : Int), rgo s high l n = (m, false) → m = 0
  | [], n, m, h => by
    unfold rgo at h
    split at h
    · exact (Prod.mk.inj h).1.symm
    · split at h
      · simp at h
      · exact (Prod.mk.inj h).1.symm
  | c :: l, n, m, h => by
    unfold rgo at h
    split at h
    · exact (Prod.mk.inj h).1.symm
    · split at h
      · exact (Prod.mk.inj h).1.symm
      · split at h
        · exact (Prod.mk.inj h).1.symm
        · exact rgo_false s high l _ m h
theorem rgo_of_pgo (s : List UInt8) (high : Int) : ∀ (l : List UInt8) (b : Bool) (n m : Int), pgo l b n = some m → m ≤ high → itoa m = s → rgo s high l n = (m, true)
  | [], b, n, m, h, h1, h2 => by
    simp only [pgo, Option.some.injEq] at h
    subst h
    unfold rgo
    rw [if_neg (by omega), if_pos h2]
  | c :: l, b, n, m, h, h1, h2 => by
    rw [pgo_cons] at h
    cases hs : stepI c b n with
    | none => rw [hs] at h; simp at h
    | some q =>
      rw [hs] at h
      obtain ⟨a1, a2, a3, a4, rfl⟩ := stepI_some hs
      unfold rgo
      rw [if_neg (by omega), if_neg (by omega), if_neg (by omega)]
      exact rgo_of_pgo s high l false _ m h h1 h2
theorem rgo_parse (s : List UInt8) (high : Int) : rgo s high s 0 = parseI s high := by
  cases hp : parseI s high with
  | mk n b =>
    cases b with
    | true =>
      obtain ⟨h0, h1, h2, h3⟩ := parse_true hp
      have hg : pgo s true 0 = some n := by rw [← h3, itoa_nn h0]; rw [pgo_dec n.toNat (by omega)]; congr 1; omega
      exact rgo_of_pgo s high s true 0 n hg h1 h3
    | false =>
      have hn := parse_false hp
      subst hn
      cases hr : rgo s high s 0 with
      | mk m b =>
        cases b with
        | true =>
          obtain ⟨h0, h1, h2, h3⟩ := rgo_true s high s 0 m (by omega) (by omega) hr
          rw [← h3, parse_of h0 h2 h1] at hp
          simp at hp
        | false => rw [rgo_false s high s 0 m hr]
def rend (k : Nat) (o : (ByteArray × Int × Int) ⊕ (Int × Bool)) : Option (Int × Bool) :=
    match o with
    | .inl o_2 =>
      bif decide (o_2.2.1 < o_2.2.2) then
        some ((0, false))
      else
        (rf01_Text k o_2.2.2).bind fun o_4 =>
          bif !o_4.data.toList == o_2.1.data.toList then
            some ((0, false))
          else
            some ((o_2.2.2, true))
    | .inr o_2 =>
      some (o_2)
theorem byteI_nat (s : ByteArray) (i : Nat) (h : i < s.size) : byteI s (i : Int) = ((s[i]'h).toNat : Int) := by
  unfold byteI
  simp [h]
  rfl
theorem refparse_L0 (k' : Nat) (hk' : 12 ≤ k') (s : ByteArray) (hs : s.size ≤ 100000) (d : Nat) : ∀ (k i : Nat) (n : Int), i + d = s.size → d < k → 0 ≤ n → n ≤ 9223372036854775807 →
    (rf01_Parse_L0 k (s, 2147483647, n, (i : Int))).bind (rend k') = some (rgo s.data.toList 2147483647 (s.data.toList.drop i) n) := by
  induction d with
  | zero =>
    intro k i n hi hk h0 h1
    obtain ⟨k, rfl⟩ : ∃ q, k = q + 1 := ⟨k - 1, by omega⟩
    rw [rf01_Parse_L0, lt_no (by omega), cond_false, List.drop_of_length_le (by simp; omega)]
    simp only [Option.bind_some, rend]
    unfold rgo
    by_cases hh : 2147483647 < n
    · rw [dcT hh, cond_true, if_pos hh]
    · rw [dcF hh, cond_false, if_neg hh, rtext_sp k' h0 (by omega) hk']
      simp only [Option.bind_some]
      rw [tB_data h0 (by omega)]
      by_cases he : itoa n = s.data.toList
      · rw [if_pos he, he]; simp
      · rw [if_neg he, show (itoa n == s.data.toList) = false from beq_eq_false_iff_ne.2 he]; rfl
  | succ d ih =>
    intro k i n hi hk h0 h1
    obtain ⟨k, rfl⟩ : ∃ q, k = q + 1 := ⟨k - 1, by omega⟩
    have hlt : i < s.size := by omega
    have h8 : (s[i]'hlt).toNat < 256 := (s[i]'hlt).toNat_lt
    rw [drop_at s i hlt]
    rw [rf01_Parse_L0, lt_yes hlt, ge0, byteI_nat s i hlt]
    simp only [cond_true, Bool.and_self]
    unfold rgo
    rw [w64' (n := (((s[i]'hlt).toNat : Int))) ⟨by omega, by omega⟩, w64' (n := (((s[i]'hlt).toNat : Int)) - 48) ⟨by omega, by omega⟩]
    by_cases c1 : ((s[i]'hlt).toNat : Int) < 48
    · rw [dcT (by omega), cond_true, if_pos c1]; rfl
    · rw [dcF (by omega), cond_false, if_neg c1]
      by_cases c2 : 57 < ((s[i]'hlt).toNat : Int)
      · rw [dcT (by omega), cond_true, if_pos c2]; rfl
      · rw [dcF (by omega), cond_false, if_neg c2, w64' (n := 9223372036854775807 - (((s[i]'hlt).toNat : Int) - 48)) ⟨by omega, by omega⟩, Int.tdiv_eq_ediv_of_nonneg (by omega),
          w64' (n := (9223372036854775807 - (((s[i]'hlt).toNat : Int) - 48)) / 10) ⟨by omega, by omega⟩]
        by_cases c3 : (9223372036854775807 - (((s[i]'hlt).toNat : Int) - 48)) / 10 < n
        · rw [dcT c3, cond_true, if_pos c3]; rfl
        · rw [dcF c3, cond_false, if_neg c3, w64' (n := 10 * n) ⟨by omega, by omega⟩, w64' (n := 10 * n + _) ⟨by omega, by omega⟩, w64_succ (by omega),
            show 10 * n + (((s[i]'hlt).toNat : Int) - 48) = n * 10 + (((s[i]'hlt).toNat : Int) - 48) by omega]
          exact ih k (i + 1) _ (by omega) (by omega) (by omega) (by omega)
theorem rparse_sp (k : Nat) {s : ByteArray} (hs : s.size ≤ 100000) (hk : s.size < k) (hk2 : 12 ≤ k) : rf01_Parse k (s, 2147483647) = some (parseI s.data.toList 2147483647) := by
  have h := refparse_L0 k hk2 s hs s.size k 0 0 (by omega) hk (by omega) (by omega)
  rw [List.drop_zero, rgo_parse] at h
  exact h
theorem rfirst_sp (k : Nat) {d : GDirective} (hp : (d.1, d.2.1) ∈ fKsG) : rf04_first k d = some [ofL (opB d.1), ofL (kdB d.2.1)] := by
  obtain ⟨o, q, i, f, t, s, e, r, p, u, v, x, y⟩ := d
  simp only [fKsG, List.mem_cons, List.not_mem_nil, or_false, Prod.mk.injEq] at hp
  rcases hp with ⟨rfl, rfl⟩ | ⟨rfl, rfl⟩ | ⟨rfl, rfl⟩ | ⟨rfl, rfl⟩ | ⟨rfl, rfl⟩ | ⟨rfl, rfl⟩ <;> kernel_rfl
theorem rnumbers_sp (k : Nat) (d : GDirective) : rf04_numbers k d = some (vals d) := by
  obtain ⟨o, q, i, f, t, s, e, r, p, u, v, x, y⟩ := d
  unfold rf04_numbers vals
  by_cases q1 : q = 1 <;> by_cases o1 : o = 1 <;> by_cases o2 : o = 2 <;> simp [q1, o1, o2]
end Ex.Tx
namespace Ex.Tx
open Go Go.RowKit Go.Lib Go.Proofs.YthlhbnaloefncaaGreatDoor.Wrd Go.Proofs.YthlhbnaloefncaaGreatDoor.Dig
theorem pn_L2 (l : List ByteArray) (hl : l.length ≤ 1000000) (hs : ∀ a ∈ l, a.size ≤ 100000) (t2 : GDirective) (op kind : Int) : ∀ (n i k : Nat) (ns : List Int), i + n = l.length → n + 100001 < k → ns.length ≤ i →
    rf04_Parse_L2 k (l, t2, op, kind, ns, (i : Int)) = some (match pn (l.drop i) with | some ms => .inl (t2, op, kind, ns ++ ms) | none => .inr (d0, 2))
  | 0, i, k, ns, h, hk, ho => by
    obtain ⟨k, rfl⟩ : ∃ m, k = m + 1 := ⟨k - 1, by omega⟩
    rw [rf04_Parse_L2, lt_no (by omega), List.drop_eq_nil_of_le (by omega), pn_nil]
    simp
  | n + 1, i, k, ns, h, hk, ho => by
    obtain ⟨k, rfl⟩ : ∃ m, k = m + 1 := ⟨k - 1, by omega⟩
    have hi : i < l.length := by omega
    have hz := hs l[i] (List.getElem_mem hi)
    rw [rf04_Parse_L2, lt_yes hi, ge0, getD_nat _ _ hi, rparse_sp k hz (by omega) (by omega), w64_succ (by omega), List.drop_eq_getElem_cons hi, pn_cons]
    simp only [cond_true, Option.bind_some]
    cases hp : (parseI l[i].data.toList 2147483647).2 with
    | false => rfl
    | true =>
      simp only [cond_true]
      rw [dcT (by simp; omega), cond_true, pn_L2 l hl hs t2 op kind n (i + 1) k _ (by omega) (by omega) (by simp; omega)]
      cases pn (l.drop (i + 1)) <;> simp
def fitR (l : List ByteArray) (p : Int × Int) : Bool := decide ((l.length : Int) = 2 + nOf p) && hit l p
def resR (l : List ByteArray) (p : Int × Int) : GDirective × Int := match pn (l.drop 2) with
  | none => (d0, 2)
  | some ns => outD (mkD p ns)
theorem made_sp (k : Nat) {p : Int × Int} (hp : p ∈ fKsG) {ns : List Int} (h : (ns.length : Int) = nOf p) : rf04_made k (p.1, p.2, ns) = some (mkD p ns) := by
  simp only [fKsG, List.mem_cons, List.not_mem_nil, or_false] at hp
  rcases hp with rfl | rfl | rfl | rfl | rfl | rfl
  · match ns, (show ns.length = 6 from by simpa [nOf] using (by omega : (ns.length : Int) = 6 → ns.length = 6) h) with
    | [a, b, c, d, e, f], _ => rfl
  · match ns, (show ns.length = 1 from by simpa [nOf] using (by omega : (ns.length : Int) = 1 → ns.length = 1) h) with
    | [a], _ => rfl
  · match ns, (show ns.length = 2 from by simpa [nOf] using (by omega : (ns.length : Int) = 2 → ns.length = 2) h) with
    | [a, b], _ => rfl
  · match ns, (show ns.length = 5 from by simpa [nOf] using (by omega : (ns.length : Int) = 5 → ns.length = 5) h) with
    | [a, b, c, d, e], _ => rfl
  · match ns, (show ns.length = 3 from by simpa [nOf] using (by omega : (ns.length : Int) = 3 → ns.length = 3) h) with
    | [a, b, c], _ => rfl
  · match ns, (show ns.length = 4 from by simpa [nOf] using (by omega : (ns.length : Int) = 4 → ns.length = 4) h) with
    | [a, b, c, d], _ => rfl
theorem vals_n {p : Int × Int} (hp : p ∈ fKsG) : ((vals (p.1, p.2, 0, 0, 0, 0, 0, 0, 0, 0, 0, 0, 0)).length : Int) = nOf p := by
  simp only [fKsG, List.mem_cons, List.not_mem_nil, or_false] at hp
  rcases hp with rfl | rfl | rfl | rfl | rfl | rfl <;> rfl
theorem L1_step (l : List ByteArray) (hl : l.length ≤ 5000) (hs : ∀ a ∈ l, a.size ≤ 100000) (t2 : GDirective) {p : Int × Int} (hp : p ∈ fKsG) (k : Nat) (hk : 110120 ≤ k) :
    rf04_Parse_L1 (k + 1) (l, t2, p.1, p.2) = bif fitR l p then some (.inr (resR l p)) else rf04_Parse_L1 k (l, t2, p.1, w64 (p.2 + 1)) := by
  have hq : p.2 ≤ 2 := by
    simp only [fKsG, List.mem_cons, List.not_mem_nil, or_false] at hp
    rcases hp with rfl | rfl | rfl | rfl | rfl | rfl <;> decide
  have hn := nOf_pos p
  rw [rf04_Parse_L1, dcT hq, cond_true, rfirst_sp k (d := (p.1, p.2, 0, 0, 0, 0, 0, 0, 0, 0, 0, 0, 0)) hp, rnumbers_sp]
  simp only [Option.bind_some]
  rw [show Int.ofNat (vals (p.1, p.2, 0, 0, 0, 0, 0, 0, 0, 0, 0, 0, 0)).length = nOf p from vals_n hp, w64' (n := 2 + nOf p) ⟨by omega, by omega⟩]
  unfold fitR
  by_cases hlen : (l.length : Int) = 2 + nOf p
  · rw [show decide (Int.ofNat l.length = 2 + nOf p) = true from dcT hlen, dcT hlen]
    simp only [Bool.not_true, cond_false, Bool.true_and]
    have g0 : 0 < l.length := by omega
    have g1 : 1 < l.length := by omega
    have g2 : 2 < l.length := by omega
    rw [show decide ((0 : Int) < Int.ofNat l.length) = true from dcT (by show (0 : Int) < (l.length : Int); omega), show decide ((1 : Int) < Int.ofNat l.length) = true from dcT (by show (1 : Int) < (l.length : Int); omega)]
    unfold hit
    rw [show decide ((2 : Int) < (l.length : Int)) = true from dcT (by omega)]
    simp only [cond_true, Bool.true_and, List.length_cons, List.length_nil, show Int.toNat 0 = 0 from rfl, show Int.toNat 1 = 1 from rfl, List.getD_cons_zero, List.getD_cons_succ, data_ofL]
    rw [show decide ((0 : Int) < Int.ofNat (0 + 1 + 1)) = true from rfl, show decide ((1 : Int) < Int.ofNat (0 + 1 + 1)) = true from rfl]
    simp only [cond_true]
    cases h1 : ((l.getD 0 ⟨#[]⟩).data.toList == opB p.1) with
    | false => rfl
    | true =>
      cases h2 : ((l.getD 1 ⟨#[]⟩).data.toList == kdB p.2) with
      | false => rfl
      | true =>
        simp only [Bool.not_true, cond_false, Bool.and_self, cond_true]
        have hL := pn_L2 l (by omega) hs t2 p.1 p.2 (l.length - 2) 2 k [] (by omega) (by omega) (by simp)
        rw [show ((2 : Nat) : Int) = 2 from rfl] at hL
        rw [hL]
        unfold resR
        cases hpn : pn (l.drop 2) with
        | none => rfl
        | some ns =>
          have hnl : (ns.length : Int) = nOf p := by rw [pn_len hpn, List.length_drop]; omega
          simp only [Option.bind_some, List.nil_append, made_sp k hp hnl, rright_sp]
          unfold outD
          cases dR (mkD p ns) <;> rfl
  · rw [show decide (Int.ofNat l.length = 2 + nOf p) = false from dcF hlen, dcF hlen]
    rfl
theorem L1_end (l : List ByteArray) (t2 : GDirective) (op : Int) (k : Nat) : rf04_Parse_L1 (k + 1) (l, t2, op, 3) = some (.inl (l, t2, op)) := rfl
theorem L1_all (l : List ByteArray) (hl : l.length ≤ 5000) (hs : ∀ a ∈ l, a.size ≤ 100000) (t2 : GDirective) {op : Int} (h1 : (op, 1) ∈ fKsG) (h2 : (op, 2) ∈ fKsG) (k : Nat) (hk : 110130 ≤ k) :
    rf04_Parse_L1 k (l, t2, op, 1) = some (bif fitR l (op, 1) then .inr (resR l (op, 1)) else bif fitR l (op, 2) then .inr (resR l (op, 2)) else .inl (l, t2, op)) := by
  obtain ⟨k, rfl⟩ : ∃ m, k = m + 3 := ⟨k - 3, by omega⟩
  rw [L1_step l hl hs t2 h1 (k + 2) (by omega)]
  simp only [e11]
  rw [L1_step l hl hs t2 h2 (k + 1) (by omega)]
  simp only [e21]
  rw [L1_end]
  cases fitR l (op, 1) <;> cases fitR l (op, 2) <;> rfl
theorem L0_step (l : List ByteArray) (hl : l.length ≤ 5000) (hs : ∀ a ∈ l, a.size ≤ 100000) (t2 : GDirective) {op : Int} (ho : op ≤ 3) (h1 : (op, 1) ∈ fKsG) (h2 : (op, 2) ∈ fKsG) (k : Nat) (hk : 110130 ≤ k) :
    rf04_Parse_L0 (k + 1) (l, t2, op) = bif fitR l (op, 1) then some (.inr (resR l (op, 1))) else bif fitR l (op, 2) then some (.inr (resR l (op, 2))) else rf04_Parse_L0 k (l, t2, w64 (op + 1)) := by
  rw [rf04_Parse_L0, dcT ho, cond_true, L1_all l hl hs t2 h1 h2 k hk]
  simp only [Option.bind_some]
  cases fitR l (op, 1) <;> cases fitR l (op, 2) <;> rfl
theorem L0_end (l : List ByteArray) (t2 : GDirective) (k : Nat) : rf04_Parse_L0 (k + 1) (l, t2, 4) = some (.inl t2) := rfl
theorem fit_hit {l : List ByteArray} {p : Int × Int} (h : fitR l p = true) : hit l p = true := by
  unfold fitR at h
  exact (Bool.and_eq_true_iff.1 h).2
theorem fit_len {l : List ByteArray} {p : Int × Int} (h : fitR l p = true) : (l.length : Int) = 2 + nOf p := by
  unfold fitR at h
  exact of_decide_eq_true (Bool.and_eq_true_iff.1 h).1
theorem fit_res {l : List ByteArray} {p : Int × Int} (hp : p ∈ fKsG) (h : fitR l p = true) : parseB l = resR l p := by
  unfold parseB resR
  rw [find_hit hp (fit_hit h)]
  simp only [dcT (fit_len h), cond_true]
  cases pn (l.drop 2) <;> rfl
theorem fit_none {l : List ByteArray} (h : ∀ p ∈ fKsG, fitR l p = false) : parseB l = (d0, 2) := by
  unfold parseB
  cases hf : fKsG.find? (hit l) with
  | none => rfl
  | some p =>
    have := h p (List.mem_of_find?_eq_some hf)
    unfold fitR at this
    rw [List.find?_some hf, Bool.and_true] at this
    simp only [this, cond_false]
theorem rParse_sp (k : Nat) {l : List ByteArray} (hl : l.length ≤ 5000) (hs : ∀ a ∈ l, a.size ≤ 100000) (hk : 110140 ≤ k) : rf04_Parse k l = some (parseB l) := by
  unfold rf04_Parse
  have hL : rf04_Parse_L0 k (l, d0, 1) = some (bif fitR l (1, 1) then .inr (resR l (1, 1)) else bif fitR l (1, 2) then .inr (resR l (1, 2)) else bif fitR l (2, 1) then .inr (resR l (2, 1)) else bif fitR l (2, 2) then .inr (resR l (2, 2)) else bif fitR l (3, 1) then .inr (resR l (3, 1)) else bif fitR l (3, 2) then .inr (resR l (3, 2)) else .inl d0) := by
    obtain ⟨k, rfl⟩ : ∃ m, k = m + 4 := ⟨k - 4, by omega⟩
    rw [L0_step l hl hs d0 (op := 1) (by omega) (by decide) (by decide) (k + 3) (by omega), e11, L0_step l hl hs d0 (op := 2) (by omega) (by decide) (by decide) (k + 2) (by omega), e21, L0_step l hl hs d0 (op := 3) (by omega) (by decide) (by decide) (k + 1) (by omega), e31, L0_end]
    cases fitR l (1, 1) <;> cases fitR l (1, 2) <;> cases fitR l (2, 1) <;> cases fitR l (2, 2) <;> cases fitR l (3, 1) <;> cases fitR l (3, 2) <;> rfl
  rw [hL]
  cases h1 : fitR l (1, 1) with
  | true => rw [fit_res (by decide) h1]; rfl
  | false =>
    cases h2 : fitR l (1, 2) with
    | true => rw [fit_res (by decide) h2]; rfl
    | false =>
      cases h3 : fitR l (2, 1) with
      | true => rw [fit_res (by decide) h3]; rfl
      | false =>
        cases h4 : fitR l (2, 2) with
        | true => rw [fit_res (by decide) h4]; rfl
        | false =>
          cases h5 : fitR l (3, 1) with
          | true => rw [fit_res (by decide) h5]; rfl
          | false =>
            cases h6 : fitR l (3, 2) with
            | true => rw [fit_res (by decide) h6]; rfl
            | false =>
              rw [fit_none (fun p hp => by
                simp only [fKsG, List.mem_cons, List.not_mem_nil, or_false] at hp
                rcases hp with rfl | rfl | rfl | rfl | rfl | rfl <;> assumption)]
              rfl
end Ex.Tx
namespace Ex.Tx
open Go Go.RowKit Go.Lib Go.Proofs.YthlhbnaloefncaaGreatDoor.Wrd Go.Proofs.YthlhbnaloefncaaGreatDoor.Dig
theorem of_le_yes {a : Int} {n : Nat} (h : a ≤ (n : Int)) : decide (a ≤ Int.ofNat n) = true := dcT h
theorem extract_sub (s : ByteArray) (i j : Nat) : s.extract ((i : Int)).toNat ((j : Int)).toNat = ofL (sub s i j) := by
  rw [Int.toNat_natCast, Int.toNat_natCast, ← sub_extract, ofL_data]
theorem sub_snoc (s : ByteArray) (f i : Nat) (hf : f ≤ i) (hlt : i < s.size) : sub s f i ++ [s[i]'hlt] = sub s f (i + 1) := by
  rw [← sub_app s f i (i + 1) hf (by omega)]
  congr 1
  unfold sub
  rw [drop_at s i hlt]
  simp
theorem sub_self (s : ByteArray) (i : Nat) : sub s i i = [] := by unfold sub; simp
theorem byteI_is (s : ByteArray) (i : Nat) (h : i < s.size) (n : Nat) (hn : n < 256) : decide (byteI s (i : Int) = ((n : Nat) : Int)) = decide ((s[i]'h) = UInt8.ofNat n) := by
  rw [byteI_nat s i h]
  exact decide_eq_decide.2 (byte_is (n := n) hn)
def lend (o : (ByteArray × (List ByteArray) × Int) ⊕ (List ByteArray)) : Option (List ByteArray) :=
    match o with
    | .inl o_2 =>
      bif decide (o_2.2.2 < Int.ofNat (ByteArray.size o_2.1)) then
        bif decide (0 ≤ o_2.2.2) && decide (o_2.2.2 ≤ Int.ofNat (ByteArray.size o_2.1)) then
          bif decide ((List.length o_2.2.1 + List.length [ByteArray.extract o_2.1 (Int.toNat o_2.2.2) (ByteArray.size o_2.1)]) * 16 ≤ 140737488355328) then
            some (o_2.2.1 ++ [ByteArray.extract o_2.1 (Int.toNat o_2.2.2) (ByteArray.size o_2.1)])
          else
            none
        else
          none
      else
        some (o_2.2.1)
    | .inr o_2 =>
      some (o_2)
theorem rlines_L0 (s : ByteArray) (hs : s.size ≤ 1000000) (d : Nat) : ∀ (k i f : Nat) (acc : List ByteArray), i + d = s.size → d < k → f ≤ i → acc.length ≤ i →
    (rf02_Lines_L0 k (s, acc, (f : Int), (i : Int))).bind lend = some (acc ++ (lgo (s.data.toList.drop i) (sub s f i)).map ofL) := by
  induction d with
  | zero =>
    intro k i f acc hi hk hf ha
    obtain ⟨k, rfl⟩ : ∃ q, k = q + 1 := ⟨k - 1, by omega⟩
    obtain rfl : i = s.size := by omega
    rw [rf02_Lines_L0, lt_no (Nat.le_refl _), cond_false, List.drop_of_length_le (by simp)]
    simp only [Option.bind_some, lend]
    unfold lgo
    by_cases hl : f < s.size
    · rw [lt_yes hl, ge0, of_le_yes (by omega), dcT (by simp; omega), if_neg (sub_ne s f s.size hl (Nat.le_refl _))]
      simp only [cond_true, Bool.and_self, List.map_cons, List.map_nil, Int.toNat_natCast]
      rw [← sub_extract, ofL_data]
    · obtain rfl : f = s.size := by omega
      rw [lt_no (Nat.le_refl _), if_pos (sub_self _ _)]
      simp
  | succ d ih =>
    intro k i f acc hi hk hf ha
    obtain ⟨k, rfl⟩ : ∃ q, k = q + 1 := ⟨k - 1, by omega⟩
    have hlt : i < s.size := by omega
    rw [rf02_Lines_L0, lt_yes hlt, ge0, drop_at s i hlt, w64_succ (by omega), show (10 : Int) = ((10 : Nat) : Int) from rfl, byteI_is s i hlt 10 (by omega)]
    simp only [cond_true, Bool.and_self]
    unfold lgo
    by_cases hc : (s[i]'hlt) = 10
    · rw [dcT (show (s[i]'hlt) = UInt8.ofNat 10 from hc), if_pos hc, ge0, dcT (show (f : Int) ≤ (i : Int) by omega), of_le_yes (by omega), extract_sub]
      simp only [cond_true, Bool.and_self]
      rw [dcT (by simp; omega), cond_true, ih k (i + 1) (i + 1) _ (by omega) (by omega) (by omega) (by simp; omega), sub_self]
      simp
    · rw [dcF (show ¬ (s[i]'hlt) = UInt8.ofNat 10 from hc), if_neg hc, cond_false, ih k (i + 1) f acc (by omega) (by omega) (by omega) (by omega), sub_snoc s f i hf hlt]
theorem rLines_sp (k : Nat) {s : ByteArray} (hs : s.size ≤ 1000000) (hk : s.size < k) : rf02_Lines k s = some ((linesL s.data.toList).map ofL) := by
  have h := rlines_L0 s hs s.size k 0 0 [] (by omega) hk (by omega) (by simp)
  rw [List.drop_zero, sub_self, lgo_lines, List.nil_append] at h
  exact h
theorem rblank_sp (k : Nat) (s : ByteArray) (i : Nat) (h : i < s.size) : rf02_blank k (byteI s (i : Int)) = some (blk (s[i]'h)) := by
  unfold rf02_blank
  rw [show (32 : Int) = ((32 : Nat) : Int) from rfl, show (9 : Int) = ((9 : Nat) : Int) from rfl, show (13 : Int) = ((13 : Nat) : Int) from rfl, byteI_is s i h 32 (by omega), byteI_is s i h 9 (by omega), byteI_is s i h 13 (by omega)]
  unfold blk
  generalize (s[i]'h) = c
  by_cases h1 : c = 32
  · subst h1; rfl
  · by_cases h2 : c = 9
    · subst h2; rfl
    · by_cases h3 : c = 13
      · subst h3; rfl
      · rw [dcF (show ¬ c = UInt8.ofNat 32 from h1), dcF (show ¬ c = UInt8.ofNat 9 from h2), dcF (show ¬ c = UInt8.ofNat 13 from h3), beq_eq_false_iff_ne.2 h1, beq_eq_false_iff_ne.2 h2, beq_eq_false_iff_ne.2 h3]; rfl
def wend (o : ((List ByteArray) × ByteArray) ⊕ (List ByteArray)) : Option (List ByteArray) :=
    match o with
    | .inl o_2 =>
      bif !o_2.2.data.toList == (⟨#[]⟩ : ByteArray).data.toList then
        bif decide ((List.length o_2.1 + List.length [o_2.2]) * 16 ≤ 140737488355328) then
          some (o_2.1 ++ [o_2.2])
        else
          none
      else
        some (o_2.1)
    | .inr o_2 =>
      some (o_2)
theorem empty_eq (cur : List UInt8) : (!(ofL cur).data.toList == (⟨#[]⟩ : ByteArray).data.toList) = decide (cur ≠ []) := by
  rw [data_ofL, show (⟨#[]⟩ : ByteArray).data.toList = [] from rfl]
  cases cur <;> rfl
theorem wend_fin (acc : List ByteArray) (cur : List UInt8) (ha : acc.length ≤ 1000000) : wend (.inl (acc, ofL cur)) = some (acc ++ (wgo [] cur).map ofL) := by
  unfold wend
  simp only []
  rw [empty_eq]
  unfold wgo
  by_cases hc : cur = []
  · rw [dcF (by simpa using hc), if_pos hc]; simp
  · rw [dcT hc, if_neg hc, dcT (by simp; omega)]; rfl
theorem rwords2_L0 (s : ByteArray) (hs : s.size ≤ 1000000) (d : Nat) : ∀ (k i : Nat) (acc : List ByteArray) (cur : List UInt8), i + d = s.size → d < k → cur.length ≤ i → acc.length ≤ i →
    (rf02_Words_L0 k (s, acc, ofL cur, (i : Int))).bind wend = some (acc ++ (wgo (bare (s.data.toList.drop i)) cur).map ofL) := by
  induction d with
  | zero =>
    intro k i acc cur hi hk hc ha
    obtain ⟨k, rfl⟩ : ∃ q, k = q + 1 := ⟨k - 1, by omega⟩
    rw [rf02_Words_L0, lt_no (by omega), cond_false, Option.bind_some, wend_fin _ _ (by omega), List.drop_of_length_le (by simp; omega)]
    rfl
  | succ d ih =>
    intro k i acc cur hi hk hc ha
    obtain ⟨k, rfl⟩ : ∃ q, k = q + 1 := ⟨k - 1, by omega⟩
    have hlt : i < s.size := by omega
    rw [rf02_Words_L0, lt_yes hlt, ge0, drop_at s i hlt, w64_succ (by omega), show (35 : Int) = ((35 : Nat) : Int) from rfl, byteI_is s i hlt 35 (by omega), rblank_sp k s i hlt]
    simp only [cond_true, Bool.and_self, Option.bind_some]
    by_cases h : (s[i]'hlt) = 35
    · have eb : bare ((s[i]'hlt) :: s.data.toList.drop (i + 1)) = [] := by unfold bare; simp [h]
      rw [dcT (show (s[i]'hlt) = UInt8.ofNat 35 from h), eb]
      simp only [Bool.not_true, cond_false, Option.bind_some]
      exact wend_fin _ _ (by omega)
    · have eb : bare ((s[i]'hlt) :: s.data.toList.drop (i + 1)) = (s[i]'hlt) :: bare (s.data.toList.drop (i + 1)) := by unfold bare; simp [h]
      rw [dcF (show ¬ (s[i]'hlt) = UInt8.ofNat 35 from h), eb]
      simp only [Bool.not_false, cond_true]
      cases hb : blk (s[i]'hlt) with
      | true =>
        simp only [cond_true, wgo, hb, if_true]
        rw [empty_eq]
        by_cases hcur : cur = []
        · rw [dcF (by simpa using hcur), if_pos hcur, cond_false]
          exact ih k (i + 1) acc [] (by omega) (by omega) (by simp) (by omega)
        · rw [dcT hcur, if_neg hcur, cond_true, dcT (by simp; omega), cond_true]
          have := ih k (i + 1) (acc ++ [ofL cur]) [] (by omega) (by omega) (by simp) (by simp; omega)
          rw [show (⟨#[]⟩ : ByteArray) = ofL [] from rfl, this]
          simp
      | false =>
        have ex : s.extract (i : Int).toNat ((i + 1 : Nat) : Int).toNat = ofL [s[i]'hlt] := by
          rw [extract_sub, ← sub_snoc s i i (Nat.le_refl _) hlt, sub_self]; rfl
        rw [ex, ofL_append, dcT (show (i : Int) ≤ ((i + 1 : Nat) : Int) by omega), of_le_yes (by omega), show decide ((ofL cur).size + (ofL [s[i]'hlt]).size ≤ 9223372036854775807) = true from dcT (by rw [ofL_size, ofL_size]; simp; omega)]
        simp only [wgo, hb, Bool.false_eq_true, if_false, cond_true, cond_false, Bool.and_self]
        exact ih k (i + 1) acc (cur ++ [s[i]'hlt]) (by omega) (by omega) (by simp; omega) (by omega)
theorem rWords_sp (k : Nat) {s : ByteArray} (hs : s.size ≤ 1000000) (hk : s.size < k) : rf02_Words k s = some ((wordsL s.data.toList).map ofL) := by
  have h := rwords2_L0 s hs s.size k 0 [] [] (by omega) hk (by simp) (by simp)
  rw [List.drop_zero, List.nil_append] at h
  exact h
theorem rWords_of (k : Nat) {x : List UInt8} (hs : x.length ≤ 1000000) (hk : x.length < k) : rf02_Words k (ofL x) = some ((wordsL x).map ofL) := by
  rw [rWords_sp k (by rw [ofL_size]; exact hs) (by rw [ofL_size]; exact hk), data_ofL]
end Ex.Tx
namespace Ex.Tx
open Go Go.RowKit Go.Lib Go.Proofs.YthlhbnaloefncaaGreatDoor.Wrd Go.Proofs.YthlhbnaloefncaaGreatDoor.Dig
theorem size_list (s : ByteArray) : s.data.toList.length = s.size := by simp
theorem rpar_L0 (M : List (List UInt8)) (hM : M.length ≤ 10000) (hs : ∀ x ∈ M, x.length ≤ 4000) : ∀ (n i k : Nat) (out : List GDirective), i + n = M.length → n + 110150 < k → out.length ≤ i →
    rf05_Parse_L0 k ((0, 0), M.map ofL, out, (i : Int)) = some (parseS (rowsF ((i + 1 : Nat) : Int) (M.drop i)) out)
  | 0, i, k, out, h, hk, ho => by
    obtain ⟨k, rfl⟩ : ∃ m, k = m + 1 := ⟨k - 1, by omega⟩
    rw [rf05_Parse_L0, lt_no (by rw [List.length_map]; omega), List.drop_eq_nil_of_le (by omega)]
    rfl
  | n + 1, i, k, out, h, hk, ho => by
    obtain ⟨k, rfl⟩ : ∃ m, k = m + 1 := ⟨k - 1, by omega⟩
    have hi : i < M.length := by omega
    have hi' : i < (M.map ofL).length := by rw [List.length_map]; exact hi
    have hx := hs M[i] (List.getElem_mem hi)
    have hwl := words_len M[i]
    have hws : ∀ a ∈ (wordsL M[i]).map ofL, a.size ≤ 100000 := fun a ha => by
      obtain ⟨y, hy, rfl⟩ := List.mem_map.1 ha
      have := words_size M[i] y hy
      rw [ofL_size]; omega
    rw [rf05_Parse_L0, lt_yes hi', ge0, getD_nat _ _ hi', List.getElem_map, rWords_of k (by omega) (by omega), w64_succ (by omega), List.drop_eq_getElem_cons hi]
    simp only [cond_true, Option.bind_some, rowsF]
    rw [rParse_sp k (by rw [List.length_map]; omega) hws (by omega)]
    have ih := fun o ho => rpar_L0 M hM hs n (i + 1) k o (by omega) (by omega) ho
    cases hw : wordsL M[i] with
    | nil =>
      simp only [List.map_nil, List.length_nil, List.isEmpty_nil, cond_true]
      rw [show decide (Int.ofNat 0 = (0 : Int)) = true from rfl, cond_true, ih out (by omega), show (((i + 1 : Nat) : Int) + 1) = ((i + 1 + 1 : Nat) : Int) by omega]
    | cons w ws =>
      simp only [List.map_cons, List.length_cons, List.isEmpty_cons, cond_false, Option.bind_some, parseS]
      rw [show decide (Int.ofNat ((ws.map ofL).length + 1) = (0 : Int)) = false from dcF (by simp <;> omega), cond_false]
      cases hd : decide ((parseB (ofL w :: ws.map ofL)).2 = 0) with
      | false => rfl
      | true =>
        simp only [Bool.not_true, cond_false, cond_true]
        rw [dcT (by simp; omega), cond_true, ih _ (by simp; omega), show (((i + 1 : Nat) : Int) + 1) = ((i + 1 + 1 : Nat) : Int) by omega]
theorem rTextParse_sp (k : Nat) {s : ByteArray} (hs : s.size ≤ 3000) (hk : 130000 ≤ k) : rf05_Parse k s = some (parseT s.data.toList) := by
  have e := size_list s
  have h1 := lines_len s.data.toList
  unfold rf05_Parse
  rw [rLines_sp k (by omega) (by omega), Option.bind_some]
  have h := rpar_L0 (linesL s.data.toList) (by omega) (fun x hx => by have := lines_each _ x hx; omega) (linesL s.data.toList).length 0 k [] (by omega) (by omega) (by simp)
  rw [show ((0 : Nat) : Int) = 0 from rfl, List.drop_zero] at h
  rw [h]
  unfold parseT parseR rowsT
  simp only [Option.bind_some]
  rw [show ((0 + 1 : Nat) : Int) = 1 from rfl]
  rcases parseS (rowsF 1 (linesL s.data.toList)) [] with o | o <;> rfl
theorem rlin_L0 (M : List (List UInt8)) (hM : M.length ≤ 10000) (hs : ∀ x ∈ M, x.length ≤ 4000) : ∀ (n i k : Nat) (out : List Int), i + n = M.length → n + 5000 < k → out.length ≤ i →
    rf05_Lines_L0 k (M.map ofL, out, (i : Int)) = some (.inl (out ++ (rowsF ((i + 1 : Nat) : Int) (M.drop i)).map (·.1)))
  | 0, i, k, out, h, hk, ho => by
    obtain ⟨k, rfl⟩ : ∃ m, k = m + 1 := ⟨k - 1, by omega⟩
    rw [rf05_Lines_L0, lt_no (by rw [List.length_map]; omega), List.drop_eq_nil_of_le (by omega)]
    simp [rowsF]
  | n + 1, i, k, out, h, hk, ho => by
    obtain ⟨k, rfl⟩ : ∃ m, k = m + 1 := ⟨k - 1, by omega⟩
    have hi : i < M.length := by omega
    have hi' : i < (M.map ofL).length := by rw [List.length_map]; exact hi
    have hx := hs M[i] (List.getElem_mem hi)
    rw [rf05_Lines_L0, lt_yes hi', ge0, getD_nat _ _ hi', List.getElem_map, rWords_of k (by omega) (by omega), w64_succ (by omega), List.drop_eq_getElem_cons hi]
    simp only [cond_true, Option.bind_some, rowsF]
    have ih := fun o ho => rlin_L0 M hM hs n (i + 1) k o (by omega) (by omega) ho
    cases hw : wordsL M[i] with
    | nil =>
      simp only [List.map_nil, List.length_nil, List.isEmpty_nil, cond_true]
      rw [show decide ((0 : Int) < Int.ofNat 0) = false from rfl, cond_false, ih out (by omega), show (((i + 1 : Nat) : Int) + 1) = ((i + 1 + 1 : Nat) : Int) by omega]
    | cons w ws =>
      simp only [List.map_cons, List.length_cons, List.isEmpty_cons, cond_false]
      rw [show decide ((0 : Int) < Int.ofNat ((ws.map ofL).length + 1)) = true from dcT (by simp <;> omega), cond_true, dcT (by simp <;> omega), cond_true, ih _ (by simp; omega), show (((i + 1 : Nat) : Int) + 1) = ((i + 1 + 1 : Nat) : Int) by omega]
      simp
theorem rTextLines_sp (k : Nat) {s : ByteArray} (hs : s.size ≤ 3000) (hk : 130000 ≤ k) : rf05_Lines k s = some ((rowsT s.data.toList).map (·.1)) := by
  have e := size_list s
  have h1 := lines_len s.data.toList
  unfold rf05_Lines
  rw [rLines_sp k (by omega) (by omega), Option.bind_some]
  have h := rlin_L0 (linesL s.data.toList) (by omega) (fun x hx => by have := lines_each _ x hx; omega) (linesL s.data.toList).length 0 k [] (by omega) (by omega) (by simp)
  rw [show ((0 : Nat) : Int) = 0 from rfl, List.drop_zero] at h
  rw [h]
  rfl
end Ex.Tx
namespace Ex
open Go
set_option maxHeartbeats 0
def rf21_Copy (k : Nat) : GState → Option (GState) := fun (s) =>
  (rf08_Copy k (s.1, s.2.1, s.2.2.1, s.2.2.2.1)).bind fun o_1 =>
  (rf09_Copy k s.2.2.2.2).bind fun o_2 =>
   some ((o_1.1, o_1.2.1, o_1.2.2.1, o_1.2.2.2, o_2))
noncomputable def rf21_Copy_e := entOf (P := Tryz.prog) (A := [.agg lGState]) (R := [.agg lGState]) Tryz.f16 rf21_Copy (fun k => ⟨[rf08_Copy_e k, rf09_Copy_e k], [], [hkStr Tryz.prog]⟩) [] Tryz.func16 (by kernel_rfl) (by kernel_rfl) trivial (fun k x => by kernel_rfl) fun _ _ => by kernel_rfl
def rf21_within (k : Nat) : (T48 × GContact) → Option (Bool) := fun (u, c1) =>
  (rf03_Volume k c1).bind fun o_1 =>
  bif decide (u.1 ≤ o_1) then
   bif decide (u.2.1 ≤ o_1) then
    bif decide (u.2.2 ≤ o_1) then
     some (true)
    else
     some (false)
   else
    some (false)
  else
   some (false)
noncomputable def rf21_within_e := entOf (P := Tryz.prog) (A := [.agg lT48, .agg lGContact]) (R := [.one (.sc (.bool))]) Tryz.f44 rf21_within (fun k => ⟨[rf03_Volume_e k], [], [hkStr Tryz.prog]⟩) [] Tryz.func44 (by kernel_rfl) (by kernel_rfl) trivial (fun k x => by kernel_rfl) fun _ _ => by kernel_rfl
def rf21_Right_L0 : Nat → (GState × Int) → Option ((Unit) ⊕ (Bool))
  | 0, _ => none
  | k + 1, (s, i) =>
  bif decide (i < Int.ofNat (List.length s.2.2.2.2)) then
  bif decide (0 ≤ i) then
   bif decide (i < Int.ofNat (List.length s.2.2.2.2)) then
    (rf06_Find k (s.1, (List.getD s.2.2.2.2 (Int.toNat i) (0, 0, 0, 0)).1)).bind fun o_4 =>
     bif o_4.2 then
      bif decide (0 ≤ i) then
       bif decide (i < Int.ofNat (List.length s.2.2.2.2)) then
        (rf21_within k ((List.getD s.2.2.2.2 (Int.toNat i) (0, 0, 0, 0)).2, o_4.1)).bind fun o_8 =>
         bif o_8 then
          rf21_Right_L0 k (s, w64 (i + 1))
         else
          some (Sum.inr false)
       else
        none
      else
       none
     else
      some (Sum.inr false)
   else
    none
  else
   none
 else
  some (Sum.inl ())
def rf21_Right (k : Nat) : GState → Option (Bool) := fun (s) =>
  (rf08_Right k (s.1, s.2.1, s.2.2.1, s.2.2.2.1)).bind fun o_1 =>
  bif o_1 then
   (rf09_Right k s.2.2.2.2).bind fun o_3 =>
    bif o_3 then
     (rf21_Right_L0 k (s, 0)).bind fun o_5 =>
      match o_5 with
      | .inl o_6 =>
       some (true)
      | .inr o_6 =>
       some (o_6)
    else
     some (false)
  else
   (rf09_Right k s.2.2.2.2).bind fun o_3 =>
    bif o_3 then
     some (false)
    else
     some (false)
noncomputable def rf21_Right_e := entOf (P := Tryz.prog) (A := [.agg lGState]) (R := [.one (.sc (.bool))]) Tryz.f13 rf21_Right (fun k => ⟨[rf08_Right_e k, rf09_Right_e k, rf06_Find_e k, rf21_within_e k], [], [hkStr Tryz.prog]⟩) [some ⟨0, [(1, .box 28 trGState), (5, .one (.sc (.int .i64)))], [], rf21_Right_L0⟩] Tryz.func13 (by kernel_rfl) (by kernel_rfl) ⟨⟨fun _ => rfl, fun k x => by kernel_rfl⟩, trivial⟩ (fun k x => by kernel_rfl) fun _ _ => by kernel_rfl
def rf21_Same (k : Nat) : (GState × GState) → Option (Bool) := fun (a, b) =>
  (rf08_Same k ((a.1, a.2.1, a.2.2.1, a.2.2.2.1), b.1, b.2.1, b.2.2.1, b.2.2.2.1)).bind fun o_1 =>
  bif o_1 then
   (rf09_Same k (a.2.2.2.2, b.2.2.2.2)).bind fun o_3 =>
    bif o_3 then
     some (true)
    else
     some (false)
  else
   (rf09_Same k (a.2.2.2.2, b.2.2.2.2)).bind fun o_3 =>
    bif o_3 then
     some (false)
    else
     some (false)
noncomputable def rf21_Same_e := entOf (P := Tryz.prog) (A := [.agg lGState, .agg lGState]) (R := [.one (.sc (.bool))]) Tryz.f15 rf21_Same (fun k => ⟨[rf09_Same_e k, rf08_Same_e k], [], [hkStr Tryz.prog]⟩) [] Tryz.func15 (by kernel_rfl) (by kernel_rfl) trivial (fun k x => by kernel_rfl) fun _ _ => by kernel_rfl
def rf21_Edit (k : Nat) : (GState × GDirective) → Option (GState × Int) := fun (s, d) =>
  (rf08_Apply k ((s.1, s.2.1, s.2.2.1, s.2.2.2.1), d)).bind fun o_1 =>
  bif !decide (o_1.2 = 0) then
   (rf21_Copy k s).bind fun o_3 =>
    some ((o_3, o_1.2))
  else
   (rf09_Copy k s.2.2.2.2).bind fun o_3 =>
    bif decide (d.2.1 = 1) then
     bif decide (d.1 = 2) then
      (rf09_Drop k (s.2.2.2.2, [d.2.2.1])).bind fun o_6 =>
       (rf06_Find k (o_1.1.1, d.2.2.1)).bind fun o_7 =>
        bif o_7.2 then
         (rf09_Used k (s.2.2.2.2, d.2.2.1)).bind fun o_9 =>
          bif decide (d.2.1 = 1) then
           bif decide (d.1 = 3) then
            (rf21_within k (o_9, o_7.1)).bind fun o_12 =>
             bif o_12 then
              some (((o_1.1.1, o_1.1.2.1, o_1.1.2.2.1, o_1.1.2.2.2, o_6), 0))
             else
              (rf21_Copy k s).bind fun o_14 =>
               some ((o_14, 8))
           else
            some (((o_1.1.1, o_1.1.2.1, o_1.1.2.2.1, o_1.1.2.2.2, o_6), 0))
          else
           some (((o_1.1.1, o_1.1.2.1, o_1.1.2.2.1, o_1.1.2.2.2, o_6), 0))
        else
         (rf09_Used k (s.2.2.2.2, d.2.2.1)).bind fun o_9 =>
          bif decide (d.2.1 = 1) then
           bif decide (d.1 = 3) then
            (rf21_within k (o_9, o_7.1)).bind fun o_12 =>
             bif o_12 then
              some (((o_1.1.1, o_1.1.2.1, o_1.1.2.2.1, o_1.1.2.2.2, o_6), 0))
             else
              (rf21_Copy k s).bind fun o_14 =>
               some ((o_14, 8))
           else
            some (((o_1.1.1, o_1.1.2.1, o_1.1.2.2.1, o_1.1.2.2.2, o_6), 0))
          else
           some (((o_1.1.1, o_1.1.2.1, o_1.1.2.2.1, o_1.1.2.2.2, o_6), 0))
     else
      (rf06_Find k (o_1.1.1, d.2.2.1)).bind fun o_6 =>
       bif o_6.2 then
        (rf09_Used k (s.2.2.2.2, d.2.2.1)).bind fun o_8 =>
         bif decide (d.2.1 = 1) then
          bif decide (d.1 = 3) then
           (rf21_within k (o_8, o_6.1)).bind fun o_11 =>
            bif o_11 then
             some (((o_1.1.1, o_1.1.2.1, o_1.1.2.2.1, o_1.1.2.2.2, o_3), 0))
            else
             (rf21_Copy k s).bind fun o_13 =>
              some ((o_13, 8))
          else
           some (((o_1.1.1, o_1.1.2.1, o_1.1.2.2.1, o_1.1.2.2.2, o_3), 0))
         else
          some (((o_1.1.1, o_1.1.2.1, o_1.1.2.2.1, o_1.1.2.2.2, o_3), 0))
       else
        (rf09_Used k (s.2.2.2.2, d.2.2.1)).bind fun o_8 =>
         bif decide (d.2.1 = 1) then
          bif decide (d.1 = 3) then
           (rf21_within k (o_8, o_6.1)).bind fun o_11 =>
            bif o_11 then
             some (((o_1.1.1, o_1.1.2.1, o_1.1.2.2.1, o_1.1.2.2.2, o_3), 0))
            else
             (rf21_Copy k s).bind fun o_13 =>
              some ((o_13, 8))
          else
           some (((o_1.1.1, o_1.1.2.1, o_1.1.2.2.1, o_1.1.2.2.2, o_3), 0))
         else
          some (((o_1.1.1, o_1.1.2.1, o_1.1.2.2.1, o_1.1.2.2.2, o_3), 0))
    else
     (rf06_Find k (o_1.1.1, d.2.2.1)).bind fun o_5 =>
      bif o_5.2 then
       (rf09_Used k (s.2.2.2.2, d.2.2.1)).bind fun o_7 =>
        bif decide (d.2.1 = 1) then
         bif decide (d.1 = 3) then
          (rf21_within k (o_7, o_5.1)).bind fun o_10 =>
           bif o_10 then
            some (((o_1.1.1, o_1.1.2.1, o_1.1.2.2.1, o_1.1.2.2.2, o_3), 0))
           else
            (rf21_Copy k s).bind fun o_12 =>
             some ((o_12, 8))
         else
          some (((o_1.1.1, o_1.1.2.1, o_1.1.2.2.1, o_1.1.2.2.2, o_3), 0))
        else
         some (((o_1.1.1, o_1.1.2.1, o_1.1.2.2.1, o_1.1.2.2.2, o_3), 0))
      else
       (rf09_Used k (s.2.2.2.2, d.2.2.1)).bind fun o_7 =>
        bif decide (d.2.1 = 1) then
         bif decide (d.1 = 3) then
          (rf21_within k (o_7, o_5.1)).bind fun o_10 =>
           bif o_10 then
            some (((o_1.1.1, o_1.1.2.1, o_1.1.2.2.1, o_1.1.2.2.2, o_3), 0))
           else
            (rf21_Copy k s).bind fun o_12 =>
             some ((o_12, 8))
         else
          some (((o_1.1.1, o_1.1.2.1, o_1.1.2.2.1, o_1.1.2.2.2, o_3), 0))
        else
         some (((o_1.1.1, o_1.1.2.1, o_1.1.2.2.1, o_1.1.2.2.2, o_3), 0))
noncomputable def rf21_Edit_e := entOf (P := Tryz.prog) (A := [.agg lGState, .agg lGDirective]) (R := [.agg lGState, .one (.sc (.int .i64))]) Tryz.f48 rf21_Edit (fun k => ⟨[rf21_Copy_e k, rf06_Find_e k, rf21_within_e k, rf09_Copy_e k, rf08_Apply_e k, rf09_Drop_e k, rf09_Used_e k], [], [hkStr Tryz.prog]⟩) [] Tryz.func48 (by kernel_rfl) (by kernel_rfl) trivial (fun k x => by kernel_rfl) fun _ _ => by kernel_rfl
def rf21_Load_L0 : Nat → (GState × GState × (Int × Int) × (List GDirective) × (List Int) × GState × Int) → Option ((GState × (Int × Int) × GState) ⊕ (GState × (Int × Int)))
  | 0, _ => none
  | k + 1, (s, t4, t5, l, lines, out9, i) =>
  bif decide (i < Int.ofNat (List.length l)) then
  bif decide (0 ≤ i) then
   bif decide (i < Int.ofNat (List.length l)) then
    (rf21_Edit k (out9, List.getD l (Int.toNat i) (0, 0, 0, 0, 0, 0, 0, 0, 0, 0, 0, 0, 0))).bind fun o_4 =>
     bif !decide (o_4.2 = 0) then
      (rf21_Copy k s).bind fun o_6 =>
       bif decide (0 ≤ i) then
        bif decide (i < Int.ofNat (List.length lines)) then
         some (Sum.inr (o_6, List.getD lines (Int.toNat i) 0, o_4.2))
        else
         none
       else
        none
     else
      rf21_Load_L0 k (s, t4, t5, l, lines, o_4.1, w64 (i + 1))
   else
    none
  else
   none
 else
  some (Sum.inl (t4, t5, out9))
def rf21_Load (k : Nat) : (GState × ByteArray) → Option (GState × (Int × Int)) := fun (s, t) =>
  (rf05_Parse k t).bind fun o_1 =>
  bif !decide (o_1.2.2 = 0) then
   (rf21_Copy k s).bind fun o_3 =>
    some ((o_3, o_1.2))
  else
   (rf05_Lines k t).bind fun o_3 =>
    (rf21_Copy k s).bind fun o_4 =>
     (rf21_Load_L0 k (s, ([], [], 0, 0, []), (0, 0), o_1.1, o_3, o_4, 0)).bind fun o_5 =>
      match o_5 with
      | .inl o_6 =>
       some ((o_6.2.2, 0, 0))
      | .inr o_6 =>
       some (o_6)
noncomputable def rf21_Load_e := entOf (P := Tryz.prog) (A := [.agg lGState, .one (.sc (.str))]) (R := [.agg lGState, .agg [.sc (.int .i64), .sc (.int .i64)]]) Tryz.f49 rf21_Load (fun k => ⟨[rf21_Copy_e k, rf21_Edit_e k, rf05_Parse_e k, rf05_Lines_e k], [], [hkStr Tryz.prog]⟩) [some ⟨0, [(2, .box 28 trGState), (4, .box 28 toGState), (5, .box 45 [.sc (.int .i64), .sc (.int .i64)]), (6, .one (.own 38 kGDirective)), (8, .one (.own 3 [.int .i64])), (9, .box 28 toGState), (10, .one (.sc (.int .i64)))], [(4, .box 28 toGState), (5, .box 45 [.sc (.int .i64), .sc (.int .i64)]), (9, .box 28 toGState)], rf21_Load_L0⟩] Tryz.func49 (by kernel_rfl) (by kernel_rfl) ⟨⟨fun _ => rfl, fun k x => by kernel_rfl⟩, trivial⟩ (fun k x => by kernel_rfl) fun _ _ => by kernel_rfl
def rf21_Advance (k : Nat) : (GState × Int) → Option (GState × Int) := fun (s, now) =>
  (rf08_Advance k ((s.1, s.2.1, s.2.2.1, s.2.2.2.1), now)).bind fun o_1 =>
  bif !decide (o_1.2.2 = 0) then
   (rf21_Copy k s).bind fun o_3 =>
    some ((o_3, o_1.2.2))
  else
   (rf09_Drop k (s.2.2.2.2, o_1.2.1)).bind fun o_3 =>
    some (((o_1.1.1, o_1.1.2.1, o_1.1.2.2.1, o_1.1.2.2.2, o_3), 0))
noncomputable def rf21_Advance_e := entOf (P := Tryz.prog) (A := [.agg lGState, .one (.sc (.int .i64))]) (R := [.agg lGState, .one (.sc (.int .i64))]) Tryz.f50 rf21_Advance (fun k => ⟨[rf21_Copy_e k, rf09_Drop_e k, rf08_Advance_e k], [], [hkStr Tryz.prog]⟩) [] Tryz.func50 (by kernel_rfl) (by kernel_rfl) trivial (fun k x => by kernel_rfl) fun _ _ => by kernel_rfl
def rf21_wrong_L2 : Nat → ((List Int) × GState × Int) → Option ((Unit) ⊕ (Int))
  | 0, _ => none
  | k + 1, (ids, s, i) =>
  bif decide (i < Int.ofNat (List.length ids)) then
  bif decide (0 ≤ i) then
   bif decide (i < Int.ofNat (List.length ids)) then
    (rf06_Find k (s.1, List.getD ids (Int.toNat i) 0)).bind fun o_4 =>
     bif o_4.2 then
      rf21_wrong_L2 k (ids, s, w64 (i + 1))
     else
      some (Sum.inr 6)
   else
    none
  else
   none
 else
  some (Sum.inl ())
def rf21_wrong_L1 : Nat → ((List Int) × GState × Int × Int) → Option (((List Int) × GState × Int) ⊕ (Int))
  | 0, _ => none
  | k + 1, (ids, s, i, k10) =>
  bif decide (k10 < i) then
  bif decide (0 ≤ k10) then
   bif decide (k10 < Int.ofNat (List.length ids)) then
    bif decide (0 ≤ i) then
     bif decide (i < Int.ofNat (List.length ids)) then
      bif decide (List.getD ids (Int.toNat k10) 0 = List.getD ids (Int.toNat i) 0) then
       some (Sum.inr 1)
      else
       rf21_wrong_L1 k (ids, s, i, w64 (k10 + 1))
     else
      none
    else
     none
   else
    none
  else
   none
 else
  some (Sum.inl (ids, s, i))
def rf21_wrong_L0 : Nat → ((List Int) × GState × Int) → Option (((List Int) × GState) ⊕ (Int))
  | 0, _ => none
  | k + 1, (ids, s, i) =>
  bif decide (i < Int.ofNat (List.length ids)) then
  (rf21_wrong_L1 k (ids, s, i, 0)).bind fun o_2 =>
   match o_2 with
   | .inl o_3 =>
    rf21_wrong_L0 k (o_3.1, o_3.2.1, w64 (o_3.2.2 + 1))
   | .inr o_3 =>
    some (Sum.inr o_3)
 else
  some (Sum.inl (ids, s))
def rf21_wrong (k : Nat) : (GState × (List Int) × Int × Int) → Option (Int) := fun (s, ids, class2, size) =>
  bif decide (Int.ofNat (List.length ids) = 0) then
  some (1)
 else
  bif decide (class2 < 0) then
   some (1)
  else
   bif decide (2 < class2) then
    some (1)
   else
    bif decide (size < 0) then
     some (1)
    else
     bif decide (1099511627775 < size) then
      some (1)
     else
      (rf21_wrong_L0 k (ids, s, 0)).bind fun o_6 =>
       match o_6 with
       | .inl o_7 =>
        (rf21_wrong_L2 k (o_7.1, o_7.2, 0)).bind fun o_8 =>
         match o_8 with
         | .inl o_9 =>
          some (0)
         | .inr o_9 =>
          some (o_9)
       | .inr o_7 =>
        some (o_7)
noncomputable def rf21_wrong_e := entOf (P := Tryz.prog) (A := [.agg lGState, .one (.row 3 [.int .i64]), .one (.sc (.int .i64)), .one (.sc (.int .i64))]) (R := [.one (.sc (.int .i64))]) Tryz.f94 rf21_wrong (fun k => ⟨[rf06_Find_e k], [], [hkStr Tryz.prog]⟩) [some ⟨0, [(1, .one (.ro [.int .i64])), (4, .box 28 trGState), (9, .one (.sc (.int .i64)))], [(1, .one (.ro [.int .i64])), (4, .box 28 trGState)], rf21_wrong_L0⟩, some ⟨2, [(1, .one (.ro [.int .i64])), (4, .box 28 trGState), (9, .one (.sc (.int .i64))), (10, .one (.sc (.int .i64)))], [(1, .one (.ro [.int .i64])), (4, .box 28 trGState), (9, .one (.sc (.int .i64)))], rf21_wrong_L1⟩, some ⟨4, [(1, .one (.ro [.int .i64])), (4, .box 28 trGState), (11, .one (.sc (.int .i64)))], [], rf21_wrong_L2⟩] Tryz.func94 (by kernel_rfl) (by kernel_rfl) ⟨⟨fun _ => rfl, fun k x => by kernel_rfl⟩, ⟨⟨fun _ => rfl, fun k x => by kernel_rfl⟩, ⟨⟨fun _ => rfl, fun k x => by kernel_rfl⟩, trivial⟩⟩⟩ (fun k x => by kernel_rfl) fun _ _ => by kernel_rfl
def rf21_Book_L0 : Nat → ((List Int) × Int × Int × GState × GState × GState × Int × Int) → Option ((GState × GState × GState × Int) ⊕ (GState × Int))
  | 0, _ => none
  | k + 1, (ids, class2, size, s, t8, out10, e11, i) =>
  bif decide (i < Int.ofNat (List.length ids)) then
  bif decide (e11 = 0) then
   bif decide (0 ≤ i) then
    bif decide (i < Int.ofNat (List.length ids)) then
     (rf06_Find k (s.1, List.getD ids (Int.toNat i) 0)).bind fun o_5 =>
      bif o_5.2 then
       (rf09_Book k (out10.2.2.2.2, o_5.1, class2, size)).bind fun o_7 =>
        bif o_7.2 then
         rf21_Book_L0 k (ids, class2, size, s, t8, (out10.1, out10.2.1, out10.2.2.1, out10.2.2.2.1, o_7.1), e11, w64 (i + 1))
        else
         rf21_Book_L0 k (ids, class2, size, s, t8, (out10.1, out10.2.1, out10.2.2.1, out10.2.2.2.1, o_7.1), 8, w64 (i + 1))
      else
       (rf09_Book k (out10.2.2.2.2, o_5.1, class2, size)).bind fun o_7 =>
        bif o_7.2 then
         rf21_Book_L0 k (ids, class2, size, s, t8, (out10.1, out10.2.1, out10.2.2.1, out10.2.2.2.1, o_7.1), e11, w64 (i + 1))
        else
         rf21_Book_L0 k (ids, class2, size, s, t8, (out10.1, out10.2.1, out10.2.2.1, out10.2.2.2.1, o_7.1), 8, w64 (i + 1))
    else
     none
   else
    none
  else
   some (Sum.inl (s, t8, out10, e11))
 else
  some (Sum.inl (s, t8, out10, e11))
def rf21_Book (k : Nat) : (GState × (List Int) × Int × Int) → Option (GState × Int) := fun (s, ids, class2, size) =>
  (rf21_Copy k s).bind fun o_1 =>
  (rf21_wrong k (s, ids, class2, size)).bind fun o_2 =>
   (rf21_Book_L0 k (ids, class2, size, s, ([], [], 0, 0, []), o_1, o_2, 0)).bind fun o_3 =>
    match o_3 with
    | .inl o_4 =>
     bif !decide (o_4.2.2.2 = 0) then
      (rf21_Copy k o_4.1).bind fun o_6 =>
       some ((o_6, o_4.2.2.2))
     else
      some ((o_4.2.2.1, 0))
    | .inr o_4 =>
     some (o_4)
noncomputable def rf21_Book_e := entOf (P := Tryz.prog) (A := [.agg lGState, .one (.row 3 [.int .i64]), .one (.sc (.int .i64)), .one (.sc (.int .i64))]) (R := [.agg lGState, .one (.sc (.int .i64))]) Tryz.f51 rf21_Book (fun k => ⟨[rf21_Copy_e k, rf06_Find_e k, rf21_wrong_e k, rf09_Book_e k], [], [hkStr Tryz.prog]⟩) [some ⟨0, [(1, .one (.ro [.int .i64])), (2, .one (.sc (.int .i64))), (3, .one (.sc (.int .i64))), (4, .box 28 trGState), (8, .box 28 toGState), (10, .box 28 toGState), (11, .one (.sc (.int .i64))), (12, .one (.sc (.int .i64)))], [(4, .box 28 trGState), (8, .box 28 toGState), (10, .box 28 toGState), (11, .one (.sc (.int .i64)))], rf21_Book_L0⟩] Tryz.func51 (by kernel_rfl) (by kernel_rfl) ⟨⟨fun _ => rfl, fun k x => by kernel_rfl⟩, trivial⟩ (fun k x => by kernel_rfl) fun _ _ => by kernel_rfl
def rf21_Release_L0 : Nat → ((List Int) × Int × Int × GState × GState × GState × Int × Int) → Option ((GState × GState × GState × Int) ⊕ (GState × Int))
  | 0, _ => none
  | k + 1, (ids, class2, size, s, t8, out10, e11, i) =>
  bif decide (i < Int.ofNat (List.length ids)) then
  bif decide (e11 = 0) then
   bif decide (0 ≤ i) then
    bif decide (i < Int.ofNat (List.length ids)) then
     (rf09_Release k (out10.2.2.2.2, List.getD ids (Int.toNat i) 0, class2, size)).bind fun o_5 =>
      bif o_5.2 then
       rf21_Release_L0 k (ids, class2, size, s, t8, (out10.1, out10.2.1, out10.2.2.1, out10.2.2.2.1, o_5.1), e11, w64 (i + 1))
      else
       rf21_Release_L0 k (ids, class2, size, s, t8, (out10.1, out10.2.1, out10.2.2.1, out10.2.2.2.1, o_5.1), 8, w64 (i + 1))
    else
     none
   else
    none
  else
   some (Sum.inl (s, t8, out10, e11))
 else
  some (Sum.inl (s, t8, out10, e11))
def rf21_Release (k : Nat) : (GState × (List Int) × Int × Int) → Option (GState × Int) := fun (s, ids, class2, size) =>
  (rf21_Copy k s).bind fun o_1 =>
  (rf21_wrong k (s, ids, class2, size)).bind fun o_2 =>
   (rf21_Release_L0 k (ids, class2, size, s, ([], [], 0, 0, []), o_1, o_2, 0)).bind fun o_3 =>
    match o_3 with
    | .inl o_4 =>
     bif !decide (o_4.2.2.2 = 0) then
      (rf21_Copy k o_4.1).bind fun o_6 =>
       some ((o_6, o_4.2.2.2))
     else
      some ((o_4.2.2.1, 0))
    | .inr o_4 =>
     some (o_4)
noncomputable def rf21_Release_e := entOf (P := Tryz.prog) (A := [.agg lGState, .one (.row 3 [.int .i64]), .one (.sc (.int .i64)), .one (.sc (.int .i64))]) (R := [.agg lGState, .one (.sc (.int .i64))]) Tryz.f52 rf21_Release (fun k => ⟨[rf21_Copy_e k, rf21_wrong_e k, rf09_Release_e k], [], [hkStr Tryz.prog]⟩) [some ⟨0, [(1, .one (.ro [.int .i64])), (2, .one (.sc (.int .i64))), (3, .one (.sc (.int .i64))), (4, .box 28 trGState), (8, .box 28 toGState), (10, .box 28 toGState), (11, .one (.sc (.int .i64))), (12, .one (.sc (.int .i64)))], [(4, .box 28 trGState), (8, .box 28 toGState), (10, .box 28 toGState), (11, .one (.sc (.int .i64)))], rf21_Release_L0⟩] Tryz.func52 (by kernel_rfl) (by kernel_rfl) ⟨⟨fun _ => rfl, fun k x => by kernel_rfl⟩, trivial⟩ (fun k x => by kernel_rfl) fun _ _ => by kernel_rfl
end Ex
namespace Ex
open Go
set_option maxHeartbeats 0
def feluccalaw21_told (k : Nat) : (GState × GFeluccalaw21Act) → Option (GState × (Int × Int)) := fun (s, a) =>
  bif decide (a.1 = 1) then
  (rf21_Edit k (s, a.2.1, a.2.2.1, a.2.2.2.1, a.2.2.2.2.1, a.2.2.2.2.2.1, a.2.2.2.2.2.2.1, a.2.2.2.2.2.2.2.1, a.2.2.2.2.2.2.2.2.1, a.2.2.2.2.2.2.2.2.2.1, a.2.2.2.2.2.2.2.2.2.2.1, a.2.2.2.2.2.2.2.2.2.2.2.1, a.2.2.2.2.2.2.2.2.2.2.2.2.1, a.2.2.2.2.2.2.2.2.2.2.2.2.2.1)).bind fun o_2 =>
   some ((o_2.1, 0, o_2.2))
 else
  bif decide (a.1 = 2) then
   (rf21_Load k (s, a.2.2.2.2.2.2.2.2.2.2.2.2.2.2.1)).bind fun o_3 =>
    some (o_3)
  else
   bif decide (a.1 = 3) then
    (rf21_Advance k (s, a.2.2.2.2.2.2.2.2.2.2.2.2.2.2.2.1)).bind fun o_4 =>
     some ((o_4.1, 0, o_4.2))
   else
    bif decide (a.1 = 4) then
     (rf21_Book k (s, a.2.2.2.2.2.2.2.2.2.2.2.2.2.2.2.2)).bind fun o_5 =>
      some ((o_5.1, 0, o_5.2))
    else
     (rf21_Release k (s, a.2.2.2.2.2.2.2.2.2.2.2.2.2.2.2.2)).bind fun o_5 =>
      some ((o_5.1, 0, o_5.2))
noncomputable def feluccalaw21_told_e := entOf (P := Tryz.prog) (A := [.agg lGState, .agg lGFeluccalaw21Act]) (R := [.agg lGState, .agg [.sc (.int .i64), .sc (.int .i64)]]) Tryz.f18 feluccalaw21_told (fun k => ⟨[rf21_Edit_e k, rf21_Load_e k, rf21_Advance_e k, rf21_Book_e k, rf21_Release_e k], [], [hkStr Tryz.prog]⟩) [] Tryz.func18 (by kernel_rfl) (by kernel_rfl) trivial (fun k x => by kernel_rfl) fun _ _ => by kernel_rfl
def feluccalaw21_StateTells_L2 : Nat → ((List GFeluccalaw21Act) × Bool × GState × Int × GState × Int) → Option (((List GFeluccalaw21Act) × Bool × GState × Int) ⊕ (Bool))
  | 0, _ => none
  | k + 1, (o, t7, t10, t11, t13, t18) =>
  bif decide (t18 < Int.ofNat (List.length t13.1)) then
  bif decide (0 ≤ t18) then
   bif decide (t18 < Int.ofNat (List.length t13.1)) then
    feluccalaw21_StateTells_L2 k (o, t7, t10, t11, (List.set t13.1 (Int.toNat t18) (-7, (List.getD t13.1 (Int.toNat t18) (0, 0, 0, 0, 0, 0)).2), t13.2), w64 (t18 + 1))
   else
    none
  else
   none
 else
  some (Sum.inl (o, t7, t10, t11))
def feluccalaw21_StateTells_L1 : Nat → ((List GFeluccalaw21Act) × Bool × GState × Int × GState × Int) → Option (((List GFeluccalaw21Act) × Bool × GState × Int × GState) ⊕ (Bool))
  | 0, _ => none
  | k + 1, (o, t7, t10, t11, t13, t17) =>
  bif decide (t17 < Int.ofNat (List.length t13.2.2.2.2)) then
  bif decide (0 ≤ t17) then
   bif decide (t17 < Int.ofNat (List.length t13.2.2.2.2)) then
    feluccalaw21_StateTells_L1 k (o, t7, t10, t11, (t13.1, t13.2.1, t13.2.2.1, t13.2.2.2.1, List.set t13.2.2.2.2 (Int.toNat t17) (-7, (List.getD t13.2.2.2.2 (Int.toNat t17) (0, 0, 0, 0)).2)), w64 (t17 + 1))
   else
    none
  else
   none
 else
  some (Sum.inl (o, t7, t10, t11, t13))
def feluccalaw21_StateTells_L0 : Nat → ((List GFeluccalaw21Act) × Bool × GState × Int) → Option ((Bool) ⊕ (Bool))
  | 0, _ => none
  | k + 1, (o, t7, t10, t11) =>
  bif decide (t11 < Int.ofNat (List.length o)) then
  bif decide (0 ≤ t11) then
   bif decide (t11 < Int.ofNat (List.length o)) then
    bif decide (1000 < Int.ofNat (ByteArray.size (List.getD o (Int.toNat t11) (0, 0, 0, 0, 0, 0, 0, 0, 0, 0, 0, 0, 0, 0, (⟨#[]⟩ : ByteArray), 0, [], 0, 0)).2.2.2.2.2.2.2.2.2.2.2.2.2.2.1)) then
     bif t7 then
      some (Sum.inr true)
     else
      some (Sum.inr false)
    else
     bif decide (0 ≤ t11) then
      bif decide (t11 < Int.ofNat (List.length o)) then
       bif decide (50 < Int.ofNat (List.length (List.getD o (Int.toNat t11) (0, 0, 0, 0, 0, 0, 0, 0, 0, 0, 0, 0, 0, 0, (⟨#[]⟩ : ByteArray), 0, [], 0, 0)).2.2.2.2.2.2.2.2.2.2.2.2.2.2.2.2.1)) then
        bif t7 then
         some (Sum.inr true)
        else
         some (Sum.inr false)
       else
        (rf21_Copy k t10).bind fun o_8 =>
         bif decide (0 ≤ t11) then
          bif decide (t11 < Int.ofNat (List.length o)) then
           (feluccalaw21_done k (t10, List.getD o (Int.toNat t11) (0, 0, 0, 0, 0, 0, 0, 0, 0, 0, 0, 0, 0, 0, (⟨#[]⟩ : ByteArray), 0, [], 0, 0))).bind fun o_11 =>
            bif decide (0 ≤ t11) then
             bif decide (t11 < Int.ofNat (List.length o)) then
              (feluccalaw21_told k (t10, List.getD o (Int.toNat t11) (0, 0, 0, 0, 0, 0, 0, 0, 0, 0, 0, 0, 0, 0, (⟨#[]⟩ : ByteArray), 0, [], 0, 0))).bind fun o_14 =>
               bif !(o_11.2.1 == o_14.2.1 && o_11.2.2 == o_14.2.2) then
                some (Sum.inr false)
               else
                (rf21_Same k (o_11.1, o_14.1)).bind fun o_16 =>
                 bif o_16 then
                  (rf21_Same k (t10, o_8)).bind fun o_18 =>
                   bif o_18 then
                    (rf21_Copy k o_11.1).bind fun o_20 =>
                     (feluccalaw21_StateTells_L1 k (o, t7, o_20, t11, o_11.1, 0)).bind fun o_21 =>
                      match o_21 with
                      | .inl o_22 =>
                       (feluccalaw21_StateTells_L2 k (o_22.1, o_22.2.1, o_22.2.2.1, o_22.2.2.2.1, o_22.2.2.2.2, 0)).bind fun o_23 =>
                        match o_23 with
                        | .inl o_24 =>
                         feluccalaw21_StateTells_L0 k (o_24.1, o_24.2.1, o_24.2.2.1, w64 (o_24.2.2.2 + 1))
                        | .inr o_24 =>
                         some (Sum.inr o_24)
                      | .inr o_22 =>
                       some (Sum.inr o_22)
                   else
                    some (Sum.inr false)
                 else
                  some (Sum.inr false)
             else
              none
            else
             none
          else
           none
         else
          none
      else
       none
     else
      none
   else
    none
  else
   none
 else
  some (Sum.inl t7)
def feluccalaw21_StateTells (k : Nat) : (GState × (List GFeluccalaw21Act) × GState) → Option (Bool) := fun (t, o, A) =>
  (feluccalaw21_small k ()).bind fun o_1 =>
  bif o_1 then
   (feluccalaw21_Few k t).bind fun o_3 =>
    bif o_3 then
     (feluccalaw21_Few k A).bind fun o_5 =>
      bif o_5 then
       bif decide (50 < Int.ofNat (List.length o)) then
        some (true)
       else
        (state_Right k t).bind fun o_8 =>
         bif o_8 then
          (rf21_Right k t).bind fun o_10 =>
           bif o_10 then
            (state_Same k (t, A)).bind fun o_12 =>
             bif o_12 then
              (rf21_Same k (t, A)).bind fun o_14 =>
               bif o_14 then
                (rf21_Right k t).bind fun o_16 =>
                 bif o_16 then
                  (feluccalaw21_StateTells_L0 k (o, true, t, 0)).bind fun o_18 =>
                   match o_18 with
                   | .inl o_19 =>
                    bif o_19 then
                     some (true)
                    else
                     some (false)
                   | .inr o_19 =>
                    some (o_19)
                 else
                  some (true)
               else
                some (false)
             else
              (rf21_Same k (t, A)).bind fun o_14 =>
               bif o_14 then
                some (false)
               else
                (rf21_Right k t).bind fun o_16 =>
                 bif o_16 then
                  (feluccalaw21_StateTells_L0 k (o, true, t, 0)).bind fun o_18 =>
                   match o_18 with
                   | .inl o_19 =>
                    bif o_19 then
                     some (true)
                    else
                     some (false)
                   | .inr o_19 =>
                    some (o_19)
                 else
                  some (true)
           else
            some (false)
         else
          (rf21_Right k t).bind fun o_10 =>
           bif o_10 then
            some (false)
           else
            (state_Same k (t, A)).bind fun o_12 =>
             bif o_12 then
              (rf21_Same k (t, A)).bind fun o_14 =>
               bif o_14 then
                (rf21_Right k t).bind fun o_16 =>
                 bif o_16 then
                  (feluccalaw21_StateTells_L0 k (o, true, t, 0)).bind fun o_18 =>
                   match o_18 with
                   | .inl o_19 =>
                    bif o_19 then
                     some (true)
                    else
                     some (false)
                   | .inr o_19 =>
                    some (o_19)
                 else
                  some (true)
               else
                some (false)
             else
              (rf21_Same k (t, A)).bind fun o_14 =>
               bif o_14 then
                some (false)
               else
                (rf21_Right k t).bind fun o_16 =>
                 bif o_16 then
                  (feluccalaw21_StateTells_L0 k (o, true, t, 0)).bind fun o_18 =>
                   match o_18 with
                   | .inl o_19 =>
                    bif o_19 then
                     some (true)
                    else
                     some (false)
                   | .inr o_19 =>
                    some (o_19)
                 else
                  some (true)
      else
       some (true)
    else
     (feluccalaw21_Few k A).bind fun o_5 =>
      bif o_5 then
       some (true)
      else
       some (true)
  else
   (feluccalaw21_Few k t).bind fun o_3 =>
    bif o_3 then
     (feluccalaw21_Few k A).bind fun o_5 =>
      bif o_5 then
       bif decide (50 < Int.ofNat (List.length o)) then
        some (false)
       else
        (state_Right k t).bind fun o_8 =>
         bif o_8 then
          (rf21_Right k t).bind fun o_10 =>
           bif o_10 then
            (state_Same k (t, A)).bind fun o_12 =>
             bif o_12 then
              (rf21_Same k (t, A)).bind fun o_14 =>
               bif o_14 then
                (rf21_Right k t).bind fun o_16 =>
                 bif o_16 then
                  (feluccalaw21_StateTells_L0 k (o, false, t, 0)).bind fun o_18 =>
                   match o_18 with
                   | .inl o_19 =>
                    bif o_19 then
                     some (true)
                    else
                     some (false)
                   | .inr o_19 =>
                    some (o_19)
                 else
                  some (false)
               else
                some (false)
             else
              (rf21_Same k (t, A)).bind fun o_14 =>
               bif o_14 then
                some (false)
               else
                (rf21_Right k t).bind fun o_16 =>
                 bif o_16 then
                  (feluccalaw21_StateTells_L0 k (o, false, t, 0)).bind fun o_18 =>
                   match o_18 with
                   | .inl o_19 =>
                    bif o_19 then
                     some (true)
                    else
                     some (false)
                   | .inr o_19 =>
                    some (o_19)
                 else
                  some (false)
           else
            some (false)
         else
          (rf21_Right k t).bind fun o_10 =>
           bif o_10 then
            some (false)
           else
            (state_Same k (t, A)).bind fun o_12 =>
             bif o_12 then
              (rf21_Same k (t, A)).bind fun o_14 =>
               bif o_14 then
                (rf21_Right k t).bind fun o_16 =>
                 bif o_16 then
                  (feluccalaw21_StateTells_L0 k (o, false, t, 0)).bind fun o_18 =>
                   match o_18 with
                   | .inl o_19 =>
                    bif o_19 then
                     some (true)
                    else
                     some (false)
                   | .inr o_19 =>
                    some (o_19)
                 else
                  some (false)
               else
                some (false)
             else
              (rf21_Same k (t, A)).bind fun o_14 =>
               bif o_14 then
                some (false)
               else
                (rf21_Right k t).bind fun o_16 =>
                 bif o_16 then
                  (feluccalaw21_StateTells_L0 k (o, false, t, 0)).bind fun o_18 =>
                   match o_18 with
                   | .inl o_19 =>
                    bif o_19 then
                     some (true)
                    else
                     some (false)
                   | .inr o_19 =>
                    some (o_19)
                 else
                  some (false)
      else
       some (false)
    else
     (feluccalaw21_Few k A).bind fun o_5 =>
      bif o_5 then
       some (false)
      else
       some (false)
noncomputable def feluccalaw21_StateTells_e := entOf (P := Tryz.prog) (A := [.agg lGState, .one (.row 41 kGFeluccalaw21Act), .agg lGState]) (R := [.one (.sc (.bool))]) Tryz.f3 feluccalaw21_StateTells (fun k => ⟨[feluccalaw21_small_e k, feluccalaw21_Few_e k, state_Right_e k, rf21_Right_e k, state_Same_e k, rf21_Same_e k, rf21_Copy_e k, feluccalaw21_done_e k, feluccalaw21_told_e k], [], [hkStr Tryz.prog]⟩) [some ⟨0, [(1, .one (.ro kGFeluccalaw21Act)), (7, .one (.sc (.bool))), (10, .box 28 trGState), (11, .one (.sc (.int .i64)))], [(7, .one (.sc (.bool)))], feluccalaw21_StateTells_L0⟩, some ⟨2, [(1, .one (.ro kGFeluccalaw21Act)), (7, .one (.sc (.bool))), (10, .box 28 trGState), (11, .one (.sc (.int .i64))), (13, .box 28 toGState), (17, .one (.sc (.int .i64)))], [(1, .one (.ro kGFeluccalaw21Act)), (7, .one (.sc (.bool))), (10, .box 28 trGState), (11, .one (.sc (.int .i64))), (13, .box 28 toGState)], feluccalaw21_StateTells_L1⟩, some ⟨4, [(1, .one (.ro kGFeluccalaw21Act)), (7, .one (.sc (.bool))), (10, .box 28 trGState), (11, .one (.sc (.int .i64))), (13, .box 28 toGState), (18, .one (.sc (.int .i64)))], [(1, .one (.ro kGFeluccalaw21Act)), (7, .one (.sc (.bool))), (10, .box 28 trGState), (11, .one (.sc (.int .i64)))], feluccalaw21_StateTells_L2⟩] Tryz.func3 (by kernel_rfl) (by kernel_rfl) ⟨⟨fun _ => rfl, fun k x => by kernel_rfl⟩, ⟨⟨fun _ => rfl, fun k x => by kernel_rfl⟩, ⟨⟨fun _ => rfl, fun k x => by kernel_rfl⟩, trivial⟩⟩⟩ (fun k x => by kernel_rfl) fun _ _ => by kernel_rfl
end Ex
namespace Ex
open Go
theorem rCopy21 {s : GState} (h : RightS s) (k : Nat) : rf21_Copy k s = some s := by
  have hl := h.len
  unfold rf21_Copy
  have e1 : rf08_Copy k (s.1, s.2.1, s.2.2.1, s.2.2.2.1) = some (s.1, s.2.1, s.2.2.1, s.2.2.2.1) := Copy8_spec _ k (by show s.1.length ≤ _; omega) (by show s.2.1.length ≤ _; omega)
  simp only [e1, rCopy_spec (bk s) k (by omega), Option.bind_some]
theorem rwithin_spec (k : Nat) (u : T48) (c : GContact) : rf21_within k (u, c) = some (withB u c) := by
  unfold rf21_within withB
  simp only [rVolume_spec, Option.bind_some]
  cases decide (u.1 ≤ volC c) <;> cases decide (u.2.1 ≤ volC c) <;> cases decide (u.2.2 ≤ volC c) <;> rfl
theorem rRight21_L0 (s : GState) (h1 : s.1.length ≤ 5000) (h3 : (bk s).length ≤ 5000) (hl : SortL (bk s)) : ∀ (n i k : Nat), (bk s).length - i = n → n + 20000 < k → rf21_Right_L0 k (s, (i : Int)) = some (bif ((bk s).drop i).any (badB s) then .inr false else .inl ())
  | 0, i, k + 1, hn, hk => by
    simp only [rf21_Right_L0]
    rw [i_lt, dcF (show ¬ i < (bk s).length by omega), List.drop_eq_nil_of_le (show (bk s).length ≤ i by omega)]
    rfl
  | n + 1, i, k + 1, hn, hk => by
    have hi : i < (bk s).length := by omega
    have hm : (bk s).getD i zB ∈ bk s := by rw [getB hi]; exact List.getElem_mem hi
    have hu := usedL_mem hl hm
    have ih := rRight21_L0 s h1 h3 hl n (i + 1) k (by omega) (by omega)
    simp only [rf21_Right_L0]
    rw [i_lt, dcT hi, dcT (Int.natCast_nonneg i), Int.toNat_natCast, getD_drop (d := zB) hi, List.any_cons]
    simp only [cond_true, ref06_Find_spec s.1 _ k (by omega) (by omega), rwithin_spec, Option.bind_some, w64_succ (by omega : i < 4611686018427387904), ih]
    have hb : badB s ((bk s).getD i zB) = !((findC s.1 ((bk s).getD i zB).1).2 && withB ((bk s).getD i zB).2 (findC s.1 ((bk s).getD i zB).1).1) := by
      unfold badB
      rw [hu]
    rw [hb]
    show (bif (findC s.1 ((bk s).getD i zB).1).2 then _ else _) = _
    cases (findC s.1 ((bk s).getD i zB).1).2 with
    | false => rfl
    | true => cases withB ((bk s).getD i zB).2 (findC s.1 ((bk s).getD i zB).1).1 <;> rfl
theorem rRight21 (s : GState) (k : Nat) (h1 : s.1.length ≤ 5000) (h2 : s.2.1.length ≤ 5000) (h3 : (bk s).length ≤ 5000) (hr : ∀ c ∈ s.1, rngC c) (hq : ∀ r ∈ s.2.1, rngR r) (hk : 30000 < k) : rf21_Right k s = state_Right k s := by
  obtain ⟨b1, e1, i1⟩ := plan_Right_spec (pl s) k h1 h2 hr hq (by omega)
  have e1' : plan_Right k (s.1, s.2.1, s.2.2.1, s.2.2.2.1) = some b1 := e1
  have e8 : rf08_Right k (s.1, s.2.1, s.2.2.1, s.2.2.2.1) = some b1 := (Right8_same (pl s) k h1 h2 hr hq (by omega)).trans e1
  have e2 := RightB_spec (bk s) k (by omega) (by omega)
  have e3 := rRight_spec (bk s) k (by omega) (by omega)
  unfold rf21_Right state_Right
  simp only [e1', e8, Option.bind_some, e2, e3]
  cases b1 with
  | false => cases rightLB (bk s) <;> rfl
  | true =>
    simp only [cond_true]
    cases hb : rightLB (bk s) with
    | false => rfl
    | true =>
      have hl := (chkB_iff (bk s)).1 hb
      have := rRight21_L0 s h1 h3 hl.2 (bk s).length 0 k (by omega) (by omega)
      rw [Int.natCast_zero, List.drop_zero] at this
      simp only [cond_true, sr_spec s k h1 h3 hl.2 hr (by omega), this, Option.bind_some]
      cases (bk s).any (badB s) <;> rfl
theorem rSame21 (s t : GState) (k : Nat) (h1 : s.1.length ≤ 5000) (h2 : s.2.1.length ≤ 5000) (h3 : (bk s).length ≤ 5000) (hk : 20000 < k) : rf21_Same k (s, t) = some (decide (s = t)) := by
  have e1 : rf08_Same k ((s.1, s.2.1, s.2.2.1, s.2.2.2.1), t.1, t.2.1, t.2.2.1, t.2.2.2.1) = some (decide (pl s = pl t)) := (Same8_spec (pl s) (pl t) k h1 h2 (by omega)).trans (planSame_spec (pl s) (pl t) k h1 h2 hk)
  have e2 := rSame_spec (bk s) (bk t) k (by omega) (by omega)
  unfold rf21_Same
  simp only [e1, e2, Option.bind_some]
  by_cases e3 : pl s = pl t
  · rw [dcT e3]
    by_cases e4 : bk s = bk t
    · rw [dcT e4, dcT (show s = t by rw [← mk_pl s, ← mk_pl t, e3, e4])]; rfl
    · rw [dcF e4, dcF (fun e => e4 (by rw [e]) : ¬ s = t)]; rfl
  · rw [dcF e3, dcF (fun e => e3 (by rw [e]) : ¬ s = t)]
    cases decide (bk s = bk t) <;> rfl
theorem rEdit21 {s : GState} (h : RightS s) (d : GDirective) (hd : rngD d) (k : Nat) (hk : 30000 < k) : rf21_Edit k (s, d) = state_Edit k (s, d) := by
  have hl := h.len
  have hdr : ledger_Drop k (s.2.2.2.2, []) = some (bk s) := by
    have := Drop_spec (bk s) [] k (by omega) (by simp) (by simp only [List.length_nil]; omega)
    rwa [drop_nil] at this
  have hdi : ledger_Drop k (s.2.2.2.2, [d.2.2.1]) = some (dropL (bk s) [d.2.2.1]) := Drop_spec (bk s) [d.2.2.1] k (by omega) (by simp) (by simp only [List.length_cons, List.length_nil]; omega)
  have hdj : rf09_Drop k (s.2.2.2.2, [d.2.2.1]) = some (dropL (bk s) [d.2.2.1]) := rDrop_spec (bk s) [d.2.2.1] k (by omega) (by simp) (by simp only [List.length_cons, List.length_nil]; omega)
  have h8 : rf08_Apply k ((s.1, s.2.1, s.2.2.1, s.2.2.2.1), d) = plan_Apply k ((s.1, s.2.1, s.2.2.1, s.2.2.2.1), d) := Apply8_same h.1 (by show s.1.length ≤ _; omega) (by show s.2.1.length ≤ _; omega) d hd k (by omega)
  have hus := rUsed_spec (bk s) d.2.2.1 k (by omega) (by omega)
  unfold rf21_Edit state_Edit
  simp only [h8]
  rcases Apply_cases h.1 (by show s.1.length ≤ _; omega) (by show s.2.1.length ≤ _; omega) d hd k (by omega) with ⟨e, he, ha⟩ | ⟨q, ha, hq, hcl, hkp⟩
  · have ha' : plan_Apply k ((s.1, s.2.1, s.2.2.1, s.2.2.2.1), d) = some (pl s, e) := ha
    simp only [ha', Option.bind_some, h.copied k (by omega), rCopy21 h k, dcF he, Bool.not_false, cond_true]
  · have ha' : plan_Apply k ((s.1, s.2.1, s.2.2.1, s.2.2.2.1), d) = some (q, 0) := ha
    have hqt : RightT q.1 := hq.2.2.2.2.1.1
    have hql : q.1.length ≤ 4096 := hq.2.2.2.2.1.2
    have hfi := ref06_Find_spec q.1 d.2.2.1 k (by omega) (by omega)
    simp only [ha', Option.bind_some, hdr, hdi, hdj, decide_true, Bool.not_true, cond_false, rCopy_spec (bk s) k (by omega), hfi, hus, rwithin_spec, rCopy21 h k]
    rcases hkp with ⟨o1, o2, e1⟩ | ⟨o1, o2, ⟨c, hc, hci⟩, hkeep⟩ | ⟨hno, hkeep⟩
    · have b1 : (d.1 == 2 && d.2.1 == 1) = true := by simp [o1, o2]
      rw [b1, dcT o2, dcT o1, dcF (show ¬ d.1 = 3 by omega)]
      cases (findC q.1 d.2.2.1).2 <;> rfl
    · have b1 : (d.1 == 2 && d.2.1 == 1) = false := by simp [o1]
      have b2 : (d.1 == 3 && d.2.1 == 1) = true := by simp [o1, o2]
      have hfc : findC q.1 d.2.2.1 = (c, true) := by rw [← hci]; exact findC_mem hqt.ids hc
      have hov := over_spec (bk s) c k (by omega) h.2.1.2 (hqt.rng c hc) (by omega)
      rw [hci] at hov
      rw [b1, b2, dcT o2, dcT o1, dcF (show ¬ d.1 = 2 by omega)]
      simp only [cond_true, cond_false, contacts_Find_spec q.1 d.2.2.1 k (by omega) (by omega), Option.bind_some, hfc, hov, h.copied k (by omega)]
      cases withB (usedL (bk s) d.2.2.1) c <;> rfl
    · have b1 : (d.1 == 2 && d.2.1 == 1) = false := by
        rw [Bool.eq_false_iff]; simp only [ne_eq, Bool.and_eq_true, beq_iff_eq]; exact fun hh => hno ⟨.inl hh.1, hh.2⟩
      have b2 : (d.1 == 3 && d.2.1 == 1) = false := by
        rw [Bool.eq_false_iff]; simp only [ne_eq, Bool.and_eq_true, beq_iff_eq]; exact fun hh => hno ⟨.inr hh.1, hh.2⟩
      rw [b1, b2]
      by_cases o2 : d.2.1 = 1
      · rw [dcT o2, dcF (show ¬ d.1 = 2 from fun e => hno ⟨.inl e, o2⟩), dcF (show ¬ d.1 = 3 from fun e => hno ⟨.inr e, o2⟩)]
        cases (findC q.1 d.2.2.1).2 <;> rfl
      · rw [dcF o2]
        cases (findC q.1 d.2.2.1).2 <;> rfl
theorem rLoad_L0 {s : GState} (h : RightS s) (t : ByteArray) (ht : t.size ≤ 1000) (l : List GDirective) (hd : ∀ d ∈ l, rngD d) (hll : l.length = (Tx.rowsT t.data.toList).length) : ∀ (m i k : Nat) (x : GState), RightS x → l.length - i = m → m + 30000 < k →
    rf21_Load_L0 k (s, zS, (0, 0), l, (Tx.rowsT t.data.toList).map (·.1), x, (i : Int)) = state_Load_L0 k (t, s, zS, (0, 0), x, l, Int.ofNat l.length, (i : Int))
  | 0, i, k + 1, x, hx, hm, hk => by
    simp only [state_Load_L0, rf21_Load_L0]
    rw [i_lt, dcF (by omega)]
    rfl
  | m + 1, i, k + 1, x, hx, hm, hk => by
    have hf := rows_few t ht
    have hi : i < l.length := by omega
    have hdd := hd _ (getD_dir hi)
    obtain ⟨o, ho, hkp⟩ := Edit21_cases hx _ hdd k (by omega)
    have hr := rEdit21 hx _ hdd k (by omega)
    simp only [state_Load_L0, rf21_Load_L0]
    rw [i_lt, dcT hi, dcT (Int.natCast_nonneg i), Int.toNat_natCast]
    simp only [cond_true, hr, ho, Option.bind_some, h.copied k (by omega), rCopy21 h k, Tx.text_Lines_sp k (s := t) (by omega) (by omega)]
    rcases hkp with ⟨he, _⟩ | ⟨he, hq, hcl⟩
    · rw [dcF he]; rfl
    · rw [dcT he, w64_succ (by omega)]
      exact rLoad_L0 h t ht l hd hll m (i + 1) k o.1 hq (by omega) (by omega)
theorem rLoad21 {s : GState} (h : RightS s) (t : ByteArray) (ht : t.size ≤ 1000) (k : Nat) (hk : 135000 < k) : rf21_Load k (s, t) = state_Load k (s, t) := by
  unfold rf21_Load state_Load
  simp only [Tx.text_Parse_sp k (s := t) (by omega) (by omega), Tx.rTextParse_sp k (s := t) (by omega) (by omega), Tx.rTextLines_sp k (s := t) (by omega) (by omega), Option.bind_some, h.copied k (by omega), rCopy21 h k]
  by_cases he : (Tx.parseT t.data.toList).2.2 = 0
  · obtain ⟨g1, g2⟩ := parseT_good he
    have hf := rows_few t ht
    have := rLoad_L0 h t ht _ (fun d hd => right_rng (g2 d hd)) g1 _ 0 k s h rfl (by omega)
    rw [Int.natCast_zero] at this
    rw [dcT he]
    simp only [Bool.not_true, cond_false, this]
    all_goals rfl
  · rw [dcF he]
    rfl
theorem rAdvance21 {s : GState} (h : RightS s) (now : Int) (k : Nat) (hk : 30000 < k) : rf21_Advance k (s, now) = state_Advance k (s, now) := by
  have hl := h.len
  have h8 : rf08_Advance k ((s.1, s.2.1, s.2.2.1, s.2.2.2.1), now) = plan_Advance k ((s.1, s.2.1, s.2.2.1, s.2.2.2.1), now) := Advance8_same h.1 (by show s.1.length ≤ _; omega) (by show s.2.1.length ≤ _; omega) now k (by omega)
  have e1 : plan_Advance k ((s.1, s.2.1, s.2.2.1, s.2.2.2.1), now) = _ := Advance_cases h.1 (by show s.1.length ≤ _; omega) (by show s.2.1.length ≤ _; omega) now k (by omega)
  have hg := goneC_len now s.1
  have hsl := sorted_len (goneC now s.1)
  unfold state_Advance rf21_Advance
  simp only [h8, e1, Option.bind_some, h.copied k (by omega), rCopy21 h k]
  have ec : (pl s).2.2.1 = s.2.2.1 := rfl
  have e0 : (pl s).1 = s.1 := rfl
  rw [ec, e0]
  by_cases hc : now < s.2.2.1 ∨ 2147483647 < now
  · simp only [if_pos hc]
    all_goals rfl
  · simp only [if_neg hc, decide_true, Bool.not_true, cond_false, Drop_spec (bk s) (sorted (goneC now s.1)) k (by omega) (by omega) (by omega), rDrop_spec (bk s) (sorted (goneC now s.1)) k (by omega) (by omega) (by omega), Option.bind_some]
theorem wrong_L1 (ids : List Int) (s : GState) (hs : ids.length ≤ 1000) (i : Nat) (hi : i < ids.length) : ∀ (m j k : Nat), i - j = m → m < k → j ≤ i → rf21_wrong_L1 k (ids, s, (i : Int), (j : Int)) = some (bif ((ids.take i).drop j).any (fun x => decide (x = ids.getD i 0)) then .inr 1 else .inl (ids, s, (i : Int)))
  | 0, j, k + 1, hm, hk, hj => by
    simp only [rf21_wrong_L1]
    rw [dcF (by omega), List.drop_eq_nil_of_le (by rw [List.length_take]; omega)]
    rfl
  | m + 1, j, k + 1, hm, hk, hj => by
    have hjl : j < ids.length := by omega
    have hjt : j < (ids.take i).length := by rw [List.length_take]; omega
    have ih := wrong_L1 ids s hs i hi m (j + 1) k (by omega) (by omega) (by omega)
    have hg : (ids.take i).getD j 0 = ids.getD j 0 := by
      rw [List.getD_eq_getElem?_getD, List.getD_eq_getElem?_getD, List.getElem?_take_of_lt (by omega)]
    simp only [rf21_wrong_L1]
    rw [dcT (by omega : (j : Int) < (i : Int)), dcT (Int.natCast_nonneg j), i_lt, dcT hjl, i_lt, dcT hi, dcT (Int.natCast_nonneg i), Int.toNat_natCast, Int.toNat_natCast, getD_drop (d := 0) hjt, List.any_cons, hg, w64_succ (by omega), ih]
    cases decide (ids.getD j 0 = ids.getD i 0) <;> rfl
theorem wrong_L0 (ids : List Int) (s : GState) (hs : ids.length ≤ 1000) : ∀ (m i k : Nat), ids.length - i = m → m + 1001 < k → rf21_wrong_L0 k (ids, s, (i : Int)) = some (bif chkG (fun q => !decide (ids.getD q 0 ∈ ids.take q)) m i then .inl (ids, s) else .inr 1)
  | 0, i, k + 1, hm, hk => by
    simp only [rf21_wrong_L0]
    rw [i_lt, dcF (by omega)]
    rfl
  | m + 1, i, k + 1, hm, hk => by
    have hi : i < ids.length := by omega
    have ih := wrong_L0 ids s hs m (i + 1) k (by omega) (by omega)
    have h1 := wrong_L1 ids s hs i hi i 0 k (by omega) (by omega) (by omega)
    rw [Int.natCast_zero, List.drop_zero] at h1
    have e : ((ids.take i).any fun x => decide (x = ids.getD i 0)) = decide (ids.getD i 0 ∈ ids.take i) := by
      rw [Bool.eq_iff_iff, List.any_eq_true]; simp
    rw [e] at h1
    simp only [rf21_wrong_L0, chkG]
    rw [i_lt, dcT hi]
    simp only [cond_true, h1, Option.bind_some]
    cases decide (ids.getD i 0 ∈ ids.take i) with
    | true => rfl
    | false =>
      simp only [cond_false, w64_succ (by omega : i < 4611686018427387904), ih, Bool.not_false, Bool.true_and]
theorem nodup_chk (ids : List Int) : chkG (fun q => !decide (ids.getD q 0 ∈ ids.take q)) ids.length 0 = true ↔ ids.Nodup := by
  rw [chkG_all]
  have gd : ∀ q (h : q < ids.length), ids.getD q 0 = ids[q] := fun q h => by rw [List.getD_eq_getElem?_getD, List.getElem?_eq_getElem h]; rfl
  constructor
  · intro h
    refine List.pairwise_iff_getElem.2 fun i j hi hj hij e => ?_
    have := h j (Nat.zero_le _) (by omega)
    simp only [Bool.not_eq_true', decide_eq_false_iff_not] at this
    refine this (List.mem_iff_getElem.2 ⟨i, by rw [List.length_take]; omega, ?_⟩)
    rw [List.getElem_take, gd j hj]; exact e
  · intro h q _ hq
    have hq : q < ids.length := by omega
    simp only [Bool.not_eq_true', decide_eq_false_iff_not]
    intro hm
    obtain ⟨i, hi, e⟩ := List.mem_iff_getElem.1 hm
    rw [List.length_take] at hi
    rw [List.getElem_take, gd q hq] at e
    exact List.pairwise_iff_getElem.1 h i q (by omega) hq (by omega) e
theorem wrong_L2 (ids : List Int) (s : GState) (h1 : s.1.length ≤ 5000) (hs : ids.length ≤ 1000) : ∀ (m i k : Nat), ids.length - i = m → m + 5001 < k → rf21_wrong_L2 k (ids, s, (i : Int)) = some (bif (ids.drop i).any (fun id => !(findC s.1 id).2) then .inr 6 else .inl ())
  | 0, i, k + 1, hm, hk => by
    simp only [rf21_wrong_L2]
    rw [i_lt, dcF (by omega), List.drop_eq_nil_of_le (by omega)]
    rfl
  | m + 1, i, k + 1, hm, hk => by
    have hi : i < ids.length := by omega
    have ih := wrong_L2 ids s h1 hs m (i + 1) k (by omega) (by omega)
    simp only [rf21_wrong_L2]
    rw [i_lt, dcT hi, dcT (Int.natCast_nonneg i), Int.toNat_natCast, getD_drop (d := 0) hi, List.any_cons]
    simp only [cond_true, ref06_Find_spec s.1 _ k (by omega) (by omega), Option.bind_some, w64_succ (by omega : i < 4611686018427387904), ih]
    cases (findC s.1 (ids.getD i 0)).2 <;> rfl
theorem wrong_spec (s : GState) (ids : List Int) (n size : Int) (k : Nat) (h1 : s.1.length ≤ 5000) (hs : ids.length ≤ 1000) (hk : 10000 < k) : rf21_wrong k (s, ids, n, size) = some (askE s.1 ids n size) := by
  have e0 := wrong_L0 ids s hs ids.length 0 k (by omega) (by omega)
  have e2 := wrong_L2 ids s h1 hs ids.length 0 k (by omega) (by omega)
  rw [Int.natCast_zero] at e0
  rw [Int.natCast_zero, List.drop_zero] at e2
  unfold rf21_wrong
  simp only [e0, Option.bind_some]
  have c1 : decide (Int.ofNat ids.length = 0) = decide (ids = []) := by
    rw [Bool.eq_iff_iff]; simp only [decide_eq_true_eq]
    show ((ids.length : Int) = 0) ↔ _
    rw [← List.length_eq_zero_iff]; omega
  unfold askE
  simp only [c1]
  by_cases g1 : ids = []
  · rw [dcT g1, if_pos (fun h => h.1 g1)]; rfl
  rw [dcF g1]
  by_cases g3 : n < 0
  · rw [dcT g3, if_pos (fun h => by have := of_decide_eq_true h.2.2.1; omega)]; rfl
  rw [dcF g3]
  by_cases g4 : 2 < n
  · rw [dcT g4, if_pos (fun h => by have := of_decide_eq_true h.2.2.1; omega)]; rfl
  rw [dcF g4]
  by_cases g5 : size < 0
  · rw [dcT g5, if_pos (fun h => by have := h.2.2.2.1; omega)]; rfl
  rw [dcF g5]
  by_cases g6 : 1099511627775 < size
  · rw [dcT g6, if_pos (fun h => by have := h.2.2.2.2; omega)]; rfl
  rw [dcF g6]
  simp only [cond_false]
  have hnd := nodup_chk ids
  cases hc : chkG (fun q => !decide (ids.getD q 0 ∈ ids.take q)) ids.length 0 with
  | false => rw [if_pos (fun h => by rw [hnd.2 h.2.1] at hc; cases hc)]; rfl
  | true =>
    rw [if_neg (fun h => h ⟨g1, hnd.1 hc, dcT (by omega), by omega, by omega⟩)]
    simp only [cond_true, e2, Option.bind_some]
    cases ids.any fun id => !(findC s.1 id).2 <;> rfl
end Ex
namespace Ex
open Go
theorem rbk_L0 (s : GState) (h : RightS s) (n size : Int) (ids : List Int) (hs : ids.length ≤ 50) (hf : ∀ id ∈ ids, (findC s.1 id).2 = true) : ∀ (m i k : Nat) (x : GState), ids.length - i = m → m + 20100 < k → i ≤ ids.length → RightL (bk x) → (bk x).length ≤ 5000 + i →
    ∃ y : GState, rf21_Book_L0 k (ids, n, size, s, zS, x, 0, (i : Int)) = some (.inl (s, zS, y, bif runOk (bkOk s.1 n size) (bkF n size) (bk x) (ids.drop i) then 0 else 8)) ∧ (runOk (bkOk s.1 n size) (bkF n size) (bk x) (ids.drop i) = true → y = stS (pl x) (runL (bkF n size) (bk x) (ids.drop i)))
  | 0, i, k + 1, x, hm, hk, hi, hl, hx => by
    refine ⟨x, ?_, fun _ => ?_⟩
    · simp only [rf21_Book_L0]
      rw [i_lt, dcF (by omega), List.drop_eq_nil_of_le (by omega)]
      rfl
    · rw [List.drop_eq_nil_of_le (by omega)]; rfl
  | m + 1, i, k + 1, x, hm, hk, hi, hl, hx => by
    have hlt : i < ids.length := by omega
    have hmem : ids.getD i 0 ∈ ids := by rw [List.getD_eq_getElem?_getD, List.getElem?_eq_getElem hlt]; exact List.getElem_mem hlt
    have hfd := hf _ hmem
    have hid := findC_id hfd
    have hb := rBook_spec (bk x) (findC s.1 (ids.getD i 0)).1 n size k (by omega) hl (by omega)
    rw [hid] at hb
    have hlen := h.len
    rw [getD_drop (d := 0) hlt, runOk, runL]
    simp only [rf21_Book_L0]
    rw [i_lt, dcT hlt, dcT (Int.natCast_nonneg i), Int.toNat_natCast]
    simp only [cond_true, ref06_Find_spec s.1 _ k (by omega) (by omega), Option.bind_some, hb, hfd, show decide ((0 : Int) = 0) = true from rfl, w64_succ (by omega : i < 4611686018427387904)]
    have eb : bkOk s.1 n size (ids.getD i 0) (usedL (bk x) (ids.getD i 0)) = bookB (usedL (bk x) (ids.getD i 0)) (findC s.1 (ids.getD i 0)).1 n size := rfl
    have ef : bkF n size (usedL (bk x) (ids.getD i 0)) = addU (usedL (bk x) (ids.getD i 0)) n size := rfl
    rw [eb, ef]
    cases ho : bookB (usedL (bk x) (ids.getD i 0)) (findC s.1 (ids.getD i 0)).1 n size with
    | false =>
      refine ⟨(x.1, x.2.1, x.2.2.1, x.2.2.2.1, bk x), ?_, fun hh => by simp at hh⟩
      simp only [cond_false, Bool.false_and]
      obtain ⟨k, rfl⟩ : ∃ q, k = q + 1 := ⟨k - 1, by omega⟩
      simp only [rf21_Book_L0]
      rw [i_lt]
      cases decide (i + 1 < ids.length) <;> rfl
    | true =>
      have hw := withL_len' (bk x) (ids.getD i 0) (addU (usedL (bk x) (ids.getD i 0)) n size)
      simp only [cond_true, Bool.true_and]
      exact rbk_L0 s h n size ids hs hf m (i + 1) k (x.1, x.2.1, x.2.2.1, x.2.2.2.1, withL (bk x) (ids.getD i 0) (addU (usedL (bk x) (ids.getD i 0)) n size)) (by omega) (by omega) (by omega) (withL_right hl (found_rng h hfd) (book_ok (usedL_ok hl _) ho)) (by show (withL _ _ _).length ≤ _; omega)
theorem rrl_L0 (s : GState) (n size : Int) (ids : List Int) (hs : ids.length ≤ 50) (hr : ∀ id ∈ ids, 1 ≤ id ∧ id ≤ 1048576) : ∀ (m i k : Nat) (x : GState), ids.length - i = m → m + 20100 < k → i ≤ ids.length → RightL (bk x) → (bk x).length ≤ 5000 + i →
    ∃ y : GState, rf21_Release_L0 k (ids, n, size, s, zS, x, 0, (i : Int)) = some (.inl (s, zS, y, bif runOk (rlOk n size) (rlF n size) (bk x) (ids.drop i) then 0 else 8)) ∧ (runOk (rlOk n size) (rlF n size) (bk x) (ids.drop i) = true → y = stS (pl x) (runL (rlF n size) (bk x) (ids.drop i)))
  | 0, i, k + 1, x, hm, hk, hi, hl, hx => by
    refine ⟨x, ?_, fun _ => ?_⟩
    · simp only [rf21_Release_L0]
      rw [i_lt, dcF (by omega), List.drop_eq_nil_of_le (by omega)]
      rfl
    · rw [List.drop_eq_nil_of_le (by omega)]; rfl
  | m + 1, i, k + 1, x, hm, hk, hi, hl, hx => by
    have hlt : i < ids.length := by omega
    have hmem : ids.getD i 0 ∈ ids := by rw [List.getD_eq_getElem?_getD, List.getElem?_eq_getElem hlt]; exact List.getElem_mem hlt
    have hb := rRelease_spec (bk x) (ids.getD i 0) n size k (by omega) hl (by omega)
    rw [getD_drop (d := 0) hlt, runOk, runL]
    simp only [rf21_Release_L0]
    rw [i_lt, dcT hlt, dcT (Int.natCast_nonneg i), Int.toNat_natCast]
    simp only [cond_true, Option.bind_some, hb, show decide ((0 : Int) = 0) = true from rfl, w64_succ (by omega : i < 4611686018427387904)]
    have eb : rlOk n size (ids.getD i 0) (usedL (bk x) (ids.getD i 0)) = freeB (usedL (bk x) (ids.getD i 0)) n size := rfl
    have ef : rlF n size (usedL (bk x) (ids.getD i 0)) = addU (usedL (bk x) (ids.getD i 0)) n (-size) := rfl
    rw [eb, ef]
    cases ho : freeB (usedL (bk x) (ids.getD i 0)) n size with
    | false =>
      refine ⟨(x.1, x.2.1, x.2.2.1, x.2.2.2.1, bk x), ?_, fun hh => by simp at hh⟩
      simp only [cond_false, Bool.false_and]
      obtain ⟨k, rfl⟩ : ∃ q, k = q + 1 := ⟨k - 1, by omega⟩
      simp only [rf21_Release_L0]
      rw [i_lt]
      cases decide (i + 1 < ids.length) <;> rfl
    | true =>
      have hw := withL_len' (bk x) (ids.getD i 0) (addU (usedL (bk x) (ids.getD i 0)) n (-size))
      simp only [cond_true, Bool.true_and]
      exact rrl_L0 s n size ids hs hr m (i + 1) k (x.1, x.2.1, x.2.2.1, x.2.2.2.1, withL (bk x) (ids.getD i 0) (addU (usedL (bk x) (ids.getD i 0)) n (-size))) (by omega) (by omega) (by omega) (withL_right hl (hr _ hmem) (free_ok (usedL_ok hl _) ho)) (by show (withL _ _ _).length ≤ _; omega)
theorem rBook21 {s : GState} (h : RightS s) (ids : List Int) (n size : Int) (hs : ids.length ≤ 50) (k : Nat) (hk : 30000 < k) : rf21_Book k (s, ids, n, size) = some (eachA s ids n size (bkOk s.1 n size) (bkF n size)) := by
  have hl := h.len
  unfold rf21_Book eachA
  simp only [wrong_spec s ids n size k (by omega) (by omega) (by omega), rCopy21 h k, Option.bind_some]
  by_cases he : askE s.1 ids n size = 0
  · obtain ⟨hg, hf⟩ := askE_0 he
    obtain ⟨y, h1, h2⟩ := rbk_L0 s h n size ids hs hf ids.length 0 k s (by omega) (by omega) (by omega) h.2.1 (by omega)
    rw [Int.natCast_zero, List.drop_zero] at h1
    rw [List.drop_zero] at h2
    rw [he, if_neg (by simp)]
    simp only [h1, Option.bind_some]
    cases ho : runOk (bkOk s.1 n size) (bkF n size) (bk s) ids with
    | false => simp only [cond_false, rCopy21 h k, Option.bind_some]; rfl
    | true => rw [h2 ho]; rfl
  · rw [if_pos he]
    obtain ⟨k, rfl⟩ : ∃ q, k = q + 1 := ⟨k - 1, by omega⟩
    have h1 : rf21_Book_L0 (k + 1) (ids, n, size, s, ([], [], 0, 0, []), s, askE s.1 ids n size, 0) = some (.inl (s, zS, s, askE s.1 ids n size)) := by
      simp only [rf21_Book_L0]
      rw [dcF he]
      cases decide ((0 : Int) < Int.ofNat ids.length) <;> rfl
    simp only [h1, Option.bind_some, dcF he, Bool.not_false, cond_true, rCopy21 h (k + 1)]
theorem rRelease21 {s : GState} (h : RightS s) (ids : List Int) (n size : Int) (hs : ids.length ≤ 50) (k : Nat) (hk : 30000 < k) : rf21_Release k (s, ids, n, size) = some (eachA s ids n size (rlOk n size) (rlF n size)) := by
  have hl := h.len
  unfold rf21_Release eachA
  simp only [wrong_spec s ids n size k (by omega) (by omega) (by omega), rCopy21 h k, Option.bind_some]
  by_cases he : askE s.1 ids n size = 0
  · obtain ⟨hg, hf⟩ := askE_0 he
    obtain ⟨y, h1, h2⟩ := rrl_L0 s n size ids hs (fun id hid => found_rng h (hf id hid)) ids.length 0 k s (by omega) (by omega) (by omega) h.2.1 (by omega)
    rw [Int.natCast_zero, List.drop_zero] at h1
    rw [List.drop_zero] at h2
    rw [he, if_neg (by simp)]
    simp only [h1, Option.bind_some]
    cases ho : runOk (rlOk n size) (rlF n size) (bk s) ids with
    | false => simp only [cond_false, rCopy21 h k, Option.bind_some]; rfl
    | true => rw [h2 ho]; rfl
  · rw [if_pos he]
    obtain ⟨k, rfl⟩ : ∃ q, k = q + 1 := ⟨k - 1, by omega⟩
    have h1 : rf21_Release_L0 (k + 1) (ids, n, size, s, ([], [], 0, 0, []), s, askE s.1 ids n size, 0) = some (.inl (s, zS, s, askE s.1 ids n size)) := by
      simp only [rf21_Release_L0]
      rw [dcF he]
      cases decide ((0 : Int) < Int.ofNat ids.length) <;> rfl
    simp only [h1, Option.bind_some, dcF he, Bool.not_false, cond_true, rCopy21 h (k + 1)]
theorem told_same {s : GState} (h : RightS s) {a : GAct} (ha : rngD (dA a)) (h1 : (tA a).size ≤ 1000) (h2 : (iA a).length ≤ 50) (k : Nat) (hk : 140000 < k) : feluccalaw21_told k (s, a) = feluccalaw21_done k (s, a) := by
  have e1 : rf21_Edit k (s, a.2.1, a.2.2.1, a.2.2.2.1, a.2.2.2.2.1, a.2.2.2.2.2.1, a.2.2.2.2.2.2.1, a.2.2.2.2.2.2.2.1, a.2.2.2.2.2.2.2.2.1, a.2.2.2.2.2.2.2.2.2.1, a.2.2.2.2.2.2.2.2.2.2.1, a.2.2.2.2.2.2.2.2.2.2.2.1, a.2.2.2.2.2.2.2.2.2.2.2.2.1, a.2.2.2.2.2.2.2.2.2.2.2.2.2.1) = state_Edit k (s, a.2.1, a.2.2.1, a.2.2.2.1, a.2.2.2.2.1, a.2.2.2.2.2.1, a.2.2.2.2.2.2.1, a.2.2.2.2.2.2.2.1, a.2.2.2.2.2.2.2.2.1, a.2.2.2.2.2.2.2.2.2.1, a.2.2.2.2.2.2.2.2.2.2.1, a.2.2.2.2.2.2.2.2.2.2.2.1, a.2.2.2.2.2.2.2.2.2.2.2.2.1, a.2.2.2.2.2.2.2.2.2.2.2.2.2.1) := rEdit21 h (dA a) ha k (by omega)
  have e2 : rf21_Load k (s, a.2.2.2.2.2.2.2.2.2.2.2.2.2.2.1) = state_Load k (s, a.2.2.2.2.2.2.2.2.2.2.2.2.2.2.1) := rLoad21 h (tA a) h1 k (by omega)
  have e3 : rf21_Advance k (s, a.2.2.2.2.2.2.2.2.2.2.2.2.2.2.2.1) = state_Advance k (s, a.2.2.2.2.2.2.2.2.2.2.2.2.2.2.2.1) := rAdvance21 h _ k (by omega)
  have e4 : rf21_Book k (s, a.2.2.2.2.2.2.2.2.2.2.2.2.2.2.2.2) = state_Book k (s, a.2.2.2.2.2.2.2.2.2.2.2.2.2.2.2.2) := (rBook21 h (iA a) _ _ h2 k (by omega)).trans (Book21_spec h (iA a) _ _ h2 k (by omega)).symm
  have e5 : rf21_Release k (s, a.2.2.2.2.2.2.2.2.2.2.2.2.2.2.2.2) = state_Release k (s, a.2.2.2.2.2.2.2.2.2.2.2.2.2.2.2.2) := (rRelease21 h (iA a) _ _ h2 k (by omega)).trans (Release21_spec h (iA a) _ _ h2 k (by omega)).symm
  unfold feluccalaw21_told feluccalaw21_done
  simp only [e1, e2, e3, e4, e5]
end Ex
namespace Ex
open Go
theorem lt1000 (a : GAct) : decide (1000 < Int.ofNat (ByteArray.size (tA a))) = decide (1000 < (tA a).size) := by
  rw [Bool.eq_iff_iff]; simp only [decide_eq_true_eq]; show ((1000 : Int) < ((tA a).size : Int)) ↔ _; omega
theorem lt50 (l : List Int) : decide (50 < Int.ofNat l.length) = decide (50 < l.length) := by
  rw [Bool.eq_iff_iff]; simp only [decide_eq_true_eq]; show ((50 : Int) < (l.length : Int)) ↔ _; omega
end Ex
namespace Ex
open Go
theorem Tells_L1 (o : List GAct) (b : Bool) (x : GState) (m : Int) : ∀ (n : Nat) (y : GState) (j k : Nat), (bk y).length - j = n → n < k → (bk y).length ≤ 5000 → ∃ y' : GState, feluccalaw21_StateTells_L1 k (o, b, x, m, y, (j : Int)) = some (.inl (o, b, x, m, y')) ∧ y'.1 = y.1
  | 0, y, j, k + 1, h, hk, hy => by
    refine ⟨y, ?_, rfl⟩
    simp only [feluccalaw21_StateTells_L1]
    rw [i_lt, dcF (show ¬ j < (bk y).length by omega)]
    rfl
  | n + 1, y, j, k + 1, h, hk, hy => by
    have hj : j < (bk y).length := by omega
    have hj' : j < y.2.2.2.2.length := hj
    simp only [feluccalaw21_StateTells_L1]
    rw [i_lt, dcT hj', dcT (Int.natCast_nonneg j), Int.toNat_natCast, w64_succ (by omega)]
    obtain ⟨y', e1, e2⟩ := Tells_L1 o b x m n (y.1, y.2.1, y.2.2.1, y.2.2.2.1, List.set y.2.2.2.2 j (-7, (List.getD y.2.2.2.2 j (0, 0, 0, 0)).2)) (j + 1) k (by show (List.set _ _ _).length - _ = _; rw [List.length_set]; show (bk y).length - _ = _; omega) (by omega) (by show (List.set _ _ _).length ≤ _; rw [List.length_set]; exact hy)
    exact ⟨y', e1, e2⟩
theorem Tells_L2 (o : List GAct) (b : Bool) (x : GState) (m : Int) : ∀ (n : Nat) (y : GState) (j k : Nat), y.1.length - j = n → n < k → y.1.length ≤ 5000 → feluccalaw21_StateTells_L2 k (o, b, x, m, y, (j : Int)) = some (.inl (o, b, x, m))
  | 0, y, j, k + 1, h, hk, hy => by
    simp only [feluccalaw21_StateTells_L2]
    rw [i_lt, dcF (by omega)]
    rfl
  | n + 1, y, j, k + 1, h, hk, hy => by
    have hj : j < y.1.length := by omega
    simp only [feluccalaw21_StateTells_L2]
    rw [i_lt, dcT hj, dcT (Int.natCast_nonneg j), Int.toNat_natCast, w64_succ (by omega)]
    exact Tells_L2 o b x m n (List.set y.1 j (-7, (List.getD y.1 j (0, 0, 0, 0, 0, 0)).2), y.2) (j + 1) k (by show (List.set _ _ _).length - _ = _; rw [List.length_set]; omega) (by omega) (by show (List.set _ _ _).length ≤ _; rw [List.length_set]; exact hy)
theorem Tells_L0 (acts : List GAct) (ha : ∀ a ∈ acts, okvT kGFeluccalaw21Act a) (hl : acts.length ≤ 50) : ∀ (m i k : Nat) (s : GState), RightS s → acts.length - i = m → m + 145000 < k → (feluccalaw21_StateTells_L0 k (acts, true, s, (i : Int)) = some (.inl true) ∨ feluccalaw21_StateTells_L0 k (acts, true, s, (i : Int)) = some (.inr true))
  | 0, i, k + 1, s, h, hm, hk => by
    left
    simp only [feluccalaw21_StateTells_L0]
    rw [i_lt, dcF (by omega)]
    rfl
  | m + 1, i, k + 1, s, h, hm, hk => by
    have hi : i < acts.length := by omega
    have ha1 := ha _ (getD_act hi)
    have et : ∀ a : GAct, a.2.2.2.2.2.2.2.2.2.2.2.2.2.2.1 = tA a := fun _ => rfl
    have ei : ∀ a : GAct, a.2.2.2.2.2.2.2.2.2.2.2.2.2.2.2.2.1 = iA a := fun _ => rfl
    simp only [feluccalaw21_StateTells_L0]
    rw [i_lt, dcT hi, dcT (Int.natCast_nonneg i), Int.toNat_natCast]
    simp only [cond_true, et, ei, lt1000, lt50]
    by_cases g1 : 1000 < (tA (acts.getD i zA)).size
    · rw [dcT g1]; exact .inr rfl
    rw [dcF g1]
    by_cases g2 : 50 < (iA (acts.getD i zA)).length
    · rw [dcT g2]; exact .inr rfl
    rw [dcF g2]
    obtain ⟨o, ho, hkp⟩ := done_keeps h (rngA ha1) (by omega) (by omega) k (by omega)
    have ht := (told_same h (rngA ha1) (by omega) (by omega) k (by omega)).trans ho
    have hq : RightS o.1 := by
      rcases hkp with ⟨_, e⟩ | ⟨_, e, _⟩
      · rw [e]; exact h
      · exact e
    have hql := hq.len
    have hsl := h.len
    have hso := rSame21 o.1 o.1 k (by omega) (by omega) (by omega) (by omega)
    have hss := rSame21 s s k (by omega) (by omega) (by omega) (by omega)
    rw [dcT rfl] at hso hss
    obtain ⟨y', l1, l2⟩ := Tells_L1 acts true o.1 (i : Int) (bk o.1).length o.1 0 k (by omega) (by omega) (by omega)
    rw [Int.natCast_zero] at l1
    have l3 := Tells_L2 acts true o.1 (i : Int) y'.1.length y' 0 k (by omega) (by rw [l2]; omega) (by rw [l2]; omega)
    rw [Int.natCast_zero] at l3
    simp only [cond_false, ho, ht, rCopy21 h k, rCopy21 hq k, Option.bind_some, beq_self_eq_true, Bool.and_self, Bool.not_true, hso, hss, cond_true, l1, l3, w64_succ (by omega : i < 4611686018427387904)]
    exact Tells_L0 acts ha hl m (i + 1) k o.1 hq (by omega) (by omega)
theorem StateTells_pure (s : GState) (g1 : ∀ c ∈ s.1, okvT kGContact c) (g2 : ∀ r ∈ s.2.1, okvT kGRange r) (acts : List GAct) (g3 : ∀ a ∈ acts, okvT kGFeluccalaw21Act a) (t : GState) : ∃ k, feluccalaw21_StateTells k (s, acts, t) = some true := by
  refine ⟨150000, ?_⟩
  unfold feluccalaw21_StateTells
  simp only [small21, Few21_spec, Option.bind_some, cond_true]
  by_cases few : s.1.length ≤ 50 ∧ s.2.1.length ≤ 50 ∧ (bk s).length ≤ 50
  · rw [dcT few]
    simp only [cond_true]
    by_cases few2 : t.1.length ≤ 50 ∧ t.2.1.length ≤ 50 ∧ (bk t).length ≤ 50
    · rw [dcT few2]
      simp only [cond_true]
      by_cases hi : acts.length ≤ 50
      · have c1 : decide (50 < Int.ofNat acts.length) = false := dcF (by show ¬ (50 : Int) < (acts.length : Int); omega)
        rw [c1]
        obtain ⟨b, hb, hr⟩ := StateRight_spec s 150000 (by omega) (by omega) (by omega) (fun c hc => rng_of (g1 c hc)) (fun r hr => rngR_of (g2 r hr)) (by omega)
        have hb2 := (rRight21 s 150000 (by omega) (by omega) (by omega) (fun c hc => rng_of (g1 c hc)) (fun r hr => rngR_of (g2 r hr)) (by omega)).trans hb
        have hs1 := StateSame_spec s t 150000 (by omega) (by omega) (by omega) (by omega)
        have hs2 := rSame21 s t 150000 (by omega) (by omega) (by omega) (by omega)
        simp only [cond_false, hb, hb2, hs1, hs2, Option.bind_some]
        cases b with
        | false => cases decide (s = t) <;> rfl
        | true =>
          have := Tells_L0 acts g3 hi acts.length 0 150000 s (hr.1 rfl) rfl (by omega)
          rw [Int.natCast_zero] at this
          cases decide (s = t) <;> (rcases this with e | e <;> simp only [cond_true, cond_false, e, Option.bind_some])
      · have c1 : decide (50 < Int.ofNat acts.length) = true := dcT (by show (50 : Int) < (acts.length : Int); omega)
        rw [c1]; rfl
    · rw [dcF few2]; rfl
  · rw [dcF few]
    cases decide (t.1.length ≤ 50 ∧ t.2.1.length ≤ 50 ∧ (bk t).length ≤ 50) <;> rfl
end Ex
namespace Ex
open Go Go.RowKit Go.WideShapes
section
variable {P : Program} {kd : IntKind}
theorem tup_one {W : World} {n : Nat} {H : Type} {enc : TypeId × Value → H} {e : TypeId} (he : P.underlying e = some (.int kd)) : ∀ (m : Nat) (cs : List Value), cs.length = m → (∀ i, i < m → ∃ y, DataW.trod enc P W 0 (fun _ => true) true n e ((cs.drop i).take 1) = some y) →
    ∃ y : Tup (List.replicate m (SK.int kd)), TupIs (fun b => b < W.heap.size) W (List.replicate m (SK.int kd)) y cs ∧ okvT (List.replicate m (SK.int kd)) y
  | 0, cs, hl, _ => by
    have : cs = [] := List.length_eq_zero_iff.1 hl
    subst this
    exact ⟨(), by simp [TupIs], by simp [okvT]⟩
  | m + 1, cs, hl, h => by
    obtain ⟨y, hy⟩ := h 0 (by omega)
    have a1 := OpK.t (OpK.int he) enc W n _ y hy
    have a2 := tup_one he m (cs.drop 1) (by rw [List.length_drop]; omega) (fun i hi => by
      obtain ⟨z, hz⟩ := h (i + 1) (by omega)
      exact ⟨z, by rw [List.drop_drop, show 1 + i = i + 1 by omega]; exact hz⟩)
    have e1 : cs = (cs.drop 0).take 1 ++ cs.drop 1 := by rw [List.drop_zero, List.take_append_drop]
    have := tup_app (ok := fun b => b < W.heap.size) (W := W) (a := [SK.int kd]) (b := List.replicate m (SK.int kd)) a1 a2
    rw [← e1] at this
    exact this
theorem OpT.arr {t e : TypeId} {n : Nat} (ht : P.underlying t = some (.array n e)) (he : P.underlying e = some (.int kd)) (hc : P.cellsOf e = 1) (hC : P.cellsOf t = n) : OpT P t (List.replicate n (SK.int kd)) := by
  intro H enc W fuel cs x hx
  obtain ⟨xs, m, _, rfl, hl, hlen, hf⟩ := DataW.trod_array ht hx
  refine tup_one (enc := enc) (n := m) he n cs (by rw [hl, hC]) (fun i hi => ?_)
  have h1 := hf i hi
  rw [hc, Nat.mul_one, List.getElem?_eq_getElem (by omega)] at h1
  exact ⟨_, h1⟩
end
end Ex
end Go.Proofs.YthlhbnaloefncaaGreatDoor
