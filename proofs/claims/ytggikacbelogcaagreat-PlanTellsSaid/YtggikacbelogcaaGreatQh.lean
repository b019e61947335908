/- The document's plans: the program's answers. -/
import Derived.Test.YtggikacbelogcaaGreatQg
namespace Go.Proofs.YtggikacbelogcaaGreat.Ex
open Go
set_option linter.unusedVariables false
set_option linter.unusedSimpArgs false
theorem zb (x : Int) : ((0 : Int) == x) = (x == 0) := by
  rw [Bool.eq_iff_iff, beq_iff_eq, beq_iff_eq]
  exact eq_comm
theorem noRange_spec (k : Nat) (r : T35) : feluccaref04_noRange k r = some (r.1 == 0 && (r.2.1 == 0 && (r.2.2.1 == 0 && (r.2.2.2.1 == 0 && r.2.2.2.2 == 0)))) := by
  unfold feluccaref04_noRange
  exact bif_self _
theorem noContact_spec (k : Nat) (c : T33) : feluccaref04_noContact k c = some (c.1 == 0 && (c.2.1 == 0 && (c.2.2.1 == 0 && (c.2.2.2.1 == 0 && (c.2.2.2.2.1 == 0 && c.2.2.2.2.2 == 0))))) := by
  unfold feluccaref04_noContact
  exact bif_self _
set_option maxHeartbeats 1000000 in
theorem dir_same (k : Nat) (d : T37) (h : rngD d) : feluccaref04_Right k d = direct_Right k d := by
  unfold feluccaref04_Right direct_Right
  simp only [noRange_spec, noContact_spec, direct_may_spec k d h, ref03_Contact_spec, ref03_Range_spec, feluccaref04_whole, Option.bind_some, bif_self, zb, beq_self_eq_true, Bool.true_and, Bool.and_true]
  have em : mayB d = mayB d := rfl
  conv at em => rhs; unfold mayB dC dR
  simp only [em]
  obtain ⟨op, kd, id, f, t, s, e, ra, f2, t2, s2, e2, ow⟩ := d
  simp only
  clear h em
  generalize hzr : (f2 == 0 && (t2 == 0 && (s2 == 0 && (e2 == 0 && ow == 0)))) = zr
  generalize hzc : (id == 0 && (f == 0 && (t == 0 && (s == 0 && (e == 0 && ra == 0))))) = zc
  by_cases k1 : kd = 1
  · have k2 : ¬ kd = 2 := by omega
    by_cases o1 : op = 1
    · simp only [k1, o1]
      cases zr <;> rfl
    · by_cases o2 : op = 2
      · subst o2 k1
        by_cases hra : ra = 0
        · subst hra
          have hm : mx 0 1 = 1 := by decide
          simp only [hm]
          generalize (f == 0 && (t == 0 && (s == 0 && (e == 0 && (0 : Int) == 0)))) = z2
          cases zr <;> cases z2 <;> rfl
        · have : (f == 0 && (t == 0 && (s == 0 && (e == 0 && ra == 0)))) = false := by simp [hra]
          simp only [this]
          cases zr <;> rfl
      · by_cases o3 : op = 3
        · subst o3 k1
          generalize (f == 0 && (t == 0 && (s == 0 && e == 0))) = z3
          cases zr <;> cases z3 <;> rfl
        · have a1 : decide (op = 1) = false := decide_eq_false o1
          have a2 : decide (op = 2) = false := decide_eq_false o2
          have a3 : decide (op = 3) = false := decide_eq_false o3
          have b2 : decide (kd = 2) = false := decide_eq_false k2
          simp only [a1, a2, a3, b2, Bool.false_and, cond_false]
          cases zr <;> cases decide (kd = 1) <;> rfl
  · have b1 : decide (kd = 1) = false := decide_eq_false k1
    by_cases k2 : kd = 2
    · by_cases o1 : op = 1
      · subst o1 k2
        cases zc <;> rfl
      · by_cases o2 : op = 2
        · subst o2 k2
          have : (e2 == 0 && ow == 0) = (ow == 0 && e2 == 0) := Bool.and_comm _ _
          cases zc <;> cases (e2 == 0) <;> cases (ow == 0) <;> rfl
        · by_cases o3 : op = 3
          · subst o3 k2
            have : decide (e2 = 0) = (e2 == 0) := rfl
            rw [this]
            cases zc <;> cases (e2 == 0) <;> rfl
          · have a1 : decide (op = 1) = false := decide_eq_false o1
            have a2 : decide (op = 2) = false := decide_eq_false o2
            have a3 : decide (op = 3) = false := decide_eq_false o3
            simp only [a1, a2, a3, b1, Bool.false_and, cond_false]
            cases zc <;> cases decide (kd = 2) <;> rfl
    · have b2 : decide (kd = 2) = false := decide_eq_false k2
      simp only [b1, b2, Bool.and_false, cond_false]
theorem dir_valid {k : Nat} {d : T37} (h : rngD d) (hb : direct_Right k d = some true) : (d.1 = 1 ∨ d.1 = 2 ∨ d.1 = 3) ∧ (d.2.1 = 1 ∨ d.2.1 = 2) := by
  unfold direct_Right at hb
  by_cases k1 : d.2.1 = 1
  · by_cases o1 : d.1 = 1
    · exact ⟨.inl o1, .inl k1⟩
    by_cases o2 : d.1 = 2
    · exact ⟨.inr (.inl o2), .inl k1⟩
    by_cases o3 : d.1 = 3
    · exact ⟨.inr (.inr o3), .inl k1⟩
    simp [o1, o2, o3] at hb
  · by_cases k2 : d.2.1 = 2
    · by_cases o1 : d.1 = 1
      · exact ⟨.inl o1, .inr k2⟩
      by_cases o2 : d.1 = 2
      · exact ⟨.inr (.inl o2), .inr k2⟩
      by_cases o3 : d.1 = 3
      · exact ⟨.inr (.inr o3), .inr k2⟩
      simp [o1, o2, o3] at hb
    · simp [k1, k2] at hb
theorem Copy8_spec (p : T25) (k : Nat) (h1 : p.1.length ≤ 1000000000) (h2 : p.2.1.length ≤ 1000000000) : feluccaref08_Copy k p = some p := by
  unfold feluccaref08_Copy
  rw [decide_eq_true (by omega), decide_eq_true (by omega)]
  rfl
theorem Same8_spec (p q : T25) (k : Nat) (h1 : p.1.length ≤ 1000) (h2 : p.2.1.length ≤ 1000) (hk : 1010 < k) : feluccaref08_Same k (p, q) = plan_Same k (p, q) := by
  unfold plan_Same feluccaref08_Same
  simp only [ref06_Same_spec p.1 q.1 k (by omega) (by omega), ref07_Same_spec p.2.1 q.2.1 k (by omega) (by omega), Same_spec p.1 q.1 k (by omega) (by omega), SameR_spec p.2.1 q.2.1 k (by omega) (by omega), Option.bind_some]
  cases decide (p.1 = q.1) <;> cases decide (p.2.1 = q.2.1) <;> cases decide (p.2.2.1 = q.2.2.1) <;> cases decide (p.2.2.2 = q.2.2.2) <;> rfl
theorem Same8_refl (p : T25) (k : Nat) (h1 : p.1.length ≤ 1000) (h2 : p.2.1.length ≤ 1000) (hk : 1010 < k) : feluccaref08_Same k (p, p) = some true := by
  rw [Same8_spec p p k h1 h2 hk, planSame_refl p k h1 h2 hk]
theorem R8_L0 (p : T25) (hs : p.1.length ≤ 1000) : ∀ (n i k : Nat), p.1.length - i = n → n < k → feluccaref08_Right_L0 k (p, (i : Int)) = some (bif (p.1.drop i).any (fun c => decide (c.2.2.2.2.1 ≤ p.2.2.1)) then .inr false else .inl p)
  | 0, i, k + 1, hn, hk => by
    rw [List.drop_eq_nil_of_le (by omega)]
    simp only [feluccaref08_Right_L0]
    rw [i_lt, decide_eq_false (by omega)]
    rfl
  | n + 1, i, k + 1, hn, hk => by
    have hi : i < p.1.length := by omega
    rw [drop_any' (0, 0, 0, 0, 0, 0) hi]
    simp only [feluccaref08_Right_L0]
    rw [i_lt, decide_eq_true hi, decide_eq_true (Int.natCast_nonneg i), Int.toNat_natCast]
    simp only [cond_true, w64_succ (by omega : i < 4611686018427387904), R8_L0 p hs n (i + 1) k (by omega) (by omega)]
    cases decide ((p.1.getD i (0, 0, 0, 0, 0, 0)).2.2.2.2.1 ≤ p.2.2.1) <;> rfl
theorem R8_L1 (p : T25) (hs : p.2.1.length ≤ 1000) : ∀ (n i k : Nat), p.2.1.length - i = n → n < k → feluccaref08_Right_L1 k (p, (i : Int)) = some (bif (p.2.1.drop i).any (fun c => decide (c.2.2.2.1 ≤ p.2.2.1)) then .inr false else .inl ())
  | 0, i, k + 1, hn, hk => by
    rw [List.drop_eq_nil_of_le (by omega)]
    simp only [feluccaref08_Right_L1]
    rw [i_lt, decide_eq_false (by omega)]
    rfl
  | n + 1, i, k + 1, hn, hk => by
    have hi : i < p.2.1.length := by omega
    rw [drop_any' (0, 0, 0, 0, 0) hi]
    simp only [feluccaref08_Right_L1]
    rw [i_lt, decide_eq_true hi, decide_eq_true (Int.natCast_nonneg i), Int.toNat_natCast]
    simp only [cond_true, w64_succ (by omega : i < 4611686018427387904), R8_L1 p hs n (i + 1) k (by omega) (by omega)]
    cases decide ((p.2.1.getD i (0, 0, 0, 0, 0)).2.2.2.1 ≤ p.2.2.1) <;> rfl
theorem Right8_same (p : T25) (k : Nat) (h1 : p.1.length ≤ 500) (h2 : p.2.1.length ≤ 500) (h3 : ∀ c ∈ p.1, rngC c) (h4 : ∀ r ∈ p.2.1, rngR r) (hk : 1010 < k) : feluccaref08_Right k p = plan_Right k p := by
  have q0 := R8_L0 p (by omega) p.1.length 0 k (by omega) (by omega)
  have q1 := R8_L1 p (by omega) p.2.1.length 0 k (by omega) (by omega)
  rw [Int.natCast_zero, List.drop_zero] at q0 q1
  unfold plan_Right feluccaref08_Right
  simp only [r1_spec p.1 p k (by omega) (by omega), r2_spec p.2.1 p k (by omega) (by omega), Right_spec p.1 k (by omega) h3 (by omega), RightQ_spec p.2.1 k (by omega) h4 (by omega), refRight_spec p.1 k (by omega) (by omega), ref07_Right_spec p.2.1 k (by omega) (by omega), q0, Option.bind_some]
  cases rightB p.1 <;> cases rightQ p.2.1 <;> cases decide (p.2.2.1 < 0) <;> cases decide (2147483647 < p.2.2.1) <;> cases decide (p.2.2.2 < 0) <;> cases decide (1099511627776 < p.2.2.2) <;> cases hA : p.1.any (fun c => decide (c.2.2.2.2.1 ≤ p.2.2.1)) <;> cases hB : p.2.1.any (fun c => decide (c.2.2.2.1 ≤ p.2.2.1)) <;> first | rfl | (simp only [cond_true, cond_false, q1, hB, Option.bind_some])
/-! ### what is done -/
theorem fin1 (o : List T33 × Int) (p : T25) (v : Int) (k : Nat) (h1 : o.1.length ≤ 100000) (h2 : p.2.1.length ≤ 100000) : (bif !decide (o.2 = 0) then some (p, o.2) else (feluccaref08_Copy k (o.1, p.2.1, p.2.2.1, v)).bind fun x => some (x, (0 : Int))) = (bif !decide (o.2 = 0) then some (p, o.2) else some ((o.1, p.2.1, p.2.2.1, v), 0)) := by
  rw [Copy8_spec (o.1, p.2.1, p.2.2.1, v) k (by show o.1.length ≤ _; omega) (by show p.2.1.length ≤ _; omega)]
  rfl
theorem fin2 (o : List T35 × Int) (p : T25) (v : Int) (k : Nat) (h1 : o.1.length ≤ 100000) (h2 : p.1.length ≤ 100000) : (bif !decide (o.2 = 0) then some (p, o.2) else (feluccaref08_Copy k (p.1, o.1, p.2.2.1, v)).bind fun x => some (x, (0 : Int))) = (bif !decide (o.2 = 0) then some (p, o.2) else some ((p.1, o.1, p.2.2.1, v), 0)) := by
  rw [Copy8_spec (p.1, o.1, p.2.2.1, v) k (by show p.1.length ≤ _; omega) (by show o.1.length ≤ _; omega)]
  rfl
theorem AddR_len (l : List T33) (c : T33) (r : Nat) : (AddR l c r).1.length ≤ l.length + 1 := by
  unfold AddR
  repeat' split
  all_goals first | exact Nat.le_succ _ | (show (insAt l r c).length ≤ _; rw [ins_len]; exact Nat.le_refl _)
theorem addQ_len (l : List T35) (c : T35) (r : Nat) : (addQ l c r).1.length ≤ l.length + 1 := by
  unfold addQ
  repeat' split
  all_goals first | exact Nat.le_succ _ | (show (insR l r c).length ≤ _; rw [insR_len]; exact Nat.le_refl _)
theorem Apply8_same {p : T25} (h : RightP p) (h1 : p.1.length ≤ 1000) (h2 : p.2.1.length ≤ 1000) (d : T37) (hd : rngD d) (k : Nat) (hk : 1010 < k) : feluccaref08_Apply k (p, d) = plan_Apply k (p, d) := by
  obtain ⟨hc1, hv, hcl, hrl, hRT, hRR⟩ := h
  unfold plan_Apply feluccaref08_Apply
  simp only [Copy_spec p k (by omega) (by omega), Copy8_spec p k (by omega) (by omega), past_spec, Option.bind_some, dir_same k d hd]
  obtain ⟨b, hb⟩ := direct_Right_some k d hd
  simp only [hb, Option.bind_some]
  cases b with
  | false => rfl
  | true =>
    simp only [cond_true]
    have eC : (d.2.2.1, d.2.2.2.1, d.2.2.2.2.1, d.2.2.2.2.2.1, d.2.2.2.2.2.2.1, d.2.2.2.2.2.2.2.1) = dC d := rfl
    have eR : d.2.2.2.2.2.2.2.2 = dR d := rfl
    simp only [eC, eR]
    obtain ⟨vo, vk⟩ := dir_valid hd hb
    rcases vk with k1 | k1
    · have hk1 : decide (d.2.1 = 1) = true := decide_eq_true k1
      simp only [hk1, cond_true]
      rcases vo with o1 | o2 | o3
      · rw [direct_add1 k d hd o1 k1] at hb
        have hb := Option.some.inj hb
        simp only [Bool.and_eq_true, decide_eq_true_eq] at hb
        obtain ⟨r, _, _, _, ha⟩ := contacts_Add_spec p.1 (dC d) k (by omega) hd.1 hRT.1.sort (by omega)
        have hl := AddR_len p.1 (dC d) r
        have e1 : (d.1 == 1 && d.2.1 == 1) = true := by simp [o1, k1]
        have e2 : decide (d.1 = 1) = true := decide_eq_true o1
        have e3 : decide (max (dC d).2.2.2.2.1 (dR d).2.2.2.1 ≤ p.2.2.1) = decide (d.2.2.2.2.2.2.1 ≤ p.2.2.1) := by
          rw [hb.1, Bool.eq_iff_iff]
          simp only [decide_eq_true_eq]
          show max d.2.2.2.2.2.2.1 0 ≤ _ ↔ _
          omega
        simp only [e1, e2, e3, cond_true, Bool.true_and, ← adds_same p.1 (dC d) k (by omega) hd.1 hRT.1.1 hRT.1.sort (by omega), ha, Option.bind_some, fin1 (AddR p.1 (dC d) r) p _ k (by omega) (by omega)]
      · have e1 : (d.1 == 1 && d.2.1 == 1) = false := by simp [o2]
        have e1b : (d.1 == 2 && d.2.1 == 1) = true := by simp [o2, k1]
        have e2 : decide (d.1 = 1) = false := decide_eq_false (by omega)
        have e3 : decide (d.1 = 2) = true := decide_eq_true o2
        have hl := List.length_filter_le (keepC d.2.2.1) p.1
        simp only [e1, e1b, e2, e3, cond_true, cond_false, Bool.false_and, contacts_Delete_spec p.1 d.2.2.1 k (by omega) (by omega), ref06_Delete_spec p.1 d.2.2.1 k (by omega) (by omega), Option.bind_some]
        exact fin1 (p.1.filter (keepC d.2.2.1), if (p.1.filter (keepC d.2.2.1)).length = p.1.length then 6 else 0) p _ k (by show (p.1.filter (keepC d.2.2.1)).length ≤ _; omega) (by omega)
      · have e1 : (d.1 == 1 && d.2.1 == 1) = false := by simp [o3]
        have e1b : (d.1 == 2 && d.2.1 == 1) = false := by simp [o3]
        have e1c : (d.1 == 3 && d.2.1 == 1) = true := by simp [o3, k1]
        have e2 : decide (d.1 = 1) = false := decide_eq_false (by omega)
        have e3 : decide (d.1 = 2) = false := decide_eq_false (by omega)
        have hl : (chgC p.1 d.2.2.1 d.2.2.2.2.2.2.2.1).1.length ≤ 1000 := by
          rcases Change_cases hRT.1 d.2.2.1 d.2.2.2.2.2.2.2.1 with ⟨e, _, ha⟩ | ⟨j, hj, _, ha, _⟩
          · rw [ha]; exact h1
          · rw [ha]; simp only [List.length_set]; exact h1
        simp only [e1, e1b, e1c, e2, e3, cond_true, cond_false, Bool.false_and, contacts_Change_spec p.1 d.2.2.1 d.2.2.2.2.2.2.2.1 k (by omega) (by omega), ref06_Change_spec p.1 d.2.2.1 d.2.2.2.2.2.2.2.1 k (by omega) (by omega), Option.bind_some]
        exact fin1 (chgC p.1 d.2.2.1 d.2.2.2.2.2.2.2.1) p _ k (by omega) (by omega)
    · have hk1 : decide (d.2.1 = 1) = false := decide_eq_false (by omega)
      have n1 : (d.1 == 1 && d.2.1 == 1) = false := by simp [k1]
      have n2 : (d.1 == 2 && d.2.1 == 1) = false := by simp [k1]
      have n3 : (d.1 == 3 && d.2.1 == 1) = false := by simp [k1]
      simp only [hk1, n1, n2, n3, cond_false]
      rcases vo with o1 | o2 | o3
      · rw [direct_add2 k d hd o1 k1] at hb
        have hb := Option.some.inj hb
        simp only [Bool.and_eq_true, decide_eq_true_eq] at hb
        obtain ⟨r, _, _, _, ha⟩ := AddQ_spec p.2.1 (dR d) k (by omega) hd.2 hRR.1.sort (by omega)
        have hl := addQ_len p.2.1 (dR d) r
        have e1 : (d.1 == 1 && d.2.1 == 2) = true := by simp [o1, k1]
        have e2 : decide (d.1 = 1) = true := decide_eq_true o1
        have e3 : decide (max (dC d).2.2.2.2.1 (dR d).2.2.2.1 ≤ p.2.2.1) = decide ((dR d).2.2.2.1 ≤ p.2.2.1) := by
          rw [hb.1, Bool.eq_iff_iff]
          simp only [decide_eq_true_eq]
          omega
        simp only [e1, e2, e3, cond_true, Bool.true_and, AddE_same hRR.1 (by omega) (dR d) hd.2 k (by omega), ha, Option.bind_some, fin2 (addQ p.2.1 (dR d) r) p _ k (by omega) (by omega)]
        try rfl
      · have e1 : (d.1 == 1 && d.2.1 == 2) = false := by simp [o2]
        have e1b : (d.1 == 2 && d.2.1 == 2) = true := by simp [o2, k1]
        have e2 : decide (d.1 = 1) = false := decide_eq_false (by omega)
        have e3 : decide (d.1 = 2) = true := decide_eq_true o2
        obtain ⟨o, ho, hl⟩ : ∃ o, ranges_Delete k (p.2.1, dR d) = some o ∧ o.1.length ≤ 1000 := by
          rcases DeleteR_cases hRR.1 (by omega) (dR d) k (by omega) with ⟨e, _, ha⟩ | ⟨l', ha, _, hl, _⟩
          · exact ⟨_, ha, h2⟩
          · exact ⟨_, ha, by show l'.length ≤ 1000; omega⟩
        simp only [e1, e1b, e2, e3, cond_true, cond_false, Bool.false_and, DeleteE_same hRR.1 (by omega) (dR d) k (by omega), ho, Option.bind_some]
        exact fin2 o p _ k (by omega) (by omega)
      · have e1 : (d.1 == 1 && d.2.1 == 2) = false := by simp [o3]
        have e1b : (d.1 == 2 && d.2.1 == 2) = false := by simp [o3]
        have e2 : decide (d.1 = 1) = false := decide_eq_false (by omega)
        have e3 : decide (d.1 = 2) = false := decide_eq_false (by omega)
        obtain ⟨o, ho, hl⟩ : ∃ o, ranges_Change k (p.2.1, dR d) = some o ∧ o.1.length ≤ 1000 := by
          rcases ChangeR_cases hRR.1 (by omega) (dR d) k (by omega) with ⟨e, _, ha⟩ | ⟨j, hj, ha, _⟩
          · exact ⟨_, ha, h2⟩
          · exact ⟨_, ha, by simp only [List.length_set]; exact h2⟩
        simp only [e1, e1b, e2, e3, cond_false, Bool.false_and, ChangeE_same hRR.1 (by omega) (dR d) k (by omega), ho, Option.bind_some]
        exact fin2 o p _ k (by omega) (by omega)
theorem Advance8_same {p : T25} (h : RightP p) (h1 : p.1.length ≤ 400) (h2 : p.2.1.length ≤ 400) (now : Int) (k : Nat) (hk : 1010 < k) : feluccaref08_Advance k (p, now) = plan_Advance k (p, now) := by
  obtain ⟨hc1, hv, _⟩ := h
  unfold plan_Advance feluccaref08_Advance
  simp only [Copy_spec p k (by omega) (by omega), Copy8_spec p k (by omega) (by omega), contacts_Expire_spec p.1 now k (by omega) (by omega), ref06_Expire_spec p.1 now k (by omega) (by omega), ExpireR_spec p.2.1 now k (by omega) (by omega), ExpireE_spec p.2.1 now k (by omega) (by omega), Option.bind_some]
  by_cases g1 : now < p.2.2.1
  · rw [decide_eq_true g1]; rfl
  by_cases g2 : 2147483647 < now
  · rw [decide_eq_false g1, decide_eq_true g2]; rfl
  rw [decide_eq_false g1, decide_eq_false g2]
  by_cases g3 : p.2.2.1 < now
  · rw [decide_eq_true g3, decide_eq_false (show ¬ now = p.2.2.1 by omega)]; rfl
  · rw [decide_eq_false g3, decide_eq_true (show now = p.2.2.1 by omega)]; rfl
end Go.Proofs.YtggikacbelogcaaGreat.Ex
