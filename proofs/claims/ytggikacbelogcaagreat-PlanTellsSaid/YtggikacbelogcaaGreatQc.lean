/- A plan: what is right; what is done to it, in plain words. -/
import Derived.Test.YtggikacbelogcaaGreatQb
import Derived.Test.YtggikacbelogcaaGreatPf3
namespace Go.Proofs.YtggikacbelogcaaGreat.Ex
open Go
set_option linter.unusedVariables false
set_option linter.unusedSimpArgs false
theorem rows_ok {s : List SK} {l : List (Tup s)} (h : SK.okv (.row s) l) : ∀ x ∈ l, okvT s x := by
  simp only [SK.okv] at h
  exact h.2
theorem cond_t {α : Type} {b : Bool} {x y r : α} (hb : b = true) (h : x = r) : (bif b then x else y) = r := by subst hb; exact h
theorem cond_f {α : Type} {b : Bool} {x y r : α} (hb : b = false) (h : y = r) : (bif b then x else y) = r := by subst hb; exact h
theorem bind_s {α β : Type} {o : Option α} {v : α} {f : α → Option β} {r : Option β} (ho : o = some v) (h : f v = r) : o.bind f = r := by subst ho; exact h
theorem len_nat {α : Type} (l : List α) : Int.ofNat l.length = (l.length : Int) := rfl
theorem Same_spec (a b : List T33) (k : Nat) (hs : a.length ≤ 1000000000) (hk : a.length < k) : contacts_Same k (a, b) = some (decide (a = b)) := by
  unfold contacts_Same
  exact bind_s (Equal_spec a b k (by omega) hk) (by cases decide (a = b) <;> rfl)
theorem gone_len (now : Int) (l : List T33) : (goneC now l).length + (leftC now l).length = l.length := by
  unfold goneC leftC
  rw [List.length_map]
  induction l with
  | nil => rfl
  | cons x l ih =>
    rw [List.filter_cons, List.filter_cons]
    cases decide (now < x.2.2.2.2.1) <;> simp <;> omega
theorem left_left {now later : Int} (h : now ≤ later) (l : List T33) : leftC later (leftC now l) = leftC later l := by
  unfold leftC
  rw [List.filter_filter]
  congr 1
  funext c
  rw [Bool.eq_iff_iff]
  simp only [Bool.and_eq_true, decide_eq_true_eq]
  omega
theorem leftR_left {now later : Int} (h : now ≤ later) (l : List T35) : leftR later (leftR now l) = leftR later l := by
  unfold leftR
  rw [List.filter_filter]
  congr 1
  funext c
  rw [Bool.eq_iff_iff]
  simp only [Bool.and_eq_true, decide_eq_true_eq]
  omega
theorem leftR_len (now : Int) (l : List T35) : (leftR now l).length ≤ l.length := List.length_filter_le _ _
theorem sorted_len (l : List Int) : (sorted l).length = l.length := (sorted_perm l).length_eq
/-! ### numbers that may be -/
theorem rngR_of {r : T35} (h : okvT kT35 r) : rngR r := by
  simp only [okvT, SK.okv, Lit.wf, Bool.and_eq_true, decide_eq_true_eq] at h
  unfold rngR
  have e1 : IntKind.i64.min = -9223372036854775808 := by decide
  have e2 : IntKind.i64.max = 9223372036854775807 := by decide
  omega
def dC (d : T37) : T33 := (d.2.2.1, d.2.2.2.1, d.2.2.2.2.1, d.2.2.2.2.2.1, d.2.2.2.2.2.2.1, d.2.2.2.2.2.2.2.1)
def dR (d : T37) : T35 := d.2.2.2.2.2.2.2.2
def rngD (d : T37) : Prop := rngC (dC d) ∧ rngR (dR d)
theorem rngD_of {d : T37} (h : okvT kT37 d) : rngD d := by
  simp only [okvT, SK.okv, Lit.wf, Bool.and_eq_true, decide_eq_true_eq] at h
  unfold rngD rngC rngR dC dR
  have e1 : IntKind.i64.min = -9223372036854775808 := by decide
  have e2 : IntKind.i64.max = 9223372036854775807 := by decide
  simp only
  omega
/-! ### directives -/
def mayB (d : T37) : Bool := bif !decide (d.1 = 1) then
    (bif decide (d.1 = 3) then (bif decide (d.2.1 = 1) then conB (d.2.2.1, 1, 2, 0, 1, d.2.2.2.2.2.2.2.1) else ranB ((dR d).1, (dR d).2.1, (dR d).2.2.1, 2147483647, (dR d).2.2.2.2))
      else (bif decide (d.2.1 = 1) then conB (d.2.2.1, 1, 2, 0, 1, mx d.2.2.2.2.2.2.2.1 1) else ranB ((dR d).1, (dR d).2.1, (dR d).2.2.1, 2147483647, (dR d).2.2.2.2)))
  else (bif decide (d.2.1 = 1) then conB (dC d) else ranB (dR d))
theorem bif_self (b : Bool) : (bif b then some true else some false) = some b := by cases b <;> rfl
theorem direct_may_spec (k : Nat) (d : T37) (h : rngD d) : direct_may k d = some (mayB d) := by
  unfold direct_may mayB
  have h1 : ∀ x y, check_Contact k (x, 1, 2, 0, 1, y) = some (conB (x, 1, 2, 0, 1, y)) := fun x y => check_Contact_spec k _ ⟨by simp only; omega, by simp only; omega⟩ ⟨by simp only; omega, by simp only; omega⟩
  have h2 : check_Range k ((dR d).1, (dR d).2.1, (dR d).2.2.1, 2147483647, (dR d).2.2.2.2) = some (ranB ((dR d).1, (dR d).2.1, (dR d).2.2.1, 2147483647, (dR d).2.2.2.2)) := check_Range_spec k _ ⟨h.2.1, by simp only; omega⟩
  have h3 : check_Contact k (dC d) = some (conB (dC d)) := check_Contact_spec k _ h.1.1 h.1.2
  have h4 : check_Range k (dR d) = some (ranB (dR d)) := check_Range_spec k _ h.2
  unfold dR at h2 h4
  unfold dC at h3
  simp only [h1, h2, h3, h4, Option.bind_some, bif_self]
  unfold dC dR
  cases decide (d.1 = 1) <;> cases decide (d.1 = 3) <;> cases decide (d.2.1 = 1) <;> rfl
theorem ex_cond {c : Bool} {x y : Option Bool} (h1 : ∃ b, x = some b) (h2 : ∃ b, y = some b) : ∃ b, (bif c then x else y) = some b := by
  cases c
  · exact h2
  · exact h1
theorem direct_Right_some (k : Nat) (d : T37) (h : rngD d) : ∃ b, direct_Right k d = some b := by
  unfold direct_Right
  simp only [direct_may_spec k d h, Option.bind_some, bif_self]
  repeat first | exact ⟨_, rfl⟩ | refine ex_cond ?_ ?_
theorem direct_add1 (k : Nat) (d : T37) (h : rngD d) (h1 : d.1 = 1) (h2 : d.2.1 = 1) : direct_Right k d = some (decide (dR d = z56) && conB (dC d)) := by
  unfold direct_Right
  simp only [direct_may_spec k d h, Option.bind_some, bif_self]
  have e : mayB d = conB (dC d) := by unfold mayB; rw [h1, h2]; rfl
  rw [e, h1, h2]
  refine cond_t rfl ?_
  have e2 : ((1 : Int) == 1 && ((1 : Int) == 1 && (d.2.2.1 == d.2.2.1 && (d.2.2.2.1 == d.2.2.2.1 && (d.2.2.2.2.1 == d.2.2.2.2.1 && (d.2.2.2.2.2.1 == d.2.2.2.2.2.1 && (d.2.2.2.2.2.2.1 == d.2.2.2.2.2.2.1 && d.2.2.2.2.2.2.2.1 == d.2.2.2.2.2.2.2.1)))) && (0 == d.2.2.2.2.2.2.2.2.1 && (0 == d.2.2.2.2.2.2.2.2.2.1 && (0 == d.2.2.2.2.2.2.2.2.2.2.1 && (0 == d.2.2.2.2.2.2.2.2.2.2.2.1 && 0 == d.2.2.2.2.2.2.2.2.2.2.2.2))))))) = decide (dR d = z56) := by
    have := eq5 z56 (dR d)
    unfold dR at *
    simp only [beq_self_eq_true, Bool.true_and]
    rw [Bool.eq_iff_iff] at *
    rw [this]
    simp only [decide_eq_true_eq]
    exact eq_comm
  rw [e2]
  cases decide (dR d = z56) <;> rfl
theorem direct_add2 (k : Nat) (d : T37) (h : rngD d) (h1 : d.1 = 1) (h2 : d.2.1 = 2) : direct_Right k d = some (decide (dC d = z28) && ranB (dR d)) := by
  unfold direct_Right
  simp only [direct_may_spec k d h, Option.bind_some, bif_self]
  have e : mayB d = ranB (dR d) := by unfold mayB; rw [h1, h2]; rfl
  rw [e, h1, h2]
  refine cond_f rfl (cond_f rfl (cond_f rfl (cond_t rfl ?_)))
  have e2 : ((1 : Int) == 1 && ((2 : Int) == 2 && (0 == d.2.2.1 && (0 == d.2.2.2.1 && (0 == d.2.2.2.2.1 && (0 == d.2.2.2.2.2.1 && (0 == d.2.2.2.2.2.2.1 && 0 == d.2.2.2.2.2.2.2.1)))) && (d.2.2.2.2.2.2.2.2.1 == d.2.2.2.2.2.2.2.2.1 && (d.2.2.2.2.2.2.2.2.2.1 == d.2.2.2.2.2.2.2.2.2.1 && (d.2.2.2.2.2.2.2.2.2.2.1 == d.2.2.2.2.2.2.2.2.2.2.1 && (d.2.2.2.2.2.2.2.2.2.2.2.1 == d.2.2.2.2.2.2.2.2.2.2.2.1 && d.2.2.2.2.2.2.2.2.2.2.2.2 == d.2.2.2.2.2.2.2.2.2.2.2.2))))))) = decide (dC d = z28) := by
    have := eq6 z28 (dC d)
    unfold dC at *
    simp only [beq_self_eq_true, Bool.true_and, Bool.and_true]
    rw [Bool.eq_iff_iff] at *
    rw [this]
    simp only [decide_eq_true_eq]
    exact eq_comm
  rw [e2]
  cases decide (dC d = z28) <;> rfl
theorem direct_del1 (k : Nat) (id : Int) : direct_Right k (2, 1, id, 0, 0, 0, 0, 0, 0, 0, 0, 0, 0) = some (decide (1 ≤ id ∧ id ≤ 1048576)) := by
  have h : rngD (2, 1, id, 0, 0, 0, 0, 0, 0, 0, 0, 0, 0) := by unfold rngD rngC rngR dC dR; simp only; omega
  unfold direct_Right
  simp only [direct_may_spec k _ h, Option.bind_some, bif_self]
  have e : mayB (2, 1, id, 0, 0, 0, 0, 0, 0, 0, 0, 0, 0) = decide (1 ≤ id ∧ id ≤ 1048576) := by
    have : conB (id, 1, 2, 0, 1, 1) = decide (1 ≤ id ∧ id ≤ 1048576) := by
      unfold conB
      have a1 : wayB 1 2 = true := by decide
      have a2 : spanB 0 1 = true := by decide
      have a3 : decide ((1 : Int) ≤ 1 ∧ (1 : Int) ≤ 2147483647) = true := by decide
      simp only [a1, a2, a3, Bool.true_and, Bool.and_true]
    exact this
  rw [e]
  refine cond_f rfl (cond_t rfl (cond_t ?_ rfl))
  simp
/-! ### a plan that is right -/
def RightP (p : T25) : Prop := (0 ≤ p.2.2.1 ∧ p.2.2.1 ≤ 2147483647) ∧ (0 ≤ p.2.2.2 ∧ p.2.2.2 ≤ 1099511627776) ∧ (∀ c ∈ p.1, p.2.2.1 < c.2.2.2.2.1) ∧ (∀ r ∈ p.2.1, p.2.2.1 < r.2.2.2.1) ∧ (RightT p.1 ∧ p.1.length ≤ 4096) ∧ RightR p.2.1 ∧ p.2.1.length ≤ 4096
theorem plan_Right_spec (p : T25) (k : Nat) (h1 : p.1.length ≤ 1000) (h2 : p.2.1.length ≤ 1000) (h3 : ∀ c ∈ p.1, rngC c) (h4 : ∀ r ∈ p.2.1, rngR r) (hk : 1010 < k) : ∃ b, plan_Right k p = some b ∧ (b = true ↔ RightP p) := by
  unfold plan_Right
  simp only [r1_spec p.1 p k (by omega) (by omega), r2_spec p.2.1 p k (by omega) (by omega), Right_spec p.1 k (by omega) h3 (by omega), RightQ_spec p.2.1 k (by omega) h4 (by omega), Option.bind_some]
  unfold RightP
  by_cases g1 : p.2.2.1 < 0
  · rw [decide_eq_true g1]; exact ⟨false, rfl, fun h => (by cases h), fun h => (by omega)⟩
  by_cases g2 : 2147483647 < p.2.2.1
  · rw [decide_eq_false g1, decide_eq_true g2]; exact ⟨false, rfl, fun h => (by cases h), fun h => (by omega)⟩
  by_cases g3 : p.2.2.2 < 0
  · rw [decide_eq_false g1, decide_eq_false g2, decide_eq_true g3]; exact ⟨false, rfl, fun h => (by cases h), fun h => (by omega)⟩
  by_cases g4 : 1099511627776 < p.2.2.2
  · rw [decide_eq_false g1, decide_eq_false g2, decide_eq_false g3, decide_eq_true g4]; exact ⟨false, rfl, fun h => (by cases h), fun h => (by omega)⟩
  rw [decide_eq_false g1, decide_eq_false g2, decide_eq_false g3, decide_eq_false g4]
  simp only [cond_false]
  cases g5 : p.1.any (fun c => decide (c.2.2.2.2.1 ≤ p.2.2.1)) with
  | true =>
    refine ⟨false, rfl, fun h => (by cases h), fun h => ?_⟩
    obtain ⟨c, hc, hp⟩ := List.any_eq_true.1 g5
    have := h.2.2.1 c hc
    simp only [decide_eq_true_eq] at hp
    omega
  | false =>
    have g5' : ∀ c ∈ p.1, p.2.2.1 < c.2.2.2.2.1 := fun c hc => by
      have := List.any_eq_false.1 g5 c hc
      simp only [decide_eq_true_eq] at this
      omega
    cases g6 : p.2.1.any (fun c => decide (c.2.2.2.1 ≤ p.2.2.1)) with
    | true =>
      refine ⟨false, rfl, fun h => (by cases h), fun h => ?_⟩
      obtain ⟨c, hc, hp⟩ := List.any_eq_true.1 g6
      have := h.2.2.2.1 c hc
      simp only [decide_eq_true_eq] at hp
      omega
    | false =>
      have g6' : ∀ c ∈ p.2.1, p.2.2.1 < c.2.2.2.1 := fun c hc => by
        have := List.any_eq_false.1 g6 c hc
        simp only [decide_eq_true_eq] at this
        omega
      cases g7 : rightB p.1 with
      | false =>
        refine ⟨false, rfl, fun h => (by cases h), fun h => ?_⟩
        rw [rightB_iff.2 h.2.2.2.2.1] at g7; cases g7
      | true =>
        cases g8 : rightQ p.2.1 with
        | false =>
          refine ⟨false, rfl, fun h => (by cases h), fun h => ?_⟩
          rw [rightQ_iff.2 h.2.2.2.2.2] at g8; cases g8
        | true => exact ⟨true, rfl, fun _ => ⟨by omega, by omega, g5', g6', rightB_iff.1 g7, rightQ_iff.1 g8⟩, fun _ => rfl⟩
theorem RightR.rng {l : List T35} (h : RightR l) : ∀ c ∈ l, rngR c := fun c hc => by
  have := h.1 c hc
  unfold ranB spanB at this
  simp only [Bool.and_eq_true, decide_eq_true_eq] at this
  unfold rngR
  omega
theorem plan_Right_true {p : T25} {k : Nat} (h : RightP p) (h1 : p.1.length ≤ 1000) (h2 : p.2.1.length ≤ 1000) (hk : 1010 < k) : plan_Right k p = some true := by
  obtain ⟨b, e, hb⟩ := plan_Right_spec p k h1 h2 h.2.2.2.2.1.1.rng h.2.2.2.2.2.1.rng hk
  rw [e, hb.2 h]
theorem Copy_spec (p : T25) (k : Nat) (h1 : p.1.length ≤ 1000000000) (h2 : p.2.1.length ≤ 1000000000) : plan_Copy k p = some p := by
  unfold plan_Copy
  simp only [Clone_spec p.1 k h1, CloneR_spec p.2.1 k h2, Option.bind_some]
theorem planSame_refl (p : T25) (k : Nat) (h1 : p.1.length ≤ 1000) (h2 : p.2.1.length ≤ 1000) (hk : 1010 < k) : plan_Same k (p, p) = some true := by
  unfold plan_Same
  simp only [Same_spec p.1 p.1 k (by omega) (by omega), SameR_spec p.2.1 p.2.1 k (by omega) (by omega), Option.bind_some, decide_true, cond_true]
theorem past_spec (k : Nat) (d : T37) (now : Int) : plan_past k (d, now) = some (decide (d.1 = 1) && decide (max (dC d).2.2.2.2.1 (dR d).2.2.2.1 ≤ now)) := by
  unfold plan_past dC dR
  have hx : ∀ x y : Int, mx x y = max x y := by intro x y; unfold mx; omega
  simp only [hx]
  cases decide (d.1 = 1) <;> cases decide (max d.2.2.2.2.2.2.1 d.2.2.2.2.2.2.2.2.2.2.2.1 ≤ now) <;> rfl
def nextV (v : Int) : Int := min (v + 1) 1099511627776
theorem mn_next {v : Int} (h0 : 0 ≤ v) (h1 : v ≤ 1099511627776) : mn (w64 (v + 1)) 1099511627776 = nextV v := by
  rw [w64_id (by omega) (by omega)]
  unfold mn nextV
  omega
/-- What Apply does to a plan that is right. -/
theorem Apply_cases {p : T25} (h : RightP p) (h1 : p.1.length ≤ 1000) (h2 : p.2.1.length ≤ 1000) (d : T37) (hd : rngD d) (k : Nat) (hk : 1010 < k) :
    (∃ e, e ≠ 0 ∧ plan_Apply k (p, d) = some (p, e)) ∨ ∃ q, plan_Apply k (p, d) = some (q, 0) ∧ RightP q ∧ q.2.2.1 = p.2.2.1 ∧ q.2.2.2 = nextV p.2.2.2 ∧ q.1.length ≤ p.1.length + 1 ∧ q.2.1.length ≤ p.2.1.length + 1 := by
  obtain ⟨hc1, hv, hcl, hrl, hRT, hRR⟩ := h
  have hv1 := mn_next hv.1 hv.2
  have hnv : 0 ≤ nextV p.2.2.2 ∧ nextV p.2.2.2 ≤ 1099511627776 := by unfold nextV; omega
  unfold plan_Apply
  simp only [Copy_spec p k (by omega) (by omega), past_spec, Option.bind_some, hv1]
  obtain ⟨b, hb⟩ := direct_Right_some k d hd
  simp only [hb, Option.bind_some]
  cases b with
  | false => exact .inl ⟨1, by decide, rfl⟩
  | true =>
    simp only [cond_true]
    cases hp : decide (d.1 = 1) && decide (max (dC d).2.2.2.2.1 (dR d).2.2.2.1 ≤ p.2.2.1) with
    | true => exact .inl ⟨7, by decide, rfl⟩
    | false =>
      simp only [cond_false]
      have eC : (d.2.2.1, d.2.2.2.1, d.2.2.2.2.1, d.2.2.2.2.2.1, d.2.2.2.2.2.2.1, d.2.2.2.2.2.2.2.1) = dC d := rfl
      have eR : d.2.2.2.2.2.2.2.2 = dR d := rfl
      simp only [eC, eR]
      by_cases c11 : d.1 = 1 ∧ d.2.1 = 1
      · have e1 : (d.1 == 1 && d.2.1 == 1) = true := by simp [c11]
        rw [direct_add1 k d hd c11.1 c11.2] at hb
        have hb := Option.some.inj hb
        simp only [Bool.and_eq_true, decide_eq_true_eq] at hb
        rw [c11.1, hb.1] at hp
        simp only [decide_true, Bool.true_and, decide_eq_false_iff_not] at hp
        simp only [e1, cond_true]
        rcases Add_cases hRT.1 (by omega) (dC d) hd.1 k (by omega) with ⟨e, he, ha, _⟩ | ⟨r, ha, hR, _, _⟩
        · refine .inl ⟨e, he, ?_⟩
          simp [ha, he]
        · refine .inr ⟨(insAt p.1 r (dC d), p.2.1, p.2.2.1, nextV p.2.2.2), ?_, ⟨hc1, hnv, ?_, hrl, ⟨hR, ?_⟩, hRR⟩, rfl, rfl, ?_, Nat.le_succ _⟩
          · simp [ha]
          · intro c hc
            rcases ins_mem.1 hc with rfl | hc
            · show p.2.2.1 < (dC d).2.2.2.2.1
              omega
            · exact hcl c hc
          · show (insAt p.1 r (dC d)).length ≤ 4096
            rw [ins_len]; omega
          · show (insAt p.1 r (dC d)).length ≤ _
            rw [ins_len]
            exact Nat.le_refl _
      have e1 : (d.1 == 1 && d.2.1 == 1) = false := by simpa using c11
      simp only [e1, cond_false]
      by_cases c21 : d.1 = 2 ∧ d.2.1 = 1
      · have e2 : (d.1 == 2 && d.2.1 == 1) = true := by simp [c21]
        simp only [e2, cond_true, contacts_Delete_spec p.1 d.2.2.1 k (by omega) (by omega), Option.bind_some]
        by_cases hl : (p.1.filter (keepC d.2.2.1)).length = p.1.length
        · refine .inl ⟨6, by decide, ?_⟩
          rw [if_pos hl]; rfl
        · rw [if_neg hl]
          have := List.length_filter_le (keepC d.2.2.1) p.1
          exact .inr ⟨(p.1.filter (keepC d.2.2.1), p.2.1, p.2.2.1, nextV p.2.2.2), rfl, ⟨hc1, hnv, fun c hc => hcl c (List.mem_filter.1 hc).1, hrl, ⟨hRT.1.filter _, Nat.le_trans this (by omega)⟩, hRR⟩, rfl, rfl, Nat.le_trans this (Nat.le_succ _), Nat.le_succ _⟩
      have e2 : (d.1 == 2 && d.2.1 == 1) = false := by simpa using c21
      simp only [e2, cond_false]
      by_cases c31 : d.1 = 3 ∧ d.2.1 = 1
      · have e3 : (d.1 == 3 && d.2.1 == 1) = true := by simp [c31]
        simp only [e3, cond_true, contacts_Change_spec p.1 d.2.2.1 d.2.2.2.2.2.2.2.1 k (by omega) (by omega), Option.bind_some]
        rcases Change_cases hRT.1 d.2.2.1 d.2.2.2.2.2.2.2.1 with ⟨e, he, ha⟩ | ⟨j, hj, _, ha, hR⟩
        · refine .inl ⟨e, he, ?_⟩
          simp [ha, he]
        · refine .inr ⟨(p.1.set j (rated p.1[j] d.2.2.2.2.2.2.2.1), p.2.1, p.2.2.1, nextV p.2.2.2), by simp [ha], ⟨hc1, hnv, ?_, hrl, ⟨hR, by simp only [List.length_set]; omega⟩, hRR⟩, rfl, rfl, by simp only [List.length_set]; omega, Nat.le_succ _⟩
          intro c hc
          rcases List.mem_or_eq_of_mem_set hc with hm | rfl
          · exact hcl c hm
          · exact hcl p.1[j] (List.getElem_mem hj)
      have e3 : (d.1 == 3 && d.2.1 == 1) = false := by simpa using c31
      simp only [e3, cond_false]
      by_cases c12 : d.1 = 1 ∧ d.2.1 = 2
      · have e4 : (d.1 == 1 && d.2.1 == 2) = true := by simp [c12]
        rw [direct_add2 k d hd c12.1 c12.2] at hb
        have hb := Option.some.inj hb
        simp only [Bool.and_eq_true, decide_eq_true_eq] at hb
        rw [c12.1, hb.1] at hp
        simp only [decide_true, Bool.true_and, decide_eq_false_iff_not] at hp
        simp only [e4, cond_true]
        rcases AddR_cases hRR.1 (by omega) (dR d) hd.2 k (by omega) with ⟨e, he, ha⟩ | ⟨r, _, ha, hR, _, _⟩
        · refine .inl ⟨e, he, ?_⟩
          simp [ha, he]
        · refine .inr ⟨(p.1, insR p.2.1 r (dR d), p.2.2.1, nextV p.2.2.2), ?_, ⟨hc1, hnv, hcl, ?_, hRT, hR, ?_⟩, rfl, rfl, Nat.le_succ _, ?_⟩
          · simp [ha]
          · intro c hc
            rcases insR_mem.1 hc with rfl | hc
            · show p.2.2.1 < (dR d).2.2.2.1
              omega
            · exact hrl c hc
          · show (insR p.2.1 r (dR d)).length ≤ 4096
            rw [insR_len]; omega
          · show (insR p.2.1 r (dR d)).length ≤ _
            rw [insR_len]
            exact Nat.le_refl _
      have e4 : (d.1 == 1 && d.2.1 == 2) = false := by simpa using c12
      simp only [e4, cond_false]
      by_cases c22 : d.1 = 2 ∧ d.2.1 = 2
      · have e5 : (d.1 == 2 && d.2.1 == 2) = true := by simp [c22]
        simp only [e5, cond_true]
        rcases DeleteR_cases hRR.1 (by omega) (dR d) k (by omega) with ⟨e, he, ha⟩ | ⟨l', ha, hR, hlen, hm⟩
        · refine .inl ⟨e, he, ?_⟩
          simp [ha, he]
        · exact .inr ⟨(p.1, l', p.2.2.1, nextV p.2.2.2), by simp [ha], ⟨hc1, hnv, hcl, fun c hc => hrl c (hm c hc), hRT, hR, by show l'.length ≤ 4096; omega⟩, rfl, rfl, Nat.le_succ _, by show l'.length ≤ _; omega⟩
      have e5 : (d.1 == 2 && d.2.1 == 2) = false := by simpa using c22
      simp only [e5, cond_false]
      rcases ChangeR_cases hRR.1 (by omega) (dR d) k (by omega) with ⟨e, he, ha⟩ | ⟨j, hj, ha, hR⟩
      · refine .inl ⟨e, he, ?_⟩
        simp [ha, he]
      · refine .inr ⟨(p.1, p.2.1.set j (longR p.2.1[j] (dR d).2.2.2.2), p.2.2.1, nextV p.2.2.2), by simp [ha], ⟨hc1, hnv, hcl, ?_, hRT, hR, by simp only [List.length_set]; omega⟩, rfl, rfl, Nat.le_succ _, by simp only [List.length_set]; omega⟩
        intro c hc
        rcases List.mem_or_eq_of_mem_set hc with hm | rfl
        · exact hrl c hm
        · exact hrl p.2.1[j] (List.getElem_mem hj)
/-! ### time goes on -/
def advV (p : T25) (now : Int) : Int := if p.2.2.1 < now then nextV p.2.2.2 else p.2.2.2
def advP (p : T25) (now : Int) : T25 := (leftC now p.1, leftR now p.2.1, now, advV p now)
theorem Advance_cases {p : T25} (h : RightP p) (h1 : p.1.length ≤ 1000) (h2 : p.2.1.length ≤ 1000) (now : Int) (k : Nat) (hk : 1010 < k) :
    plan_Advance k (p, now) = some (if now < p.2.2.1 ∨ 2147483647 < now then (p, [], 7) else (advP p now, sorted (goneC now p.1), 0)) := by
  obtain ⟨hc1, hv, _⟩ := h
  unfold plan_Advance advP advV
  simp only [Copy_spec p k (by omega) (by omega), contacts_Expire_spec p.1 now k (by omega) (by omega), ExpireR_spec p.2.1 now k (by omega) (by omega), Option.bind_some, mn_next hv.1 hv.2]
  by_cases g1 : now < p.2.2.1
  · rw [decide_eq_true g1, if_pos (.inl g1)]; rfl
  by_cases g2 : 2147483647 < now
  · rw [decide_eq_false g1, decide_eq_true g2, if_pos (.inr g2)]; rfl
  rw [decide_eq_false g1, decide_eq_false g2, if_neg (by omega)]
  by_cases g3 : p.2.2.1 < now
  · rw [decide_eq_true g3, if_pos g3]; rfl
  · rw [decide_eq_false g3, if_neg g3]; rfl
theorem advP_right {p : T25} (h : RightP p) {now : Int} (h0 : p.2.2.1 ≤ now) (h1 : now ≤ 2147483647) : RightP (advP p now) := by
  obtain ⟨hc1, hv, hcl, hrl, hRT, hRR⟩ := h
  refine ⟨⟨by show 0 ≤ now; omega, h1⟩, ?_, fun c hc => ?_, fun c hc => ?_, ⟨hRT.1.filter _, Nat.le_trans (leftC_len now p.1) hRT.2⟩, hRR.1.filter _, Nat.le_trans (leftR_len now p.2.1) hRR.2⟩
  · show 0 ≤ advV p now ∧ advV p now ≤ 1099511627776
    unfold advV nextV
    split <;> omega
  · have := (List.mem_filter.1 hc).2
    simp only [decide_eq_true_eq] at this
    exact this
  · have := (List.mem_filter.1 hc).2
    simp only [decide_eq_true_eq] at this
    exact this
theorem advP_left {p : T25} (now : Int) : (advP p now).1 = leftC now p.1 ∧ (advP p now).2.1 = leftR now p.2.1 ∧ (advP p now).2.2.1 = now := ⟨rfl, rfl, rfl⟩
theorem small8 (k : Nat) : feluccalaw08_small k () = some true := rfl
theorem Few_spec (k : Nat) (p : T25) : feluccalaw08_Few k p = some (decide (p.1.length ≤ 50 ∧ p.2.1.length ≤ 50)) := by
  unfold feluccalaw08_Few
  simp only [len_nat]
  by_cases g1 : p.1.length ≤ 50
  · rw [decide_eq_true (show (p.1.length : Int) ≤ 50 by omega)]
    by_cases g2 : p.2.1.length ≤ 50
    · rw [decide_eq_true (show (p.2.1.length : Int) ≤ 50 by omega), decide_eq_true ⟨g1, g2⟩]; rfl
    · rw [decide_eq_false (show ¬ (p.2.1.length : Int) ≤ 50 by omega), decide_eq_false (show ¬ (p.1.length ≤ 50 ∧ p.2.1.length ≤ 50) from fun h => g2 h.2)]; rfl
  · rw [decide_eq_false (show ¬ (p.1.length : Int) ≤ 50 by omega), decide_eq_false (show ¬ (p.1.length ≤ 50 ∧ p.2.1.length ≤ 50) from fun h => g1 h.1)]; rfl
end Go.Proofs.YtggikacbelogcaaGreat.Ex
