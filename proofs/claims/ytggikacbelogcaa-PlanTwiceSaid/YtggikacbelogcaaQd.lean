/- The statements on plans, in plain words: time, what is right, all or nothing. -/
import Derived.Test.YtggikacbelogcaaQc
namespace Go.Proofs.Ytggikacbelogcaa.Ex
open Go
set_option linter.unusedVariables false
set_option linter.unusedSimpArgs false
theorem okv_1 {p : T52} (h : okvT kT52 p) : SK.okv (.row kT28) p.1 := by
  simp only [okvT] at h
  exact h.1
theorem okv_2 {p : T52} (h : okvT kT52 p) : SK.okv (.row kT56) p.2.1 := by
  simp only [okvT] at h
  exact h.2.1
theorem leftR_step {now : Int} {l : List T56} {i : Nat} (d : T56) (h : i < l.length) : leftR now (l.drop i) = (bif decide (now < (l.getD i d).2.2.2.1) then [l.getD i d] else []) ++ leftR now (l.drop (i + 1)) := by
  unfold leftR
  rw [getD_drop (d := d) h, List.filter_cons]
  cases decide (now < (l.getD i d).2.2.2.1) <;> simp
theorem adv_ok {p : T52} (h : RightP p) (h1 : p.1.length ≤ 1000) (h2 : p.2.1.length ≤ 1000) (now : Int) (k : Nat) (hk : 1010 < k) (ha : p.2.2.1 ≤ now) (hb : now ≤ 2147483647) :
    plan_Advance k (p, now) = some (advP p now, sorted (goneC now p.1), 0) := by
  rw [Advance_cases h h1 h2 now k hk, if_neg (by omega)]
theorem PlanSkips_pure (p : T52) (g1 : ∀ c ∈ p.1, okvT kT28 c) (g2 : ∀ r ∈ p.2.1, okvT kT56 r) (now later : Int) : ∃ k, feluccalaw08_PlanSkips k (p, now, later) = some true := by
  refine ⟨1200, ?_⟩
  unfold feluccalaw08_PlanSkips
  refine bind_s (small8 _) (cond_t rfl (bind_s (Few_spec _ p) ?_))
  by_cases hf : p.1.length ≤ 50 ∧ p.2.1.length ≤ 50
  · refine cond_t (decide_eq_true hf) ?_
    obtain ⟨b, hb, hR⟩ := plan_Right_spec p 1200 (by omega) (by omega) (fun c hc => rng_of (g1 c hc)) (fun c hc => rngR_of (g2 c hc)) (by omega)
    refine bind_s hb ?_
    cases b with
    | false => rfl
    | true =>
      have hR := hR.1 rfl
      refine cond_t rfl ?_
      by_cases a1 : now < p.2.2.1
      · exact cond_t (decide_eq_true a1) rfl
      refine cond_f (decide_eq_false a1) ?_
      by_cases a2 : later < now
      · exact cond_t (decide_eq_true a2) rfl
      refine cond_f (decide_eq_false a2) ?_
      by_cases a3 : 2147483647 < later
      · exact cond_t (decide_eq_true a3) rfl
      refine cond_f (decide_eq_false a3) ?_
      have l1 := leftC_len now p.1
      have l2 := leftR_len now p.2.1
      have l3 := leftC_len later (leftC now p.1)
      have l4 := leftR_len later (leftR now p.2.1)
      refine bind_s (adv_ok hR (by omega) (by omega) now 1200 (by omega) (by omega) (by omega)) ?_
      refine bind_s (adv_ok (advP_right hR (by omega) (by omega)) (by show (leftC now p.1).length ≤ 1000; omega) (by show (leftR now p.2.1).length ≤ 1000; omega) later 1200 (by omega) (by show now ≤ later; omega) (by omega)) ?_
      refine bind_s (adv_ok hR (by omega) (by omega) later 1200 (by omega) (by omega) (by omega)) ?_
      refine cond_t rfl (cond_t rfl (cond_t rfl ?_))
      refine bind_s (Same_spec (leftC later (leftC now p.1)) (leftC later p.1) 1200 (by omega) (by omega)) ?_
      rw [left_left (by omega), decide_eq_true rfl]
      refine cond_t rfl ?_
      refine bind_s (SameR_spec (leftR later (leftR now p.2.1)) (leftR later p.2.1) 1200 (by omega) (by omega)) ?_
      rw [leftR_left (by omega), decide_eq_true rfl]
      refine cond_t rfl (cond_t (decide_eq_true rfl) (cond_t (decide_eq_true ?_) rfl))
      show w64 (Int.ofNat (sorted (goneC now p.1)).length + Int.ofNat (sorted (goneC later (leftC now p.1))).length) = Int.ofNat (sorted (goneC later p.1)).length
      simp only [sorted_len, len_nat]
      have q1 := gone_len now p.1
      have q2 := gone_len later (leftC now p.1)
      have q3 := gone_len later p.1
      rw [left_left (by omega)] at q2
      rw [w64_id (by omega) (by omega)]
      omega
  · exact cond_f (decide_eq_false hf) rfl
/-! ### what is over -/
theorem find_left {l : List T28} (h : RightT l) {c : T28} (hc : c ∈ l) (now : Int) : findC (leftC now l) c.1 = (if now < c.2.2.2.2.1 then (c, true) else (z28, false)) := by
  split
  · rename_i h1
    exact findC_mem (h.filter _).ids (List.mem_filter.2 ⟨hc, decide_eq_true h1⟩)
  · rename_i h1
    refine findC_none fun x hx e => ?_
    obtain ⟨hx, h2⟩ := List.mem_filter.1 hx
    have e1 := findC_mem h.ids hx
    have e2 := findC_mem h.ids hc
    rw [e, e2] at e1
    have : c = x := (Prod.mk.injEq .. ▸ e1 : c = x ∧ _).1
    subst this
    simp only [decide_eq_true_eq] at h2
    exact h1 h2
theorem Ends_L0 (p q : T52) (now : Int) (hR : RightT p.1) (hq : q.1 = leftC now p.1) (hl : p.1.length ≤ 50) : ∀ (n i k : Nat), p.1.length - i = n → n + 1010 < k → i ≤ p.1.length → feluccalaw08_PlanEnds_L0 k (now, p, true, q, (i : Int)) = some (.inl (now, p, true, q))
  | 0, i, k + 1, h, hk, hi => by
    simp only [feluccalaw08_PlanEnds_L0]
    exact cond_f (by rw [i_lt, decide_eq_false (by omega)]) rfl
  | n + 1, i, k + 1, h, hk, _ => by
    have hi : i < p.1.length := by omega
    have t1 : decide ((i : Int) < Int.ofNat p.1.length) = true := by rw [i_lt, decide_eq_true hi]
    have t2 : decide (0 ≤ (i : Int)) = true := decide_eq_true (Int.natCast_nonneg i)
    have ih := Ends_L0 p q now hR hq hl n (i + 1) k (by omega) (by omega) (by omega)
    have hm : p.1.getD i z28 ∈ p.1 := by rw [getD_get hi]; exact List.getElem_mem hi
    have hf := find_left hR hm now
    have l1 := leftC_len now p.1
    have hfind := contacts_Find_spec q.1 (p.1.getD i z28).1 k (by rw [hq]; omega) (by rw [hq]; omega)
    rw [hq, hf] at hfind
    simp only [feluccalaw08_PlanEnds_L0, t1, t2, Int.toNat_natCast, cond_true, w64_succ (by omega : i < 4611686018427387904), ih, hq]
    refine bind_s hfind ?_
    by_cases e : now < (p.1.getD i z28).2.2.2.2.1
    · rw [if_pos e]
      refine cond_t rfl (cond_t (decide_eq_true e) (cond_f ?_ rfl))
      rw [eq6, decide_eq_true rfl]; rfl
    · rw [if_neg e]
      exact cond_f rfl (cond_f (decide_eq_false e) rfl)
theorem Ends_L1 (p q : T52) (now : Int) (hl : p.2.1.length ≤ 50) : ∀ (n i k m : Nat), p.2.1.length - i = n → n < k → i ≤ p.2.1.length → m ≤ i → feluccalaw08_PlanEnds_L1 k (now, p, true, q, (m : Int), (i : Int)) = some (.inl (now, true, q, ((m + (leftR now (p.2.1.drop i)).length : Nat) : Int)))
  | 0, i, k + 1, m, h, hk, hi, hm => by
    rw [List.drop_eq_nil_of_le (by omega)]
    simp only [feluccalaw08_PlanEnds_L1]
    exact cond_f (by rw [i_lt, decide_eq_false (by omega)]) rfl
  | n + 1, i, k + 1, m, h, hk, _, hm => by
    have hi : i < p.2.1.length := by omega
    have t1 : decide ((i : Int) < Int.ofNat p.2.1.length) = true := by rw [i_lt, decide_eq_true hi]
    have t2 : decide (0 ≤ (i : Int)) = true := decide_eq_true (Int.natCast_nonneg i)
    have ih := fun m hm => Ends_L1 p q now hl n (i + 1) k m (by omega) (by omega) (by omega) hm
    simp only [feluccalaw08_PlanEnds_L1, t1, t2, Int.toNat_natCast, cond_true, w64_succ (by omega : i < 4611686018427387904), w64_succ (by omega : m < 4611686018427387904), ih (m + 1) (by omega), ih m (by omega), leftR_step z56 hi]
    by_cases e : now < (p.2.1.getD i z56).2.2.2.1
    · refine cond_t (decide_eq_true e) ?_
      rw [decide_eq_true e]
      simp only [cond_true, List.length_append, List.length_cons, List.length_nil]
      have e2 : ∀ q, m + (0 + 1 + q) = m + 1 + q := fun q => by omega
      rw [e2]
    · refine cond_f (decide_eq_false e) ?_
      rw [decide_eq_false e]
      rfl
theorem PlanEnds_pure (p : T52) (g1 : ∀ c ∈ p.1, okvT kT28 c) (g2 : ∀ r ∈ p.2.1, okvT kT56 r) (now : Int) : ∃ k, feluccalaw08_PlanEnds k (p, now) = some true := by
  refine ⟨1200, ?_⟩
  unfold feluccalaw08_PlanEnds
  refine bind_s (small8 _) (cond_t rfl (bind_s (Few_spec _ p) ?_))
  by_cases hf : p.1.length ≤ 50 ∧ p.2.1.length ≤ 50
  · refine cond_t (decide_eq_true hf) ?_
    obtain ⟨b, hb, hR⟩ := plan_Right_spec p 1200 (by omega) (by omega) (fun c hc => rng_of (g1 c hc)) (fun c hc => rngR_of (g2 c hc)) (by omega)
    refine bind_s hb ?_
    cases b with
    | false => rfl
    | true =>
      have hR := hR.1 rfl
      refine cond_t rfl (bind_s (Advance_cases hR (by omega) (by omega) now 1200 (by omega)) ?_)
      by_cases a1 : now < p.2.2.1
      · rw [if_pos (.inl a1)]
        refine cond_t rfl (cond_t rfl (bind_s (planSame_refl p 1200 (by omega) (by omega) (by omega)) (cond_t rfl (cond_t rfl (cond_t (decide_eq_true a1) rfl)))))
      by_cases a2 : 2147483647 < now
      · rw [if_pos (.inr a2)]
        refine cond_t rfl (cond_t rfl (bind_s (planSame_refl p 1200 (by omega) (by omega) (by omega)) (cond_t rfl (cond_t rfl (cond_f (decide_eq_false a1) (cond_t (decide_eq_true a2) rfl))))))
      rw [if_neg (by omega)]
      refine cond_f rfl (bind_s (Ends_L0 p (advP p now) now hR.2.2.2.2.1.1 rfl (by omega) p.1.length 0 1200 (by omega) (by omega) (by omega)) ?_)
      refine bind_s (Ends_L1 p (advP p now) now (by omega) p.2.1.length 0 1200 0 (by omega) (by omega) (by omega) (by omega)) ?_
      refine cond_t rfl (cond_t (decide_eq_true ?_) (cond_t (decide_eq_true rfl) rfl))
      show ((0 + (leftR now (p.2.1.drop 0)).length : Nat) : Int) = Int.ofNat (leftR now p.2.1).length
      rw [List.drop_zero, Nat.zero_add]
      rfl
  · exact cond_f (decide_eq_false hf) rfl
/-! ### all or nothing -/
theorem Whole_L0 (p : T52) (t4 : T52) (hp1 : p.1.length ≤ 50) (hp2 : p.2.1.length ≤ 50) (l : List T58) (hl : l.length ≤ 50) (hd : ∀ d ∈ l, rngD d) : ∀ (n i k : Nat) (x : T52), l.length - i = n → n + 1010 < k → i ≤ l.length → RightP x → x.1.length ≤ 50 + i → x.2.1.length ≤ 50 + i →
    (∃ q, plan_All_L0 k (l, p, t4, x, l, Int.ofNat l.length, (i : Int)) = some (.inl (l, t4, q)) ∧ q.1.length ≤ 100 ∧ q.2.1.length ≤ 100 ∧ ∀ Q m e, feluccalaw08_PlanWhole_L0 k (l, p, true, Q, m, e, x, (i : Int)) = some (.inl (l, true, Q, m, e, q))) ∨
    (∃ j e, plan_All_L0 k (l, p, t4, x, l, Int.ofNat l.length, (i : Int)) = some (.inr (p, j, e)) ∧ feluccalaw08_PlanWhole_L0 k (l, p, true, p, j, e, x, (i : Int)) = some (.inr true))
  | 0, i, k + 1, x, h, hk, hi, hx, x1, x2 => by
    have t1 : decide ((i : Int) < Int.ofNat l.length) = false := by rw [i_lt, decide_eq_false (by omega)]
    refine .inl ⟨x, ?_, by omega, by omega, fun Q m e => ?_⟩
    · simp only [plan_All_L0, t1]; rfl
    · simp only [feluccalaw08_PlanWhole_L0, t1]; rfl
  | n + 1, i, k + 1, x, h, hk, _, hx, x1, x2 => by
    have hi : i < l.length := by omega
    have t1 : decide ((i : Int) < Int.ofNat l.length) = true := by rw [i_lt, decide_eq_true hi]
    have t2 : decide (0 ≤ (i : Int)) = true := decide_eq_true (Int.natCast_nonneg i)
    obtain ⟨d, hdd⟩ : ∃ d : T58, d = l.getD i (0, 0, 0, 0, 0, 0, 0, 0, 0, 0, 0, 0, 0) := ⟨_, rfl⟩
    have hm : rngD d := hd d (by rw [hdd, List.getD_eq_getElem?_getD, List.getElem?_eq_getElem hi]; exact List.getElem_mem hi)
    rcases Apply_cases hx (by omega) (by omega) d hm k (by omega) with ⟨e, he, ha⟩ | ⟨q, ha, hq, _, _, q1, q2⟩
    · refine .inr ⟨(i : Int), e, ?_, ?_⟩
      · simp only [plan_All_L0, t1, t2, Int.toNat_natCast, cond_true, ← hdd]
        refine bind_s ha (cond_t (by simpa using he) (bind_s (Copy_spec p k (by omega) (by omega)) rfl))
      · simp only [feluccalaw08_PlanWhole_L0, t1, t2, Int.toNat_natCast, cond_true, ← hdd]
        refine bind_s ha (cond_t (by simpa using he) (cond_t (by simp) (cond_t (by simp) (bind_s (planSame_refl p k (by omega) (by omega) (by omega)) rfl))))
    · have w := w64_succ (by omega : i < 4611686018427387904)
      rcases Whole_L0 p t4 hp1 hp2 l hl hd n (i + 1) k q (by omega) (by omega) (by omega) hq (by omega) (by omega) with ⟨r, h1, r1, r2, h2⟩ | ⟨j, e, h1, h2⟩
      · refine .inl ⟨r, ?_, r1, r2, fun Q m e => ?_⟩
        · simp only [plan_All_L0, t1, t2, Int.toNat_natCast, cond_true, ← hdd, w]
          exact bind_s ha (cond_f rfl h1)
        · simp only [feluccalaw08_PlanWhole_L0, t1, t2, Int.toNat_natCast, cond_true, ← hdd, w]
          exact bind_s ha (cond_f rfl (h2 Q m e))
      · refine .inr ⟨j, e, ?_, ?_⟩
        · simp only [plan_All_L0, t1, t2, Int.toNat_natCast, cond_true, ← hdd, w]
          exact bind_s ha (cond_f rfl h1)
        · simp only [feluccalaw08_PlanWhole_L0, t1, t2, Int.toNat_natCast, cond_true, ← hdd, w]
          exact bind_s ha (cond_f rfl h2)
theorem PlanWhole_pure (p : T52) (g1 : ∀ c ∈ p.1, okvT kT28 c) (g2 : ∀ r ∈ p.2.1, okvT kT56 r) (l : List T58) (g3 : ∀ d ∈ l, okvT kT58 d) : ∃ k, feluccalaw08_PlanWhole k (p, l) = some true := by
  refine ⟨1200, ?_⟩
  unfold feluccalaw08_PlanWhole
  refine bind_s (small8 _) (cond_t rfl (bind_s (Few_spec _ p) ?_))
  by_cases hf : p.1.length ≤ 50 ∧ p.2.1.length ≤ 50
  · refine cond_t (decide_eq_true hf) ?_
    by_cases hl : 50 < Int.ofNat l.length
    · exact cond_t (decide_eq_true hl) rfl
    refine cond_f (decide_eq_false hl) ?_
    rw [len_nat] at hl
    obtain ⟨b, hb, hR⟩ := plan_Right_spec p 1200 (by omega) (by omega) (fun c hc => rng_of (g1 c hc)) (fun c hc => rngR_of (g2 c hc)) (by omega)
    refine bind_s hb ?_
    cases b with
    | false => rfl
    | true =>
      have hR := hR.1 rfl
      refine cond_t rfl ?_
      rcases Whole_L0 p ([], [], 0, 0) (by omega) (by omega) l (by omega) (fun d hd => rngD_of (g3 d hd)) l.length 0 1200 p (by omega) (by omega) (by omega) hR (by omega) (by omega) with ⟨q, h1, q1, q2, h2⟩ | ⟨j, e, h1, h2⟩
      · refine bind_s (v := (q, Int.ofNat l.length, 0)) ?_ ?_
        · unfold plan_All
          exact bind_s (Copy_spec p 1200 (by omega) (by omega)) (bind_s h1 rfl)
        · refine bind_s (h2 q (Int.ofNat l.length) 0) ?_
          refine cond_t rfl (cond_t (decide_eq_true rfl) (cond_t (decide_eq_true rfl) (bind_s (planSame_refl q 1200 (by omega) (by omega) (by omega)) rfl)))
      · refine bind_s (v := (p, j, e)) ?_ ?_
        · unfold plan_All
          exact bind_s (Copy_spec p 1200 (by omega) (by omega)) (bind_s h1 rfl)
        · exact bind_s h2 rfl
  · exact cond_f (decide_eq_false hf) rfl
/-! ### what is right stays right -/
def dA (x : T60) : T58 := (x.2.1, x.2.2.1, x.2.2.2.1, x.2.2.2.2.1, x.2.2.2.2.2.1, x.2.2.2.2.2.2.1, x.2.2.2.2.2.2.2.1, x.2.2.2.2.2.2.2.2.1, x.2.2.2.2.2.2.2.2.2.1, x.2.2.2.2.2.2.2.2.2.2.1, x.2.2.2.2.2.2.2.2.2.2.2.1, x.2.2.2.2.2.2.2.2.2.2.2.2.1, x.2.2.2.2.2.2.2.2.2.2.2.2.2.1)
theorem rngA {x : T60} (h : okvT kT60 x) : rngD (dA x) := by
  simp only [okvT, SK.okv, Lit.wf, Bool.and_eq_true, decide_eq_true_eq] at h
  unfold rngD rngC rngR dC dR dA
  have e1 : IntKind.i64.min = -9223372036854775808 := by decide
  have e2 : IntKind.i64.max = 9223372036854775807 := by decide
  simp only
  omega
theorem PlanRight_L0 (o : List T60) (ho : ∀ x ∈ o, okvT kT60 x) (hol : o.length ≤ 50) : ∀ (n i k : Nat) (A : T52), o.length - i = n → n + 1010 < k → i ≤ o.length → RightP A → A.1.length ≤ 50 + i → A.2.1.length ≤ 50 + i → feluccalaw08_PlanRight_L0 k (o, A, true, (i : Int)) = some (.inl true)
  | 0, i, k + 1, A, h, hk, hi, hA, x1, x2 => by
    simp only [feluccalaw08_PlanRight_L0]
    exact cond_f (by rw [i_lt, decide_eq_false (by omega)]) rfl
  | n + 1, i, k + 1, A, h, hk, _, hA, x1, x2 => by
    have hi : i < o.length := by omega
    have t1 : decide ((i : Int) < Int.ofNat o.length) = true := by rw [i_lt, decide_eq_true hi]
    have t2 : decide (0 ≤ (i : Int)) = true := decide_eq_true (Int.natCast_nonneg i)
    obtain ⟨x, hx⟩ : ∃ x : T60, x = o.getD i (0, 0, 0, 0, 0, 0, 0, 0, 0, 0, 0, 0, 0, 0, 0) := ⟨_, rfl⟩
    have hm : rngD (dA x) := rngA (ho x (by rw [hx, List.getD_eq_getElem?_getD, List.getElem?_eq_getElem hi]; exact List.getElem_mem hi))
    have w := w64_succ (by omega : i < 4611686018427387904)
    have ih := fun q hq y1 y2 => PlanRight_L0 o ho hol n (i + 1) k q (by omega) (by omega) (by omega) hq y1 y2
    have hv := hA.2.1
    simp only [feluccalaw08_PlanRight_L0, t1, t2, Int.toNat_natCast, cond_true, ← hx, w, mn_next hv.1 hv.2]
    have hRA := plan_Right_true hA (by omega) (by omega) (by omega : 1010 < k)
    have hSA := planSame_refl A k (by omega) (by omega) (by omega)
    by_cases h0 : x.1 = 0
    · refine cond_t (decide_eq_true h0) ?_
      rcases Apply_cases hA (by omega) (by omega) (dA x) hm k (by omega) with ⟨e, he, ha⟩ | ⟨q, ha, hq, qc, qv, q1, q2⟩
      · refine bind_s ha ?_
        dsimp only
        refine cond_f (by simp [h0]) (bind_s hRA (cond_t rfl (cond_t (by simp [he]) (bind_s hSA (cond_t rfl (cond_f (by simp) (cond_f (by simp [he]) ?_)))))))
        exact ih A hA (by omega) (by omega)
      · refine bind_s ha ?_
        dsimp only
        refine cond_f (by simp [h0]) (bind_s (plan_Right_true hq (by omega) (by omega) (by omega)) (cond_t rfl (cond_f (by simp) (cond_f (by simp [qc]) (cond_t (by simp) (cond_f (by simp [qv]) ?_))))))
        exact ih q hq (by omega) (by omega)
    · refine cond_f (decide_eq_false h0) ?_
      obtain ⟨N, hN⟩ : ∃ N, N = x.2.2.2.2.2.2.2.2.2.2.2.2.2.2 := ⟨_, rfl⟩
      simp only [← hN]
      have ha := Advance_cases hA (by omega) (by omega) N k (by omega)
      by_cases hc : N < A.2.2.1 ∨ 2147483647 < N
      · rw [if_pos hc] at ha
        refine bind_s ha ?_
        have e1 : w64 (Int.ofNat A.1.length + Int.ofNat ([] : List Int).length) = Int.ofNat A.1.length := by
          show w64 ((A.1.length : Int) + 0) = (A.1.length : Int)
          rw [w64_id (by omega) (by omega)]; omega
        dsimp only
        simp only [e1]
        have r1 := ih A hA (by omega) (by omega)
        repeat (first | exact r1 | refine bind_s hRA ?_ | refine bind_s hSA ?_ | (refine cond_t ?_ ?_; focus (simp [h0]; done)) | (refine cond_f ?_ ?_; focus (simp [h0]; done)) | (dsimp only))
      · rw [if_neg hc] at ha
        refine bind_s ha ?_
        have e1 : w64 (Int.ofNat (leftC N A.1).length + Int.ofNat (sorted (goneC N A.1)).length) = Int.ofNat A.1.length := by
          have := gone_len N A.1
          simp only [len_nat, sorted_len]
          rw [w64_id (by omega) (by omega)]; omega
        have hq := advP_right hA (by omega : A.2.2.1 ≤ N) (by omega)
        have l1 := leftC_len N A.1
        have l2 := leftR_len N A.2.1
        have hRq := plan_Right_true hq (by show (leftC N A.1).length ≤ 1000; omega) (by show (leftR N A.2.1).length ≤ 1000; omega) (by omega : 1010 < k)
        have r1 := ih (advP A N) hq (by show (leftC N A.1).length ≤ _; omega) (by show (leftR N A.2.1).length ≤ _; omega)
        have f1 : (advP A N).1 = leftC N A.1 := rfl
        have f2 : (advP A N).2.2.1 = N := rfl
        have f3 : (advP A N).2.2.2 = advV A N := rfl
        simp only [f1, f2, f3, e1]
        have hle : A.2.2.1 ≤ N := by omega
        by_cases he : N = A.2.2.1
        · have hv2 : advV A N = A.2.2.2 := by unfold advV; rw [if_neg (by omega)]
          repeat (first | exact r1 | refine bind_s hRq ?_ | (refine cond_t ?_ ?_; focus (simp [h0, he, hv2]; done)) | (refine cond_f ?_ ?_; focus (simp [h0, he, hv2]; done)) | (refine cond_f ?_ ?_; focus (simp [hv2]; done)) | (dsimp only))
        · have hv2 : advV A N = nextV A.2.2.2 := by unfold advV; rw [if_pos (by omega)]
          have hlt : ¬ N < A.2.2.1 := by omega
          repeat (first | exact r1 | refine bind_s hRq ?_ | (refine cond_t ?_ ?_; focus (simp [h0, he, hv2, hlt]; done)) | (refine cond_f ?_ ?_; focus (simp [h0, he, hv2, hlt, hle]; done)) | (dsimp only))
theorem PlanRight_pure (p : T52) (g1 : ∀ c ∈ p.1, okvT kT28 c) (g2 : ∀ r ∈ p.2.1, okvT kT56 r) (o : List T60) (g3 : ∀ x ∈ o, okvT kT60 x) : ∃ k, feluccalaw08_PlanRight k (p, o) = some true := by
  refine ⟨1200, ?_⟩
  unfold feluccalaw08_PlanRight
  refine bind_s (small8 _) (cond_t rfl (bind_s (Few_spec _ p) ?_))
  by_cases hf : p.1.length ≤ 50 ∧ p.2.1.length ≤ 50
  · refine cond_t (decide_eq_true hf) ?_
    by_cases hl : 50 < Int.ofNat o.length
    · exact cond_t (decide_eq_true hl) rfl
    refine cond_f (decide_eq_false hl) ?_
    rw [len_nat] at hl
    obtain ⟨b, hb, hR⟩ := plan_Right_spec p 1200 (by omega) (by omega) (fun c hc => rng_of (g1 c hc)) (fun c hc => rngR_of (g2 c hc)) (by omega)
    refine bind_s hb ?_
    cases b with
    | false => rfl
    | true =>
      have hR := hR.1 rfl
      refine cond_t rfl ?_
      exact bind_s (PlanRight_L0 o g3 (by omega) o.length 0 1200 p (by omega) (by omega) (by omega) hR (by omega) (by omega)) rfl
  · exact cond_f (decide_eq_false hf) rfl
end Go.Proofs.Ytggikacbelogcaa.Ex
