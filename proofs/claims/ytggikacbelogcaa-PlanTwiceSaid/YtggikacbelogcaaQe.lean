/- The statements on plans, in plain words: what is listed, what was added and deleted. -/
import Derived.Test.YtggikacbelogcaaQd
namespace Go.Proofs.Ytggikacbelogcaa.Ex
open Go
set_option linter.unusedVariables false
set_option linter.unusedSimpArgs false
theorem Apply_add1_eq (p : T52) (h1 : p.1.length ≤ 1000) (h2 : p.2.1.length ≤ 1000) (hc0 : 0 ≤ p.2.2.1) (hv : 0 ≤ p.2.2.2 ∧ p.2.2.2 ≤ 1099511627776) (d : T58) (hd : rngD d) (d1 : d.1 = 1) (d2 : d.2.1 = 1) (d3 : dR d = z56) (k : Nat) :
    plan_Apply k (p, d) = bif conB (dC d) then (bif decide ((dC d).2.2.2.2.1 ≤ p.2.2.1) then some (p, 7) else (contacts_Add k (p.1, dC d)).bind fun o => bif !decide (o.2 = 0) then some (p, o.2) else some ((o.1, p.2.1, p.2.2.1, nextV p.2.2.2), 0)) else some (p, 1) := by
  unfold plan_Apply
  simp only [Copy_spec p k (by omega) (by omega), past_spec, Option.bind_some, mn_next hv.1 hv.2, direct_add1 k d hd d1 d2]
  have e1 : (d.1 == 1 && d.2.1 == 1) = true := by simp [d1, d2]
  have e2 : (d.2.2.1, d.2.2.2.1, d.2.2.2.2.1, d.2.2.2.2.2.1, d.2.2.2.2.2.2.1, d.2.2.2.2.2.2.2.1) = dC d := rfl
  have e3 : (decide (d.1 = 1) && decide (max (dC d).2.2.2.2.1 (dR d).2.2.2.1 ≤ p.2.2.1)) = decide ((dC d).2.2.2.2.1 ≤ p.2.2.1) := by
    rw [d1, d3, decide_eq_true (rfl : (1 : Int) = 1), Bool.true_and, Bool.eq_iff_iff]
    simp only [decide_eq_true_eq]
    omega
  simp only [e1, e2, e3, cond_true]
  rw [d3, decide_eq_true (rfl : z56 = z56), Bool.true_and]
theorem Apply_add2_eq (p : T52) (h1 : p.1.length ≤ 1000) (h2 : p.2.1.length ≤ 1000) (hc0 : 0 ≤ p.2.2.1) (hv : 0 ≤ p.2.2.2 ∧ p.2.2.2 ≤ 1099511627776) (d : T58) (hd : rngD d) (d1 : d.1 = 1) (d2 : d.2.1 = 2) (d3 : dC d = z28) (k : Nat) :
    plan_Apply k (p, d) = bif ranB (dR d) then (bif decide ((dR d).2.2.2.1 ≤ p.2.2.1) then some (p, 7) else (ranges_Add k (p.2.1, dR d)).bind fun o => bif !decide (o.2 = 0) then some (p, o.2) else some ((p.1, o.1, p.2.2.1, nextV p.2.2.2), 0)) else some (p, 1) := by
  unfold plan_Apply
  simp only [Copy_spec p k (by omega) (by omega), past_spec, Option.bind_some, mn_next hv.1 hv.2, direct_add2 k d hd d1 d2]
  have e0 : (d.1 == 1 && d.2.1 == 1) = false := by simp [d1, d2]
  have e0a : (d.1 == 2 && d.2.1 == 1) = false := by simp [d1, d2]
  have e0b : (d.1 == 3 && d.2.1 == 1) = false := by simp [d1, d2]
  have e1 : (d.1 == 1 && d.2.1 == 2) = true := by simp [d1, d2]
  have e2 : d.2.2.2.2.2.2.2.2 = dR d := rfl
  have e3 : (decide (d.1 = 1) && decide (max (dC d).2.2.2.2.1 (dR d).2.2.2.1 ≤ p.2.2.1)) = decide ((dR d).2.2.2.1 ≤ p.2.2.1) := by
    rw [d1, d3, decide_eq_true (rfl : (1 : Int) = 1), Bool.true_and, Bool.eq_iff_iff]
    simp only [decide_eq_true_eq]
    omega
  simp only [e0, e0a, e0b, e1, e2, e3, cond_true, cond_false]
  rw [d3, decide_eq_true (rfl : z28 = z28), Bool.true_and]
/-! ### at the end -/
theorem AddC_end {l : List T28} {c : T28} (h : RightT (l ++ [c])) (hl : l.length ≤ 4000) (k : Nat) (hk : l.length + 6 < k) : contacts_Add k (l, c) = some (l ++ [c], 0) := by
  have hc := h.1 c (List.mem_append_right _ (List.mem_singleton.2 rfl))
  have hr := h.rng c (List.mem_append_right _ (List.mem_singleton.2 rfl))
  have hp := List.pairwise_append.1 h.2
  have hx : ∀ x ∈ l, RR x c := fun x hx => hp.2.2 x hx c (List.mem_singleton.2 rfl)
  have hR : RightT l := ⟨fun x hx => h.1 x (List.mem_append_left _ hx), hp.1⟩
  obtain ⟨r, r1, r2, r3, r4⟩ := contacts_Add_spec l c k (by omega) hr hR.sort hk
  have hrl : r = l.length := by
    rcases Nat.lt_or_ge r l.length with h1 | h1
    · have h2 := r3 r (Nat.le_refl _) h1
      rw [getD_get h1] at h2
      have h3 := (hx _ (List.getElem_mem h1)).1
      omega
    · omega
  rw [r4]
  unfold AddR
  rw [if_neg (by simp [hc]), if_neg (by omega), if_neg, if_neg]
  · rw [hrl]
    unfold insAt
    rw [List.take_length, List.drop_length]
  · intro ha
    obtain ⟨x, hm, hv⟩ := List.any_eq_true.1 ha
    rw [ov_iff (hR.1 x hm) hc] at hv
    have h4 := hx x hm
    have h5 : ¬ ovR x c = false := by simp [hv]
    rw [ovR_false] at h5
    have := h4.2.2
    omega
  · intro ha
    obtain ⟨x, hm, hv⟩ := List.any_eq_true.1 ha
    simp only [decide_eq_true_eq] at hv
    exact (hx x hm).2.1 hv
theorem AddR_end {l : List T56} {c : T56} (h : RightR (l ++ [c])) (hl : l.length ≤ 4000) (k : Nat) (hk : l.length + 6 < k) : ranges_Add k (l, c) = some (l ++ [c], 0) := by
  have hc := h.1 c (List.mem_append_right _ (List.mem_singleton.2 rfl))
  have hr := h.rng c (List.mem_append_right _ (List.mem_singleton.2 rfl))
  have hp := List.pairwise_append.1 h.2
  have hx : ∀ x ∈ l, RQ x c := fun x hx => hp.2.2 x hx c (List.mem_singleton.2 rfl)
  have hR : RightR l := ⟨fun x hx => h.1 x (List.mem_append_left _ hx), hp.1⟩
  obtain ⟨r, r1, r2, r3, r4⟩ := BSR_spec l c k (by omega) hR.sort hk
  have hrl : r = l.length := by
    rcases Nat.lt_or_ge r l.length with h1 | h1
    · have h2 := r3 r (Nat.le_refl _) h1
      rw [getR h1] at h2
      have h3 := (hx _ (List.getElem_mem h1)).1
      omega
    · omega
  have h4 : decide (4096 ≤ Int.ofNat l.length) = false := decide_eq_false (by have : Int.ofNat l.length = (l.length : Int) := rfl; omega)
  have ho : l.any (fun x => ovQ x c) = false := List.any_eq_false.2 fun x hm hv => by
    rw [ovQ_iff (hR.1 x hm) hc] at hv
    have h5 := (hx x hm).2
    unfold ovD at hv
    omega
  have hi : insR l r c = l ++ [c] := by
    rw [hrl]
    unfold insR
    rw [List.take_length, List.drop_length]
  unfold ranges_Add
  simp only [CloneR_spec l k (by omega), check_Range_spec k c hr, ovs_spec l c k (by omega) (by omega), r4, InsertR_one l c r k (by omega) r1, Option.bind_some, h4, hc, ho, cond_true, cond_false, hi]
  cases decide (r < l.length ∧ cmpR (l.getD r z56) c = 0) <;> rfl
def tR (r : T56) : T58 := (1, 2, 0, 0, 0, 0, 0, 0, r)
def tC (c : T28) : T58 := (1, 1, c.1, c.2.1, c.2.2.1, c.2.2.2.1, c.2.2.2.2.1, c.2.2.2.2.2, 0, 0, 0, 0, 0)
theorem rng_tC {c : T28} (h : rngC c) : rngD (tC c) := ⟨h, by unfold rngR dR tC; simp only; omega⟩
theorem rng_tR {r : T56} (h : rngR r) : rngD (tR r) := ⟨by unfold rngC dC tR; simp only; omega, h⟩
/-! ### what is listed -/
theorem List_L0 (p : T52) (rs : List T56) (hl : rs.length ≤ 1000) : ∀ (n i k : Nat) (l : List T58), rs.length - i = n → n < k → i ≤ rs.length → l.length ≤ i → plan_List_L0 k (p, l, rs, Int.ofNat rs.length, (i : Int)) = some (.inl (p, l ++ (rs.drop i).map tR))
  | 0, i, k + 1, l, h, hk, hi, hm => by
    rw [List.drop_eq_nil_of_le (by omega)]
    simp only [plan_List_L0]
    refine cond_f (by rw [i_lt, decide_eq_false (by omega)]) ?_
    simp
  | n + 1, i, k + 1, l, h, hk, _, hm => by
    have hi : i < rs.length := by omega
    have t1 : decide ((i : Int) < Int.ofNat rs.length) = true := by rw [i_lt, decide_eq_true hi]
    have t2 : decide (0 ≤ (i : Int)) = true := decide_eq_true (Int.natCast_nonneg i)
    obtain ⟨x, hx⟩ : ∃ x : T56, x = rs.getD i (0, 0, 0, 0, 0) := ⟨_, rfl⟩
    have ih := List_L0 p rs hl n (i + 1) k (l ++ [tR x]) (by omega) (by omega) (by omega) (by simp; omega)
    rw [getD_drop (d := (0, 0, 0, 0, 0)) hi, ← hx]
    simp only [plan_List_L0, t1, t2, Int.toNat_natCast, cond_true, w64_succ (by omega : i < 4611686018427387904), ← hx]
    refine cond_t (decide_eq_true (by simp only [List.length_cons, List.length_nil]; omega)) (ih.trans ?_)
    simp
theorem List_L1 (cs : List T28) (hl : cs.length ≤ 1000) : ∀ (n i k : Nat) (l : List T58), cs.length - i = n → n < k → i ≤ cs.length → l.length ≤ 1000 + i → plan_List_L1 k (l, cs, Int.ofNat cs.length, (i : Int)) = some (.inl (l ++ (cs.drop i).map tC))
  | 0, i, k + 1, l, h, hk, hi, hm => by
    rw [List.drop_eq_nil_of_le (by omega)]
    simp only [plan_List_L1]
    refine cond_f (by rw [i_lt, decide_eq_false (by omega)]) ?_
    simp
  | n + 1, i, k + 1, l, h, hk, _, hm => by
    have hi : i < cs.length := by omega
    have t1 : decide ((i : Int) < Int.ofNat cs.length) = true := by rw [i_lt, decide_eq_true hi]
    have t2 : decide (0 ≤ (i : Int)) = true := decide_eq_true (Int.natCast_nonneg i)
    obtain ⟨x, hx⟩ : ∃ x : T28, x = cs.getD i (0, 0, 0, 0, 0, 0) := ⟨_, rfl⟩
    have ih := List_L1 cs hl n (i + 1) k (l ++ [tC x]) (by omega) (by omega) (by omega) (by simp; omega)
    rw [getD_drop (d := (0, 0, 0, 0, 0, 0)) hi, ← hx]
    simp only [plan_List_L1, t1, t2, Int.toNat_natCast, cond_true, w64_succ (by omega : i < 4611686018427387904), ← hx]
    refine cond_t (decide_eq_true (by simp only [List.length_cons, List.length_nil]; omega)) (ih.trans ?_)
    simp
theorem List_spec (p : T52) (h1 : p.1.length ≤ 1000) (h2 : p.2.1.length ≤ 1000) (k : Nat) (hk : 1010 < k) : plan_List k p = some (p.2.1.map tR ++ p.1.map tC) := by
  unfold plan_List
  refine bind_s (List_L0 p p.2.1 h2 p.2.1.length 0 k [] (by omega) (by omega) (by omega) (by simp)) ?_
  refine bind_s (List_L1 p.1 h1 p.1.length 0 k _ (by omega) (by omega) (by omega) (by simp; omega)) ?_
  simp
theorem All_lists (p q t4 : T52) (h : RightP p) (h1 : p.1.length ≤ 50) (h2 : p.2.1.length ≤ 50) (L : List T58) (hL : L = p.2.1.map tR ++ p.1.map tC) : ∀ (n i k : Nat) (v : Int), L.length - i = n → n + 1010 < k → i ≤ L.length → 0 ≤ v → v ≤ 1099511627776 →
    ∃ v', plan_All_L0 k (L, q, t4, (p.1.take (i - p.2.1.length), p.2.1.take i, p.2.2.1, v), L, Int.ofNat L.length, (i : Int)) = some (.inl (L, t4, (p.1, p.2.1, p.2.2.1, v')))
  | 0, i, k + 1, v, hn, hk, hi, v0, v1 => by
    have hlen : L.length = p.2.1.length + p.1.length := by rw [hL, List.length_append, List.length_map, List.length_map]
    refine ⟨v, ?_⟩
    simp only [plan_All_L0]
    refine cond_f (by rw [i_lt, decide_eq_false (by omega)]) ?_
    rw [List.take_of_length_le (by omega), List.take_of_length_le (by omega)]
  | n + 1, i, k + 1, v, hn, hk, _, v0, v1 => by
    have hlen : L.length = p.2.1.length + p.1.length := by rw [hL, List.length_append, List.length_map, List.length_map]
    have hi : i < L.length := by omega
    have t1 : decide ((i : Int) < Int.ofNat L.length) = true := by rw [i_lt, decide_eq_true hi]
    have t2 : decide (0 ≤ (i : Int)) = true := decide_eq_true (Int.natCast_nonneg i)
    have w := w64_succ (by omega : i < 4611686018427387904)
    have hnv : 0 ≤ nextV v ∧ nextV v ≤ 1099511627776 := by unfold nextV; omega
    obtain ⟨v', ih⟩ := All_lists p q t4 h h1 h2 L hL n (i + 1) k (nextV v) (by omega) (by omega) (by omega) hnv.1 hnv.2
    refine ⟨v', ?_⟩
    obtain ⟨hc1, hv, hcl, hrl, hRT, hRR⟩ := h
    obtain ⟨d, hd⟩ : ∃ d : T58, d = L.getD i (0, 0, 0, 0, 0, 0, 0, 0, 0, 0, 0, 0, 0) := ⟨_, rfl⟩
    simp only [plan_All_L0, t1, t2, Int.toNat_natCast, cond_true, w, ← hd]
    rw [List.getD_eq_getElem?_getD, hL] at hd
    by_cases hr : i < p.2.1.length
    · have e1 : d = tR p.2.1[i] := by
        rw [hd, List.getElem?_append_left (by simpa using hr), List.getElem?_map, List.getElem?_eq_getElem hr]; rfl
      have hm := List.getElem_mem hr
      have e2 : p.2.1.take (i + 1) = p.2.1.take i ++ [p.2.1[i]] := by rw [List.take_append_getElem]
      have e3 : p.1.take (i + 1 - p.2.1.length) = p.1.take (i - p.2.1.length) := by rw [show i + 1 - p.2.1.length = i - p.2.1.length by omega]
      have hR : RightR (p.2.1.take i ++ [p.2.1[i]]) := by
        rw [← e2]
        exact ⟨fun x hx => hRR.1.1 x (List.mem_of_mem_take hx), hRR.1.2.sublist (List.take_sublist _ _)⟩
      have hb := hRR.1.1 _ hm
      have l1 : (p.2.1.take i).length ≤ i := by rw [List.length_take]; omega
      have l2 : (p.1.take (i - p.2.1.length)).length ≤ 50 := by rw [List.length_take]; omega
      rw [e2, e3] at ih
      refine bind_s (v := ((p.1.take (i - p.2.1.length), p.2.1.take i ++ [p.2.1[i]], p.2.2.1, nextV v), 0)) ?_ (cond_f rfl ih)
      rw [e1, Apply_add2_eq (p.1.take (i - p.2.1.length), p.2.1.take i, p.2.2.1, v) (by show (p.1.take (i - p.2.1.length)).length ≤ _; omega) (by show (p.2.1.take i).length ≤ _; omega) hc1.1 ⟨v0, v1⟩ _ (rng_tR (hRR.1.rng _ hm)) rfl rfl rfl k]
      refine cond_t hb (cond_f (decide_eq_false ?_) (bind_s (AddR_end hR (by omega) k (by omega)) rfl))
      show ¬ p.2.1[i].2.2.2.1 ≤ p.2.2.1
      have := hrl _ hm
      omega
    · obtain ⟨j, hj⟩ : ∃ j, j = i - p.2.1.length := ⟨_, rfl⟩
      have hjl : j < p.1.length := by omega
      have e1 : d = tC p.1[j] := by
        rw [hd, List.getElem?_append_right (by simp; omega), List.getElem?_map, List.length_map, ← hj, List.getElem?_eq_getElem hjl]; rfl
      have hm := List.getElem_mem hjl
      have e2 : p.1.take (j + 1) = p.1.take j ++ [p.1[j]] := by rw [List.take_append_getElem]
      have hR : RightT (p.1.take j ++ [p.1[j]]) := by
        rw [← e2]
        exact ⟨fun x hx => hRT.1.1 x (List.mem_of_mem_take hx), hRT.1.2.sublist (List.take_sublist _ _)⟩
      have hb := hRT.1.1 _ hm
      have l1 : (p.1.take j).length ≤ 50 := by rw [List.length_take]; omega
      have l2 : (p.2.1.take i).length ≤ 50 := by rw [List.length_take]; omega
      have e4 : p.2.1.take i = p.2.1 := List.take_of_length_le (by omega)
      rw [show i + 1 - p.2.1.length = j + 1 by omega, e2, List.take_of_length_le (by omega : p.2.1.length ≤ i + 1)] at ih
      rw [e4, ← hj]
      refine bind_s (v := ((p.1.take j ++ [p.1[j]], p.2.1, p.2.2.1, nextV v), 0)) ?_ (cond_f rfl ih)
      rw [e1, Apply_add1_eq (p.1.take j, p.2.1, p.2.2.1, v) (by show (p.1.take j).length ≤ _; omega) (by show p.2.1.length ≤ _; omega) hc1.1 ⟨v0, v1⟩ _ (rng_tC (hRT.1.rng _ hm)) rfl rfl rfl k]
      refine cond_t hb (cond_f (decide_eq_false ?_) (bind_s (AddC_end hR (by omega) k (by omega)) rfl))
      show ¬ p.1[j].2.2.2.2.1 ≤ p.2.2.1
      have := hcl _ hm
      omega
theorem PlanLists_pure (p : T52) (g1 : ∀ c ∈ p.1, okvT kT28 c) (g2 : ∀ r ∈ p.2.1, okvT kT56 r) : ∃ k, feluccalaw08_PlanLists k p = some true := by
  refine ⟨1200, ?_⟩
  unfold feluccalaw08_PlanLists
  refine bind_s (small8 _) (cond_t rfl (bind_s (Few_spec _ p) ?_))
  by_cases hf : p.1.length ≤ 50 ∧ p.2.1.length ≤ 50
  · refine cond_t (decide_eq_true hf) ?_
    obtain ⟨b, hb, hR⟩ := plan_Right_spec p 1200 (by omega) (by omega) (fun c hc => rng_of (g1 c hc)) (fun c hc => rngR_of (g2 c hc)) (by omega)
    refine bind_s hb ?_
    cases b with
    | false => rfl
    | true =>
      have hR := hR.1 rfl
      refine cond_t rfl ?_
      have hN : RightP ([], [], 0, 0) := ⟨by decide, by decide, fun c hc => (by cases hc), fun c hc => (by cases hc), ⟨RightT.nil, by decide⟩, RightR.nil, by decide⟩
      obtain ⟨L, hL⟩ : ∃ L, L = p.2.1.map tR ++ p.1.map tC := ⟨_, rfl⟩
      have hlen : L.length = p.2.1.length + p.1.length := by rw [hL, List.length_append, List.length_map, List.length_map]
      refine bind_s ((List_spec p (by omega) (by omega) 1200 (by omega)).trans (by rw [← hL])) ?_
      refine bind_s (v := ([], [], 0, 0)) rfl ?_
      refine bind_s (adv_ok hN (by decide) (by decide) p.2.2.1 1200 (by omega) hR.1.1 hR.1.2) ?_
      have hv := (advP_right hN hR.1.1 hR.1.2).2.1
      obtain ⟨v', ha⟩ := All_lists p (advP ([], [], 0, 0) p.2.2.1) ([], [], 0, 0) hR (by omega) (by omega) L hL L.length 0 1200 (advV ([], [], 0, 0) p.2.2.1) (by omega) (by omega) (by omega) hv.1 hv.2
      rw [Nat.zero_sub, List.take_zero, List.take_zero] at ha
      refine bind_s (v := ((p.1, p.2.1, p.2.2.1, v'), Int.ofNat L.length, 0)) ?_ ?_
      · unfold plan_All
        exact bind_s (Copy_spec (advP ([], [], 0, 0) p.2.2.1) 1200 (Nat.le_trans (leftC_len p.2.2.1 []) (by decide)) (Nat.le_trans (leftR_len p.2.2.1 []) (by decide))) (bind_s ha rfl)
      · refine cond_t rfl (cond_t rfl (cond_t (decide_eq_true rfl) (cond_t (decide_eq_true ?_) (cond_t (decide_eq_true rfl) ?_))))
        · show Int.ofNat L.length = w64 (Int.ofNat p.1.length + Int.ofNat p.2.1.length)
          simp only [len_nat]
          rw [w64_id (by omega) (by omega)]
          omega
        · refine bind_s (Same_spec p.1 p.1 1200 (by omega) (by omega)) ?_
          rw [decide_eq_true rfl]
          refine cond_t rfl (bind_s (SameR_spec p.2.1 p.2.1 1200 (by omega) (by omega)) ?_)
          rw [decide_eq_true rfl]
          rfl
  · exact cond_f (decide_eq_false hf) rfl
/-! ### what was added and deleted -/
theorem PlanTwice_pure (p : T52) (g1 : ∀ c ∈ p.1, okvT kT28 c) (g2 : ∀ r ∈ p.2.1, okvT kT56 r) (c : T28) (g3 : okvT kT28 c) : ∃ k, feluccalaw08_PlanTwice k (p, c) = some true := by
  refine ⟨1200, ?_⟩
  unfold feluccalaw08_PlanTwice
  refine bind_s (small8 _) (cond_t rfl (bind_s (Few_spec _ p) ?_))
  by_cases hf : p.1.length ≤ 50 ∧ p.2.1.length ≤ 50
  · refine cond_t (decide_eq_true hf) ?_
    obtain ⟨b, hb, hR⟩ := plan_Right_spec p 1200 (by omega) (by omega) (fun c hc => rng_of (g1 c hc)) (fun c hc => rngR_of (g2 c hc)) (by omega)
    refine bind_s hb ?_
    cases b with
    | false => rfl
    | true =>
      have hR := hR.1 rfl
      obtain ⟨hc1, hv, hcl, hrl, hRT, hRR⟩ := hR
      refine cond_t rfl ?_
      have hS := planSame_refl p 1200 (by omega) (by omega) (by omega)
      have ha : plan_Apply 1200 (p, tC c) = _ := Apply_add1_eq p (by omega) (by omega) hc1.1 hv (tC c) (rng_tC (rng_of g3)) rfl rfl rfl 1200
      have ec : dC (tC c) = c := rfl
      rw [ec] at ha
      have done : ∀ e, e ≠ 0 → (bif !decide (e = 0) then (plan_Same 1200 (p, p)).bind fun o_9 => bif o_9 then some true else some false else none) = some true := fun e he => cond_t (by simp [he]) (bind_s hS rfl)
      cases hcb : conB c with
      | false =>
        rw [hcb, cond_false] at ha
        exact bind_s ha (cond_t rfl (bind_s hS rfl))
      | true =>
        rw [hcb, cond_true] at ha
        by_cases hp : c.2.2.2.2.1 ≤ p.2.2.1
        · rw [decide_eq_true hp, cond_true] at ha
          exact bind_s ha (cond_t rfl (bind_s hS rfl))
        · rw [decide_eq_false hp, cond_false] at ha
          rcases Add_cases hRT.1 (by omega) c (rng_of g3) 1200 (by omega) with ⟨e, he, h1, _⟩ | ⟨r, h1, hR2, _, hid⟩
          · rw [h1, Option.bind_some] at ha
            have hne : (!decide (e = 0)) = true := by simp [he]
            simp only [hne, cond_true] at ha
            exact bind_s ha (cond_t hne (bind_s hS rfl))
          · rw [h1, Option.bind_some] at ha
            refine bind_s ha (cond_f rfl ?_)
            have hnv : 0 ≤ nextV p.2.2.2 ∧ nextV p.2.2.2 ≤ 1099511627776 := by unfold nextV; omega
            have hl := ins_len (l := p.1) (r := r) (c := c)
            have hfl : (insAt p.1 r c).filter (keepC c.1) = p.1 := ins_filter hid
            have hid1 : 1 ≤ c.1 ∧ c.1 ≤ 1048576 := by
              have := hcb
              unfold conB at this
              simp only [Bool.and_eq_true, decide_eq_true_eq] at this
              exact this.1.2
            refine bind_s (v := ((p.1, p.2.1, p.2.2.1, nextV (nextV p.2.2.2)), 0)) ?_ ?_
            · unfold plan_Apply
              refine bind_s (Copy_spec (insAt p.1 r c, p.2.1, p.2.2.1, nextV p.2.2.2) 1200 (by show (insAt p.1 r c).length ≤ _; omega) (by show p.2.1.length ≤ _; omega)) ?_
              refine bind_s (direct_del1 1200 c.1) (cond_t (decide_eq_true hid1) ?_)
              refine bind_s (past_spec 1200 _ _) (cond_f rfl (cond_f rfl (cond_t rfl ?_)))
              refine bind_s (contacts_Delete_spec (insAt p.1 r c) c.1 1200 (by omega) (by omega)) ?_
              rw [hfl, if_neg (by omega)]
              refine cond_f rfl ?_
              show some ((p.1, p.2.1, p.2.2.1, mn (w64 (nextV p.2.2.2 + 1)) 1099511627776), 0) = _
              rw [mn_next hnv.1 hnv.2]
            · refine cond_t rfl ?_
              refine bind_s (Same_spec p.1 p.1 1200 (by omega) (by omega)) ?_
              rw [decide_eq_true rfl]
              refine cond_t rfl (bind_s (SameR_spec p.2.1 p.2.1 1200 (by omega) (by omega)) ?_)
              rw [decide_eq_true rfl]
              exact cond_t rfl (cond_t (decide_eq_true rfl) (cond_t (decide_eq_true (by omega)) rfl))
  · exact cond_f (decide_eq_false hf) rfl
end Go.Proofs.Ytggikacbelogcaa.Ex
