/- The statement on what becomes of a plan, act by act, in plain words. -/
import Derived.Test.YtggikacbelogcaaGreatQh
namespace Go.Proofs.YtggikacbelogcaaGreat.Ex
open Go
set_option linter.unusedVariables false
set_option linter.unusedSimpArgs false
theorem okv_1 {p : T25} (h : okvT kT25 p) : SK.okv (.row kT33) p.1 := by
  simp only [okvT] at h
  exact h.1
theorem okv_2 {p : T25} (h : okvT kT25 p) : SK.okv (.row kT35) p.2.1 := by
  simp only [okvT] at h
  exact h.2.1
def tR (r : T35) : T37 := (1, 2, 0, 0, 0, 0, 0, 0, r)
def tC (c : T33) : T37 := (1, 1, c.1, c.2.1, c.2.2.1, c.2.2.2.1, c.2.2.2.2.1, c.2.2.2.2.2, 0, 0, 0, 0, 0)
theorem List_L0 (p : T25) (rs : List T35) (hl : rs.length ≤ 1000) : ∀ (n i k : Nat) (l : List T37), rs.length - i = n → n < k → i ≤ rs.length → l.length ≤ i → plan_List_L0 k (p, l, rs, Int.ofNat rs.length, (i : Int)) = some (.inl (p, l ++ (rs.drop i).map tR))
  | 0, i, k + 1, l, h, hk, hi, hm => by
    rw [List.drop_eq_nil_of_le (by omega)]
    simp only [plan_List_L0]
    refine cond_f (by rw [i_lt, decide_eq_false (by omega)]) ?_
    simp
  | n + 1, i, k + 1, l, h, hk, _, hm => by
    have hi : i < rs.length := by omega
    have t1 : decide ((i : Int) < Int.ofNat rs.length) = true := by rw [i_lt, decide_eq_true hi]
    have t2 : decide (0 ≤ (i : Int)) = true := decide_eq_true (Int.natCast_nonneg i)
    obtain ⟨x, hx⟩ : ∃ x : T35, x = rs.getD i (0, 0, 0, 0, 0) := ⟨_, rfl⟩
    have ih := List_L0 p rs hl n (i + 1) k (l ++ [tR x]) (by omega) (by omega) (by omega) (by simp; omega)
    rw [getD_drop (d := (0, 0, 0, 0, 0)) hi, ← hx]
    simp only [plan_List_L0, t1, t2, Int.toNat_natCast, cond_true, w64_succ (by omega : i < 4611686018427387904), ← hx]
    refine cond_t (decide_eq_true (by simp only [List.length_cons, List.length_nil]; omega)) (ih.trans ?_)
    simp
theorem List_L1 (cs : List T33) (hl : cs.length ≤ 1000) : ∀ (n i k : Nat) (l : List T37), cs.length - i = n → n < k → i ≤ cs.length → l.length ≤ 1000 + i → plan_List_L1 k (l, cs, Int.ofNat cs.length, (i : Int)) = some (.inl (l ++ (cs.drop i).map tC))
  | 0, i, k + 1, l, h, hk, hi, hm => by
    rw [List.drop_eq_nil_of_le (by omega)]
    simp only [plan_List_L1]
    refine cond_f (by rw [i_lt, decide_eq_false (by omega)]) ?_
    simp
  | n + 1, i, k + 1, l, h, hk, _, hm => by
    have hi : i < cs.length := by omega
    have t1 : decide ((i : Int) < Int.ofNat cs.length) = true := by rw [i_lt, decide_eq_true hi]
    have t2 : decide (0 ≤ (i : Int)) = true := decide_eq_true (Int.natCast_nonneg i)
    obtain ⟨x, hx⟩ : ∃ x : T33, x = cs.getD i (0, 0, 0, 0, 0, 0) := ⟨_, rfl⟩
    have ih := List_L1 cs hl n (i + 1) k (l ++ [tC x]) (by omega) (by omega) (by omega) (by simp; omega)
    rw [getD_drop (d := (0, 0, 0, 0, 0, 0)) hi, ← hx]
    simp only [plan_List_L1, t1, t2, Int.toNat_natCast, cond_true, w64_succ (by omega : i < 4611686018427387904), ← hx]
    refine cond_t (decide_eq_true (by simp only [List.length_cons, List.length_nil]; omega)) (ih.trans ?_)
    simp
theorem List_spec (p : T25) (h1 : p.1.length ≤ 1000) (h2 : p.2.1.length ≤ 1000) (k : Nat) (hk : 1010 < k) : plan_List k p = some (p.2.1.map tR ++ p.1.map tC) := by
  unfold plan_List
  refine bind_s (List_L0 p p.2.1 h2 p.2.1.length 0 k [] (by omega) (by omega) (by omega) (by simp)) ?_
  refine bind_s (List_L1 p.1 h1 p.1.length 0 k _ (by omega) (by omega) (by omega) (by simp; omega)) ?_
  simp
theorem List8_L0 (p : T25) (hl : p.2.1.length ≤ 1000) : ∀ (n i k : Nat) (l : List T37), p.2.1.length - i = n → n < k → i ≤ p.2.1.length → l.length ≤ i → feluccaref08_List_L0 k (p, l, (i : Int)) = some (.inl (p, l ++ (p.2.1.drop i).map tR))
  | 0, i, k + 1, l, h, hk, hi, hm => by
    rw [List.drop_eq_nil_of_le (by omega)]
    simp only [feluccaref08_List_L0]
    refine cond_f (by rw [i_lt, decide_eq_false (by omega)]) ?_
    simp
  | n + 1, i, k + 1, l, h, hk, _, hm => by
    have hi : i < p.2.1.length := by omega
    have t1 : decide ((i : Int) < Int.ofNat p.2.1.length) = true := by rw [i_lt, decide_eq_true hi]
    have t2 : decide (0 ≤ (i : Int)) = true := decide_eq_true (Int.natCast_nonneg i)
    obtain ⟨x, hx⟩ : ∃ x : T35, x = p.2.1.getD i (0, 0, 0, 0, 0) := ⟨_, rfl⟩
    have ih := List8_L0 p hl n (i + 1) k (l ++ [tR x]) (by omega) (by omega) (by omega) (by simp; omega)
    rw [getD_drop (d := (0, 0, 0, 0, 0)) hi, ← hx]
    simp only [feluccaref08_List_L0, t1, t2, Int.toNat_natCast, cond_true, w64_succ (by omega : i < 4611686018427387904), ← hx]
    refine cond_t (decide_eq_true (by simp only [List.length_cons, List.length_nil]; omega)) (ih.trans ?_)
    simp
theorem List8_L1 (p : T25) (hl : p.1.length ≤ 1000) : ∀ (n i k : Nat) (l : List T37), p.1.length - i = n → n < k → i ≤ p.1.length → l.length ≤ 1000 + i → feluccaref08_List_L1 k (p, l, (i : Int)) = some (.inl (l ++ (p.1.drop i).map tC))
  | 0, i, k + 1, l, h, hk, hi, hm => by
    rw [List.drop_eq_nil_of_le (by omega)]
    simp only [feluccaref08_List_L1]
    refine cond_f (by rw [i_lt, decide_eq_false (by omega)]) ?_
    simp
  | n + 1, i, k + 1, l, h, hk, _, hm => by
    have hi : i < p.1.length := by omega
    have t1 : decide ((i : Int) < Int.ofNat p.1.length) = true := by rw [i_lt, decide_eq_true hi]
    have t2 : decide (0 ≤ (i : Int)) = true := decide_eq_true (Int.natCast_nonneg i)
    obtain ⟨x, hx⟩ : ∃ x : T33, x = p.1.getD i (0, 0, 0, 0, 0, 0) := ⟨_, rfl⟩
    have ih := List8_L1 p hl n (i + 1) k (l ++ [tC x]) (by omega) (by omega) (by omega) (by simp; omega)
    rw [getD_drop (d := (0, 0, 0, 0, 0, 0)) hi, ← hx]
    simp only [feluccaref08_List_L1, t1, t2, Int.toNat_natCast, cond_true, w64_succ (by omega : i < 4611686018427387904), ← hx]
    refine cond_t (decide_eq_true (by simp only [List.length_cons, List.length_nil]; omega)) (ih.trans ?_)
    simp
theorem List8_spec (p : T25) (h1 : p.1.length ≤ 1000) (h2 : p.2.1.length ≤ 1000) (k : Nat) (hk : 1010 < k) : feluccaref08_List k p = some (p.2.1.map tR ++ p.1.map tC) := by
  unfold feluccaref08_List
  refine bind_s (List8_L0 p h2 p.2.1.length 0 k [] (by omega) (by omega) (by omega) (by simp)) ?_
  refine bind_s (List8_L1 p h1 p.1.length 0 k _ (by omega) (by omega) (by omega) (by simp; omega)) ?_
  simp
theorem Same5_L0 (a : List T37) (hs : a.length ≤ 100000) : ∀ (n i k : Nat), a.length - i = n → n < k → feluccaref05_Same_L0 k (a, a, (i : Int)) = some (.inl ())
  | 0, i, k + 1, hn, hk => by
    simp only [feluccaref05_Same_L0]
    rw [i_lt, decide_eq_false (by omega)]
    rfl
  | n + 1, i, k + 1, hn, hk => by
    have hi : i < a.length := by omega
    have t1 : decide ((i : Int) < Int.ofNat a.length) = true := by rw [i_lt, decide_eq_true hi]
    have t2 : decide (0 ≤ (i : Int)) = true := decide_eq_true (Int.natCast_nonneg i)
    simp only [feluccaref05_Same_L0, t1, t2, cond_true, Int.toNat_natCast, w64_succ (by omega : i < 4611686018427387904), Same5_L0 a hs n (i + 1) k (by omega) (by omega), beq_self_eq_true, Bool.and_self, Bool.not_true, cond_false]
theorem Same5_refl (a : List T37) (hs : a.length ≤ 100000) (k : Nat) (hk : a.length < k) : feluccaref05_Same k (a, a) = some true := by
  unfold feluccaref05_Same
  have := Same5_L0 a hs a.length 0 k (by omega) hk
  rw [Int.natCast_zero] at this
  exact cond_f (by simp) (bind_s this rfl)
theorem All8_L0 (p t4 : T25) (hp1 : p.1.length ≤ 50) (hp2 : p.2.1.length ≤ 50) (l : List T37) (hl : l.length ≤ 50) (hd : ∀ d ∈ l, rngD d) : ∀ (n i k : Nat) (x : T25), l.length - i = n → n + 1010 < k → i ≤ l.length → RightP x → x.1.length ≤ 50 + i → x.2.1.length ≤ 50 + i →
    (∃ q, plan_All_L0 k (l, p, t4, x, l, Int.ofNat l.length, (i : Int)) = some (.inl (l, t4, q)) ∧ feluccaref08_All_L0 k (l, p, t4, x, (i : Int)) = some (.inl (l, t4, q)) ∧ q.1.length ≤ 100 ∧ q.2.1.length ≤ 100) ∨
    (∃ j e, plan_All_L0 k (l, p, t4, x, l, Int.ofNat l.length, (i : Int)) = some (.inr (p, j, e)) ∧ feluccaref08_All_L0 k (l, p, t4, x, (i : Int)) = some (.inr (p, j, e)))
  | 0, i, k + 1, x, h, hk, hi, hx, x1, x2 => by
    have t1 : decide ((i : Int) < Int.ofNat l.length) = false := by rw [i_lt, decide_eq_false (by omega)]
    refine .inl ⟨x, ?_, ?_, by omega, by omega⟩
    · simp only [plan_All_L0, t1]; rfl
    · simp only [feluccaref08_All_L0, t1]; rfl
  | n + 1, i, k + 1, x, h, hk, _, hx, x1, x2 => by
    have hi : i < l.length := by omega
    have t1 : decide ((i : Int) < Int.ofNat l.length) = true := by rw [i_lt, decide_eq_true hi]
    have t2 : decide (0 ≤ (i : Int)) = true := decide_eq_true (Int.natCast_nonneg i)
    obtain ⟨d, hdd⟩ : ∃ d : T37, d = l.getD i (0, 0, 0, 0, 0, 0, 0, 0, 0, 0, 0, 0, 0) := ⟨_, rfl⟩
    have hm : rngD d := hd d (by rw [hdd, List.getD_eq_getElem?_getD, List.getElem?_eq_getElem hi]; exact List.getElem_mem hi)
    have h8 := Apply8_same hx (by omega) (by omega) d hm k (by omega)
    have w := w64_succ (by omega : i < 4611686018427387904)
    rcases Apply_cases hx (by omega) (by omega) d hm k (by omega) with ⟨e, he, ha⟩ | ⟨q, ha, hq, _, _, q1, q2⟩
    · refine .inr ⟨(i : Int), e, ?_, ?_⟩
      · simp only [plan_All_L0, t1, t2, Int.toNat_natCast, cond_true, ← hdd]
        refine bind_s ha (cond_t (by simpa using he) (bind_s (Copy_spec p k (by omega) (by omega)) rfl))
      · simp only [feluccaref08_All_L0, t1, t2, Int.toNat_natCast, cond_true, ← hdd]
        refine bind_s (h8.trans ha) (cond_t (by simpa using he) (bind_s (Copy8_spec p k (by omega) (by omega)) rfl))
    · rcases All8_L0 p t4 hp1 hp2 l hl hd n (i + 1) k q (by omega) (by omega) (by omega) hq (by omega) (by omega) with ⟨r, h1, h2, r1, r2⟩ | ⟨j, e, h1, h2⟩
      · refine .inl ⟨r, ?_, ?_, r1, r2⟩
        · simp only [plan_All_L0, t1, t2, Int.toNat_natCast, cond_true, ← hdd, w]
          exact bind_s ha (cond_f rfl h1)
        · simp only [feluccaref08_All_L0, t1, t2, Int.toNat_natCast, cond_true, ← hdd, w]
          exact bind_s (h8.trans ha) (cond_f rfl h2)
      · refine .inr ⟨j, e, ?_, ?_⟩
        · simp only [plan_All_L0, t1, t2, Int.toNat_natCast, cond_true, ← hdd, w]
          exact bind_s ha (cond_f rfl h1)
        · simp only [feluccaref08_All_L0, t1, t2, Int.toNat_natCast, cond_true, ← hdd, w]
          exact bind_s (h8.trans ha) (cond_f rfl h2)
theorem All8_spec {p : T25} (h : RightP p) (hp1 : p.1.length ≤ 50) (hp2 : p.2.1.length ≤ 50) (l : List T37) (hl : l.length ≤ 50) (hd : ∀ d ∈ l, rngD d) : ∃ q m e, plan_All 1200 (p, l) = some (q, m, e) ∧ feluccaref08_All 1200 (p, l) = some (q, m, e) ∧ q.1.length ≤ 100 ∧ q.2.1.length ≤ 100 := by
  rcases All8_L0 p ([], [], 0, 0) hp1 hp2 l hl hd l.length 0 1200 p (by omega) (by omega) (by omega) h (by omega) (by omega) with ⟨q, h1, h2, q1, q2⟩ | ⟨j, e, h1, h2⟩
  · refine ⟨q, Int.ofNat l.length, 0, ?_, ?_, q1, q2⟩
    · unfold plan_All
      exact bind_s (Copy_spec p 1200 (by omega) (by omega)) (bind_s h1 rfl)
    · unfold feluccaref08_All
      exact bind_s (Copy8_spec p 1200 (by omega) (by omega)) (bind_s h2 rfl)
  · refine ⟨p, j, e, ?_, ?_, by omega, by omega⟩
    · unfold plan_All
      exact bind_s (Copy_spec p 1200 (by omega) (by omega)) (bind_s h1 rfl)
    · unfold feluccaref08_All
      exact bind_s (Copy8_spec p 1200 (by omega) (by omega)) (bind_s h2 rfl)
/-! ### act by act -/
def dA (x : T39) : T37 := (x.2.1, x.2.2.1, x.2.2.2.1, x.2.2.2.2.1, x.2.2.2.2.2.1, x.2.2.2.2.2.2.1, x.2.2.2.2.2.2.2.1, x.2.2.2.2.2.2.2.2.1, x.2.2.2.2.2.2.2.2.2.1, x.2.2.2.2.2.2.2.2.2.2.1, x.2.2.2.2.2.2.2.2.2.2.2.1, x.2.2.2.2.2.2.2.2.2.2.2.2.1, x.2.2.2.2.2.2.2.2.2.2.2.2.2.1)
theorem rngA {x : T39} (h : okvT kT39 x) : rngD (dA x) := by
  simp only [okvT, SK.okv, Lit.wf, Bool.and_eq_true, decide_eq_true_eq] at h
  unfold rngD rngC rngR dC dR dA
  have e1 : IntKind.i64.min = -9223372036854775808 := by decide
  have e2 : IntKind.i64.max = 9223372036854775807 := by decide
  simp only
  omega
theorem PT_L0 (o : List T39) (r : T25) (a : Bool) (hl : o.length ≤ 50) : ∀ (n i k : Nat) (l : List T37), o.length - i = n → n < k → i ≤ o.length → l.length ≤ i → feluccalaw08_PlanTells_L0 k (o, r, a, l, (i : Int)) = some (.inl (o, r, a, l ++ (o.drop i).map dA))
  | 0, i, k + 1, l, h, hk, hi, hm => by
    rw [List.drop_eq_nil_of_le (by omega)]
    simp only [feluccalaw08_PlanTells_L0]
    refine cond_f (by rw [i_lt, decide_eq_false (by omega)]) ?_
    simp
  | n + 1, i, k + 1, l, h, hk, _, hm => by
    have hi : i < o.length := by omega
    have t1 : decide ((i : Int) < Int.ofNat o.length) = true := by rw [i_lt, decide_eq_true hi]
    have t2 : decide (0 ≤ (i : Int)) = true := decide_eq_true (Int.natCast_nonneg i)
    obtain ⟨x, hx⟩ : ∃ x : T39, x = o.getD i (0, 0, 0, 0, 0, 0, 0, 0, 0, 0, 0, 0, 0, 0, 0) := ⟨_, rfl⟩
    have ih := PT_L0 o r a hl n (i + 1) k (l ++ [dA x]) (by omega) (by omega) (by omega) (by simp; omega)
    rw [getD_drop (d := (0, 0, 0, 0, 0, 0, 0, 0, 0, 0, 0, 0, 0, 0, 0)) hi, ← hx]
    simp only [feluccalaw08_PlanTells_L0, t1, t2, Int.toNat_natCast, cond_true, w64_succ (by omega : i < 4611686018427387904), ← hx]
    refine cond_t (decide_eq_true (by simp only [List.length_cons, List.length_nil]; omega)) (Eq.trans (show _ = feluccalaw08_PlanTells_L0 k (o, r, a, l ++ [dA x], ((i + 1 : Nat) : Int)) from rfl) (ih.trans ?_))
    simp
theorem PT_L2 (o : List T39) (a : Bool) (x : T25) (m : Int) : ∀ (n : Nat) (y : T25) (j k : Nat), y.1.length - j = n → n < k → y.1.length ≤ 1000 → ∃ y' : T25, feluccalaw08_PlanTells_L2 k (o, a, x, m, y, (j : Int)) = some (.inl (o, a, x, m, y')) ∧ y'.2 = y.2
  | 0, y, j, k + 1, h, hk, hl => by
    refine ⟨y, ?_, rfl⟩
    simp only [feluccalaw08_PlanTells_L2]
    exact cond_f (by rw [i_lt, decide_eq_false (by omega)]) rfl
  | n + 1, y, j, k + 1, h, hk, hl => by
    have hj : j < y.1.length := by omega
    have t1 : decide ((j : Int) < Int.ofNat y.1.length) = true := by rw [i_lt, decide_eq_true hj]
    have t2 : decide (0 ≤ (j : Int)) = true := decide_eq_true (Int.natCast_nonneg j)
    obtain ⟨y', h1, h2⟩ := PT_L2 o a x m n (y.1.set j (-7, (y.1.getD j (0, 0, 0, 0, 0, 0)).2), y.2) (j + 1) k (by simp only [List.length_set]; omega) (by omega) (by simp only [List.length_set]; exact hl)
    refine ⟨y', ?_, h2⟩
    simp only [feluccalaw08_PlanTells_L2, t1, t2, Int.toNat_natCast, cond_true, w64_succ (by omega : j < 4611686018427387904)]
    exact h1
theorem PT_L3 (o : List T39) (a : Bool) (x : T25) (m : Int) : ∀ (n : Nat) (y : T25) (j k : Nat), y.2.1.length - j = n → n < k → y.2.1.length ≤ 1000 → feluccalaw08_PlanTells_L3 k (o, a, x, m, y, (j : Int)) = some (.inl (o, a, x, m))
  | 0, y, j, k + 1, h, hk, hl => by
    simp only [feluccalaw08_PlanTells_L3]
    exact cond_f (by rw [i_lt, decide_eq_false (by omega)]) rfl
  | n + 1, y, j, k + 1, h, hk, hl => by
    have hj : j < y.2.1.length := by omega
    have t1 : decide ((j : Int) < Int.ofNat y.2.1.length) = true := by rw [i_lt, decide_eq_true hj]
    have t2 : decide (0 ≤ (j : Int)) = true := decide_eq_true (Int.natCast_nonneg j)
    simp only [feluccalaw08_PlanTells_L3, t1, t2, Int.toNat_natCast, cond_true, w64_succ (by omega : j < 4611686018427387904)]
    exact PT_L3 o a x m n _ (j + 1) k (by simp only [List.length_set]; omega) (by omega) (by simp only [List.length_set]; exact hl)
theorem PT_L1 (o : List T39) (ho : ∀ x ∈ o, okvT kT39 x) (hol : o.length ≤ 50) : ∀ (n i k : Nat) (A : T25), o.length - i = n → n + 1010 < k → i ≤ o.length → RightP A → A.1.length ≤ 50 + i → A.2.1.length ≤ 50 + i → feluccalaw08_PlanTells_L1 k (o, true, A, (i : Int)) = some (.inl true)
  | 0, i, k + 1, A, h, hk, hi, hA, x1, x2 => by
    simp only [feluccalaw08_PlanTells_L1]
    exact cond_f (by rw [i_lt, decide_eq_false (by omega)]) rfl
  | n + 1, i, k + 1, A, h, hk, _, hA, x1, x2 => by
    have hi : i < o.length := by omega
    have t1 : decide ((i : Int) < Int.ofNat o.length) = true := by rw [i_lt, decide_eq_true hi]
    have t2 : decide (0 ≤ (i : Int)) = true := decide_eq_true (Int.natCast_nonneg i)
    obtain ⟨x, hx⟩ : ∃ x : T39, x = o.getD i (0, 0, 0, 0, 0, 0, 0, 0, 0, 0, 0, 0, 0, 0, 0) := ⟨_, rfl⟩
    have hm : rngD (dA x) := rngA (ho x (by rw [hx, List.getD_eq_getElem?_getD, List.getElem?_eq_getElem hi]; exact List.getElem_mem hi))
    have w := w64_succ (by omega : i < 4611686018427387904)
    have step : ∀ q : T25, RightP q → q.1.length ≤ 50 + (i + 1) → q.2.1.length ≤ 50 + (i + 1) → ((feluccalaw08_PlanTells_L2 k (o, true, q, (i : Int), q, 0)).bind fun o_18 => match o_18 with
        | .inl o_19 => (feluccalaw08_PlanTells_L3 k (o_19.1, o_19.2.1, o_19.2.2.1, o_19.2.2.2.1, o_19.2.2.2.2, 0)).bind fun o_20 => match o_20 with
          | .inl o_21 => feluccalaw08_PlanTells_L1 k (o_21.1, o_21.2.1, o_21.2.2.1, w64 (o_21.2.2.2 + 1))
          | .inr o_21 => some (Sum.inr o_21)
        | .inr o_19 => some (Sum.inr o_19)) = some (.inl true) := fun q hq q1 q2 => by
      obtain ⟨y', e1, e2⟩ := PT_L2 o true q (i : Int) q.1.length q 0 k (by omega) (by omega) (by omega)
      rw [Int.natCast_zero] at e1
      refine bind_s e1 ?_
      have e3 := PT_L3 o true q (i : Int) y'.2.1.length y' 0 k (by omega) (by rw [e2]; omega) (by rw [e2]; omega)
      rw [Int.natCast_zero] at e3
      refine bind_s e3 ?_
      show feluccalaw08_PlanTells_L1 k (o, true, q, w64 ((i : Int) + 1)) = _
      rw [w]
      exact PT_L1 o ho hol n (i + 1) k q (by omega) (by omega) (by omega) hq q1 q2
    simp only [feluccalaw08_PlanTells_L1, t1, t2, Int.toNat_natCast, cond_true, ← hx]
    have hSA := Same8_refl A k (by omega) (by omega) (by omega)
    have hCA := Copy8_spec A k (by omega) (by omega)
    refine bind_s hCA ?_
    by_cases h0 : x.1 = 0
    · refine cond_t (decide_eq_true h0) ?_
      have h8 := Apply8_same hA (by omega) (by omega) (dA x) hm k (by omega)
      rcases Apply_cases hA (by omega) (by omega) (dA x) hm k (by omega) with ⟨e, he, ha⟩ | ⟨q, ha, hq, qc, qv, q1, q2⟩
      · refine bind_s ha (bind_s (h8.trans ha) (cond_f (by simp) (bind_s hSA (cond_t rfl (bind_s hSA (cond_t rfl (bind_s hCA ?_)))))))
        exact step A hA (by omega) (by omega)
      · refine bind_s ha (bind_s (h8.trans ha) (cond_f (by simp) (bind_s (Same8_refl q k (by omega) (by omega) (by omega)) (cond_t rfl (bind_s hSA (cond_t rfl (bind_s (Copy8_spec q k (by omega) (by omega)) ?_)))))))
        exact step q hq (by omega) (by omega)
    · refine cond_f (decide_eq_false h0) ?_
      obtain ⟨M, hM⟩ : ∃ M, M = x.2.2.2.2.2.2.2.2.2.2.2.2.2.2 := ⟨_, rfl⟩
      simp only [← hM]
      have ha := Advance_cases hA (by omega) (by omega) M k (by omega)
      have h8 := Advance8_same hA (by omega) (by omega) M k (by omega)
      by_cases hc : M < A.2.2.1 ∨ 2147483647 < M
      · rw [if_pos hc] at ha
        refine bind_s ha (bind_s (h8.trans ha) (bind_s (Ints_spec [] [] k (by simp) (by simp; omega)) (cond_t rfl (cond_f (by simp) (bind_s hSA (cond_t rfl (bind_s hSA (cond_t rfl (bind_s hCA ?_)))))))))
        exact step A hA (by omega) (by omega)
      · rw [if_neg hc] at ha
        have hq := advP_right hA (by omega : A.2.2.1 ≤ M) (by omega)
        have l1 := leftC_len M A.1
        have l2 := leftR_len M A.2.1
        have l3 := sorted_len (goneC M A.1)
        have l4 := goneC_len M A.1
        have p1 : (advP A M).1.length ≤ 50 + i := by show (leftC M A.1).length ≤ _; omega
        have p2 : (advP A M).2.1.length ≤ 50 + i := by show (leftR M A.2.1).length ≤ _; omega
        have hI := Ints_spec (sorted (goneC M A.1)) (sorted (goneC M A.1)) k (by omega) (by omega)
        rw [decide_eq_true rfl] at hI
        refine bind_s ha (bind_s (h8.trans ha) (bind_s hI (cond_t rfl (cond_f (by simp) (bind_s (Same8_refl (advP A M) k (by omega) (by omega) (by omega)) (cond_t rfl (bind_s hSA (cond_t rfl (bind_s (Copy8_spec (advP A M) k (by omega) (by omega)) ?_)))))))))
        exact step (advP A M) hq (by omega) (by omega)
theorem PlanTells_pure (p : T25) (g1 : ∀ c ∈ p.1, okvT kT33 c) (g2 : ∀ r ∈ p.2.1, okvT kT35 r) (o : List T39) (g3 : ∀ x ∈ o, okvT kT39 x) (A : T25) : ∃ k, feluccalaw08_PlanTells k (p, o, A) = some true := by
  refine ⟨1200, ?_⟩
  unfold feluccalaw08_PlanTells
  refine bind_s (small8 _) (cond_t rfl (bind_s (Few_spec _ p) ?_))
  by_cases hf : p.1.length ≤ 50 ∧ p.2.1.length ≤ 50
  · refine cond_t (decide_eq_true hf) (bind_s (Few_spec _ A) ?_)
    by_cases hfA : A.1.length ≤ 50 ∧ A.2.1.length ≤ 50
    · refine cond_t (decide_eq_true hfA) ?_
      by_cases hl : 50 < Int.ofNat o.length
      · exact cond_t (decide_eq_true hl) rfl
      refine cond_f (decide_eq_false hl) ?_
      rw [len_nat] at hl
      have hrc : ∀ c ∈ p.1, rngC c := fun c hc => rng_of (g1 c hc)
      have hrr : ∀ r ∈ p.2.1, rngR r := fun c hc => rngR_of (g2 c hc)
      obtain ⟨b, hb, hR⟩ := plan_Right_spec p 1200 (by omega) (by omega) hrc hrr (by omega)
      have hb8 := (Right8_same p 1200 (by omega) (by omega) hrc hrr (by omega)).trans hb
      obtain ⟨c, hc⟩ : ∃ c, plan_Same 1200 (p, A) = some c := by
        unfold plan_Same
        simp only [Same_spec p.1 A.1 1200 (by omega) (by omega), SameR_spec p.2.1 A.2.1 1200 (by omega) (by omega), Option.bind_some, bif_self]
        repeat first | exact ⟨_, rfl⟩ | refine ex_cond ?_ ?_
      have hc8 := (Same8_spec p A 1200 (by omega) (by omega) (by omega)).trans hc
      have hC := Copy_spec p 1200 (by omega) (by omega)
      have hS := Same8_refl p 1200 (by omega) (by omega) (by omega)
      have h0 := PT_L0 o p true (by omega) o.length 0 1200 [] (by omega) (by omega) (by omega) (by simp)
      rw [Int.natCast_zero, List.drop_zero, List.nil_append] at h0
      cases b with
      | false =>
        cases c
        · exact bind_s hb (cond_f rfl (bind_s hb8 (cond_f rfl (bind_s hc (cond_f rfl (bind_s hc8 (cond_f rfl (bind_s hC (bind_s hS (cond_t rfl (bind_s hb8 (cond_f rfl rfl))))))))))))
        · exact bind_s hb (cond_f rfl (bind_s hb8 (cond_f rfl (bind_s hc (cond_t rfl (bind_s hc8 (cond_t rfl (bind_s hC (bind_s hS (cond_t rfl (bind_s hb8 (cond_f rfl rfl))))))))))))
      | true =>
        have hR := hR.1 rfl
        obtain ⟨q, m, e, ha, ha8, q1, q2⟩ := All8_spec hR (by omega) (by omega) (o.map dA) (by rw [List.length_map]; omega) (fun d hd => by
          obtain ⟨x, hx, rfl⟩ := List.mem_map.1 hd
          exact rngA (g3 x hx))
        have hq := Same8_refl q 1200 (by omega) (by omega) (by omega)
        have hL := List_spec p (by omega) (by omega) 1200 (by omega)
        have hL8 := List8_spec p (by omega) (by omega) 1200 (by omega)
        have h5 := Same5_refl (p.2.1.map tR ++ p.1.map tC) (by simp; omega) 1200 (by simp; omega)
        have h1 := PT_L1 o g3 (by omega) o.length 0 1200 p (by omega) (by omega) (by omega) hR (by omega) (by omega)
        rw [Int.natCast_zero] at h1
        cases c
        · exact bind_s hb (cond_t rfl (bind_s hb8 (cond_t rfl (bind_s hc (cond_f rfl (bind_s hc8 (cond_f rfl (bind_s hC (bind_s hS (cond_t rfl (bind_s hb8 (cond_t rfl (bind_s h0 (bind_s ha (bind_s ha8 (bind_s hq (cond_t rfl (cond_f (by simp) (cond_f (by simp) (bind_s hL (bind_s hL8 (bind_s h5 (cond_t rfl (bind_s h1 rfl))))))))))))))))))))))))
        · exact bind_s hb (cond_t rfl (bind_s hb8 (cond_t rfl (bind_s hc (cond_t rfl (bind_s hc8 (cond_t rfl (bind_s hC (bind_s hS (cond_t rfl (bind_s hb8 (cond_t rfl (bind_s h0 (bind_s ha (bind_s ha8 (bind_s hq (cond_t rfl (cond_f (by simp) (cond_f (by simp) (bind_s hL (bind_s hL8 (bind_s h5 (cond_t rfl (bind_s h1 rfl))))))))))))))))))))))))
    · exact cond_f (decide_eq_false hfA) rfl
  · refine cond_f (decide_eq_false hf) (bind_s (Few_spec _ A) ?_)
    cases decide (A.1.length ≤ 50 ∧ A.2.1.length ≤ 50) <;> rfl
end Go.Proofs.YtggikacbelogcaaGreat.Ex
