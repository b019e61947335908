/- The statement on contacts that both tables are the same, act by act, in plain words. -/
import Derived.Test.YtggikacbelogcaaPh
namespace Go.Proofs.Ytggikacbelogcaa.Ex
open Go
set_option linter.unusedVariables false
set_option linter.unusedSimpArgs false
theorem CT_L1 (o : List T30) (a : Bool) (t : List T28) (y : Int) : ∀ (n : Nat) (m : List T28) (j k : Nat), m.length - j = n → n < k → m.length ≤ 1000 → feluccalaw06_ContactsTells_L1 k (o, a, t, y, m, (j : Int)) = some (.inl (o, a, t, y))
  | 0, m, j, k + 1, h, hk, hm => by
    simp only [feluccalaw06_ContactsTells_L1]
    exact cond_f (by rw [i_lt, decide_eq_false (by omega)]) rfl
  | n + 1, m, j, k + 1, h, hk, hm => by
    have hj : j < m.length := by omega
    have t1 : decide ((j : Int) < Int.ofNat m.length) = true := by rw [i_lt, decide_eq_true hj]
    have t2 : decide (0 ≤ (j : Int)) = true := decide_eq_true (Int.natCast_nonneg j)
    simp only [feluccalaw06_ContactsTells_L1, t1, t2, cond_true, Int.toNat_natCast, w64_succ (by omega : j < 4611686018427387904)]
    exact CT_L1 o a t y n _ (j + 1) k (by rw [List.length_set]; omega) (by omega) (by rw [List.length_set]; omega)
theorem CT_L0 (o : List T30) (ho : ∀ x ∈ o, okvT kT30 x) (hol : o.length ≤ 50) : ∀ (n i k : Nat) (t : List T28), o.length - i = n → n + 400 < k → i ≤ o.length → RightT t → t.length ≤ 50 + i → feluccalaw06_ContactsTells_L0 k (o, true, t, (i : Int)) = some (.inl true)
  | 0, i, k + 1, t, h, hk, hi, hR, htl => by
    have : i = o.length := by omega
    subst this
    unfold feluccalaw06_ContactsTells_L0
    exact cond_f (by rw [i_lt, decide_eq_false (by omega)]) rfl
  | n + 1, i, k + 1, t, h, hk, _, hR, htl => by
    have hi : i < o.length := by omega
    have t1 : decide ((i : Int) < Int.ofNat o.length) = true := by rw [i_lt, decide_eq_true hi]
    have t2 : decide (0 ≤ (i : Int)) = true := decide_eq_true (Int.natCast_nonneg i)
    have ih := fun t hR htl => CT_L0 o ho hol n (i + 1) k t (by omega) (by omega) (by omega) hR htl
    have hx : okvT kT30 (o.getD i z30) := ho _ (by rw [List.getD_eq_getElem?_getD, List.getElem?_eq_getElem hi]; exact List.getElem_mem hi)
    have hcp := ref06_Copy_spec t k (by omega)
    have hst := ref06_Same_spec t t k (by omega) (by omega)
    rw [decide_eq_true rfl] at hst
    unfold feluccalaw06_ContactsTells_L0
    refine cond_t t1 (cond_t t2 (cond_t t1 ?_))
    obtain ⟨x, hxx⟩ : ∃ x : T30, x = o.getD i (0, 0, 0, 0, 0, 0, 0, 0) := ⟨_, rfl⟩
    rw [show o.getD i z30 = x from hxx.symm] at hx
    simp only [Int.toNat_natCast, ← hxx]
    have hrng := rng30 hx
    clear hxx hx
    obtain ⟨d, c1, c2, c3, c4, c5, c6, nn⟩ := x
    dsimp only
    unfold cOf at hrng
    dsimp only at hrng
    have hw := w64_succ (by omega : i < 4611686018427387904)
    have hi : True := trivial
    refine bind_s hcp ?_
    by_cases d1 : d = 1
    · subst d1
      refine cond_t rfl ?_
      have hsame := adds_same t (c1, c2, c3, c4, c5, c6) k (by omega) hrng hR.1 hR.sort (by omega)
      rcases Add_cases hR (by omega) (c1, c2, c3, c4, c5, c6) hrng k (by omega) with ⟨e, he, hA, _⟩ | ⟨r, hA, hR2, hcon, hid⟩
      · have hB := hsame.symm.trans hA
        have hfd := Find_spec t nn k (by omega) (by omega)
        have hfr := ref06_Find_spec t nn k (by omega) (by omega)
        have hsm := ref06_Same_spec t t k (by omega) (by omega)
        rw [decide_eq_true rfl] at hsm
        have hcm := ref06_Copy_spec t k (by omega)
        have hl := CT_L1 o true t (i : Int) t.length t 0 k (by omega) (by omega) (by omega)
        have hc1 := Compare_spec k (c1, c2, c3, c4, c5, c6) (findC t nn).1 (by omega)
        have hc2 := ref06_Compare_spec k (c1, c2, c3, c4, c5, c6) (findC t nn).1
        generalize findC t nn = w at *
        obtain ⟨⟨w1, w2, w3, w4, w5, w6⟩, wb⟩ := w
        cases wb <;> (repeat (first | refine bind_s hcp ?_ | refine bind_s hA ?_ | refine bind_s hB ?_ | refine bind_s hfd ?_ | refine bind_s hfr ?_ | refine bind_s hsm ?_ | refine bind_s hst ?_ | refine bind_s hi ?_ | refine bind_s hl ?_ | refine bind_s hc1 ?_ | refine bind_s hc2 ?_ | refine bind_s hcm ?_ | (refine cond_t ?_ ?_; focus (simp; done)) | (refine cond_f ?_ ?_; focus (simp; done)) | (dsimp only))) <;> (rw [hw]; exact ih t hR (by omega))
      · have hB := hsame.symm.trans hA
        have hlen : (insAt t r (c1, c2, c3, c4, c5, c6)).length = t.length + 1 := ins_len
        generalize insAt t r (c1, c2, c3, c4, c5, c6) = m at *
        have hfd := Find_spec m nn k (by omega) (by omega)
        have hfr := ref06_Find_spec m nn k (by omega) (by omega)
        have hsm := ref06_Same_spec m m k (by omega) (by omega)
        rw [decide_eq_true rfl] at hsm
        have hcm := ref06_Copy_spec m k (by omega)
        have hl := CT_L1 o true m (i : Int) m.length m 0 k (by omega) (by omega) (by omega)
        have hc1 := Compare_spec k (c1, c2, c3, c4, c5, c6) (findC m nn).1 (by omega)
        have hc2 := ref06_Compare_spec k (c1, c2, c3, c4, c5, c6) (findC m nn).1
        generalize findC m nn = w at *
        obtain ⟨⟨w1, w2, w3, w4, w5, w6⟩, wb⟩ := w
        cases wb <;> (repeat (first | refine bind_s hcp ?_ | refine bind_s hA ?_ | refine bind_s hB ?_ | refine bind_s hfd ?_ | refine bind_s hfr ?_ | refine bind_s hsm ?_ | refine bind_s hst ?_ | refine bind_s hi ?_ | refine bind_s hl ?_ | refine bind_s hc1 ?_ | refine bind_s hc2 ?_ | refine bind_s hcm ?_ | (refine cond_t ?_ ?_; focus (simp; done)) | (refine cond_f ?_ ?_; focus (simp; done)) | (dsimp only))) <;> (rw [hw]; exact ih m hR2 (by omega))
    · have d1' : decide (d = 1) = false := decide_eq_false d1
      refine cond_f d1' ?_
      by_cases d2 : d = 2
      · subst d2
        refine cond_t rfl ?_
        have hA := contacts_Delete_spec t nn k (by omega) (by omega)
        have hB := ref06_Delete_spec t nn k (by omega) (by omega)
        have hR2 := hR.filter (keepC nn)
        have hlen := List.length_filter_le (keepC nn) t
        generalize (if (t.filter (keepC nn)).length = t.length then (6 : Int) else 0) = e at *
        generalize t.filter (keepC nn) = m at *
        have hfd := Find_spec m nn k (by omega) (by omega)
        have hfr := ref06_Find_spec m nn k (by omega) (by omega)
        have hsm := ref06_Same_spec m m k (by omega) (by omega)
        rw [decide_eq_true rfl] at hsm
        have hcm := ref06_Copy_spec m k (by omega)
        have hl := CT_L1 o true m (i : Int) m.length m 0 k (by omega) (by omega) (by omega)
        have hc1 := Compare_spec k (c1, c2, c3, c4, c5, c6) (findC m nn).1 (by omega)
        have hc2 := ref06_Compare_spec k (c1, c2, c3, c4, c5, c6) (findC m nn).1
        generalize findC m nn = w at *
        obtain ⟨⟨w1, w2, w3, w4, w5, w6⟩, wb⟩ := w
        cases wb <;> (repeat (first | refine bind_s hcp ?_ | refine bind_s hA ?_ | refine bind_s hB ?_ | refine bind_s hfd ?_ | refine bind_s hfr ?_ | refine bind_s hsm ?_ | refine bind_s hst ?_ | refine bind_s hi ?_ | refine bind_s hl ?_ | refine bind_s hc1 ?_ | refine bind_s hc2 ?_ | refine bind_s hcm ?_ | (refine cond_t ?_ ?_; focus (simp; done)) | (refine cond_f ?_ ?_; focus (simp; done)) | (dsimp only))) <;> (rw [hw]; exact ih m hR2 (by omega))
      · have d2' : decide (d = 2) = false := decide_eq_false d2
        refine cond_f d2' ?_
        by_cases d3 : d = 3
        · subst d3
          refine cond_t rfl ?_
          have hA := contacts_Change_spec t nn c6 k (by omega) (by omega)
          have hB := ref06_Change_spec t nn c6 k (by omega) (by omega)
          have hmm : RightT (chgC t nn c6).1 ∧ (chgC t nn c6).1.length = t.length := by
            rcases Change_cases hR nn c6 with ⟨e, he, q2⟩ | ⟨j, hj, hj1, q2, hR2⟩
            · rw [q2]; exact ⟨hR, rfl⟩
            · rw [q2]; exact ⟨hR2, List.length_set ..⟩
          generalize chgC t nn c6 = q at *
          obtain ⟨m, e⟩ := q
          obtain ⟨hR2, hlen⟩ := hmm
          dsimp only at hR2 hlen
          have hfd := Find_spec m nn k (by omega) (by omega)
          have hfr := ref06_Find_spec m nn k (by omega) (by omega)
          have hsm := ref06_Same_spec m m k (by omega) (by omega)
          rw [decide_eq_true rfl] at hsm
          have hcm := ref06_Copy_spec m k (by omega)
          have hl := CT_L1 o true m (i : Int) m.length m 0 k (by omega) (by omega) (by omega)
          have hc1 := Compare_spec k (c1, c2, c3, c4, c5, c6) (findC m nn).1 (by omega)
          have hc2 := ref06_Compare_spec k (c1, c2, c3, c4, c5, c6) (findC m nn).1
          generalize findC m nn = w at *
          obtain ⟨⟨w1, w2, w3, w4, w5, w6⟩, wb⟩ := w
          cases wb <;> (repeat (first | refine bind_s hcp ?_ | refine bind_s hA ?_ | refine bind_s hB ?_ | refine bind_s hfd ?_ | refine bind_s hfr ?_ | refine bind_s hsm ?_ | refine bind_s hst ?_ | refine bind_s hi ?_ | refine bind_s hl ?_ | refine bind_s hc1 ?_ | refine bind_s hc2 ?_ | refine bind_s hcm ?_ | (refine cond_t ?_ ?_; focus (simp; done)) | (refine cond_f ?_ ?_; focus (simp; done)) | (dsimp only))) <;> (rw [hw]; exact ih m hR2 (by omega))
        · have d3' : decide (d = 3) = false := decide_eq_false d3
          refine cond_f d3' ?_
          have hA := Expire_spec t nn k (by omega) (by omega)
          have hB := ref06_Expire_spec t nn k (by omega) (by omega)
          have hR2 : RightT (leftC nn t) := hR.filter _
          have hlen := leftC_len nn t
          have hi := Ints_spec (sorted (goneC nn t)) (sorted (goneC nn t)) k (by rw [sorted_len]; have := goneC_len nn t; omega) (by rw [sorted_len]; have := goneC_len nn t; omega)
          rw [decide_eq_true rfl] at hi
          generalize sorted (goneC nn t) = g at *
          generalize leftC nn t = m at *
          have hfd := Find_spec m nn k (by omega) (by omega)
          have hfr := ref06_Find_spec m nn k (by omega) (by omega)
          have hsm := ref06_Same_spec m m k (by omega) (by omega)
          rw [decide_eq_true rfl] at hsm
          have hcm := ref06_Copy_spec m k (by omega)
          have hl := CT_L1 o true m (i : Int) m.length m 0 k (by omega) (by omega) (by omega)
          have hc1 := Compare_spec k (c1, c2, c3, c4, c5, c6) (findC m nn).1 (by omega)
          have hc2 := ref06_Compare_spec k (c1, c2, c3, c4, c5, c6) (findC m nn).1
          generalize findC m nn = w at *
          obtain ⟨⟨w1, w2, w3, w4, w5, w6⟩, wb⟩ := w
          cases wb <;> (repeat (first | refine bind_s hcp ?_ | refine bind_s hA ?_ | refine bind_s hB ?_ | refine bind_s hfd ?_ | refine bind_s hfr ?_ | refine bind_s hsm ?_ | refine bind_s hst ?_ | refine bind_s hi ?_ | refine bind_s hl ?_ | refine bind_s hc1 ?_ | refine bind_s hc2 ?_ | refine bind_s hcm ?_ | (refine cond_t ?_ ?_; focus (simp; done)) | (refine cond_f ?_ ?_; focus (simp; done)) | (dsimp only))) <;> (rw [hw]; exact ih m hR2 (by omega))
theorem ContactsTells_pure (l : List T28) (hr : ∀ c ∈ l, okvT kT28 c) (o : List T30) (ho : ∀ x ∈ o, okvT kT30 x) (b : List T28) : ∃ k, feluccalaw06_ContactsTells k (l, o, b) = some true := by
  refine ⟨600, ?_⟩
  unfold feluccalaw06_ContactsTells
  refine bind_s small_spec6 (cond_t rfl ?_)
  by_cases h1 : 50 < Int.ofNat l.length
  · exact cond_t (decide_eq_true h1) (cond_t (decide_eq_true h1) rfl)
  refine cond_f (decide_eq_false h1) ?_
  by_cases h2 : 50 < Int.ofNat o.length
  · exact cond_t (decide_eq_true h2) (cond_f (decide_eq_false h1) (cond_t (decide_eq_true h2) rfl))
  refine cond_f (decide_eq_false h2) ?_
  by_cases h3 : 50 < Int.ofNat b.length
  · exact cond_t (decide_eq_true h3) (cond_f (decide_eq_false h1) (cond_f (decide_eq_false h2) (cond_t (decide_eq_true h3) rfl)))
  refine cond_f (decide_eq_false h3) ?_
  rw [len_nat] at h1 h2
  have hA := Right_spec l 600 (by omega) (fun c hc => rng_of (hr c hc)) (by omega)
  have hB := refRight_spec l 600 (by omega) (by omega)
  have hC := Same_spec l b 600 (by omega) (by omega)
  have hD := ref06_Same_spec l b 600 (by omega) (by omega)
  generalize decide (l = b) = s at hC hD
  cases hb : rightB l with
  | false =>
    rw [hb] at hA hB
    cases s <;> (repeat (first | refine bind_s hA ?_ | refine bind_s hB ?_ | refine bind_s hC ?_ | refine bind_s hD ?_ | (refine cond_t ?_ ?_; focus (simp; done)) | (refine cond_f ?_ ?_; focus (simp; done)) | (dsimp only))) <;> rfl
  | true =>
    have hR := (rightB_iff.1 hb).1
    rw [hb] at hA hB
    have hL := CT_L0 o ho (by omega) o.length 0 600 l (by omega) (by omega) (by omega) hR (by omega)
    cases s <;> (repeat (first | refine bind_s hA ?_ | refine bind_s hB ?_ | refine bind_s hC ?_ | refine bind_s hD ?_ | refine bind_s hL ?_ | (refine cond_t ?_ ?_; focus (simp; done)) | (refine cond_f ?_ ?_; focus (simp; done)) | (dsimp only))) <;> rfl
end Go.Proofs.Ytggikacbelogcaa.Ex
