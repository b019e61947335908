/- The statement on contacts that what is right stays right, in plain words. -/
import Derived.Test.YtggikacbelogcaaPg
namespace Go.Proofs.Ytggikacbelogcaa.Ex
open Go
set_option linter.unusedVariables false
set_option linter.unusedSimpArgs false
theorem small_spec6 : feluccalaw06_small 600 () = some true := by
  have e1 : contacts_Expire 600 ([(5, 1, 2, 10, 20, 3), (4, 1, 2, 20, 30, 1)], 20) = some ([(4, 1, 2, 20, 30, 1)], [5]) := by
    rw [contacts_Expire_spec _ _ _ (by decide) (by decide)]
    have : sorted (goneC 20 [(5, 1, 2, 10, 20, 3), (4, 1, 2, 20, 30, 1)]) = [5] := by
      show sorted [5] = [5]
      unfold sorted
      rw [List.mergeSort_singleton]
    rw [this]
    rfl
  unfold feluccalaw06_small
  refine bind_s (v := ([(5, 1, 2, 10, 20, 3), (4, 1, 2, 20, 30, 1)], 0)) (by kernel_rfl) ?_
  refine bind_s (v := ([(5, 1, 2, 10, 20, 3), (4, 1, 2, 20, 30, 1)], 5)) (by kernel_rfl) ?_
  refine bind_s (v := ([(5, 1, 2, 10, 20, 3), (4, 1, 2, 20, 30, 1)], 4)) (by kernel_rfl) ?_
  refine bind_s (v := ([(5, 1, 2, 10, 20, 9), (4, 1, 2, 20, 30, 1)], 0)) (by kernel_rfl) ?_
  refine bind_s (v := ([(4, 1, 2, 20, 30, 1)], 0)) (by kernel_rfl) ?_
  refine bind_s (v := ([(4, 1, 2, 20, 30, 1)], 6)) (by kernel_rfl) ?_
  refine bind_s e1 ?_
  kernel_rfl
abbrev z30 : T30 := (0, 0, 0, 0, 0, 0, 0, 0)
def cOf (x : T30) : T28 := (x.2.1, x.2.2.1, x.2.2.2.1, x.2.2.2.2.1, x.2.2.2.2.2.1, x.2.2.2.2.2.2.1)
theorem rng30 {x : T30} (h : okvT kT30 x) : rngC (cOf x) := by
  simp only [okvT, SK.okv, Lit.wf, Bool.and_eq_true, decide_eq_true_eq] at h
  unfold rngC cOf
  have e1 : IntKind.i64.min = -9223372036854775808 := by decide
  have e2 : IntKind.i64.max = 9223372036854775807 := by decide
  simp only
  omega
theorem filter_one {l : List T28} (h : l.Pairwise fun a b => a.1 ≠ b.1) {id : Int} (hm : ∃ c ∈ l, c.1 = id) : (l.filter (keepC id)).length + 1 = l.length := by
  induction l with
  | nil => obtain ⟨c, hc, _⟩ := hm; cases hc
  | cons x l ih =>
    rw [List.pairwise_cons] at h
    by_cases hx : x.1 = id
    · have : ∀ y ∈ l, keepC id y = true := fun y hy => by
        have := h.1 y hy
        unfold keepC
        simp only [Bool.not_eq_true', decide_eq_false_iff_not]
        omega
      rw [List.filter_cons, if_neg (by unfold keepC; simp [hx]), List.filter_eq_self.2 this, List.length_cons]
    · rw [List.filter_cons, if_pos (by unfold keepC; simp [hx]), List.length_cons, List.length_cons]
      obtain ⟨c, hc, e⟩ := hm
      rcases List.mem_cons.1 hc with rfl | hc
      · exact absurd e hx
      · rw [ih h.2 ⟨c, hc, e⟩]
theorem CR_L1 (t m : List T28) (o : List T30) (a : Bool) (y id : Int) (ht : t.length ≤ 1000) (hm : m.length ≤ 1000) (hf : ∀ c ∈ t, c.1 ≠ id → findC m c.1 = (c, true)) : ∀ (n j k : Nat), t.length - j = n → n + m.length < k → j ≤ t.length → feluccalaw06_ContactsRight_L1 k (t, o, a, y, id, m, (j : Int)) = some (.inl (o, a, y, m))
  | 0, j, k + 1, h, hk, hj => by
    have : j = t.length := by omega
    subst this
    simp only [feluccalaw06_ContactsRight_L1]
    exact cond_f (by rw [i_lt, decide_eq_false (by omega)]) rfl
  | n + 1, j, k + 1, h, hk, _ => by
    have hj : j < t.length := by omega
    have t1 : decide ((j : Int) < Int.ofNat t.length) = true := by rw [i_lt, decide_eq_true hj]
    have t2 : decide (0 ≤ (j : Int)) = true := decide_eq_true (Int.natCast_nonneg j)
    have ih := CR_L1 t m o a y id ht hm hf n (j + 1) k (by omega) (by omega) (by omega)
    have hc : t.getD j z28 ∈ t := by rw [getD_get hj]; exact List.getElem_mem hj
    have hf' := hf _ hc
    simp only [feluccalaw06_ContactsRight_L1, t1, t2, cond_true, Int.toNat_natCast, w64_succ (by omega : j < 4611686018427387904), ih]
    by_cases e : (t.getD j z28).1 = id
    · exact cond_t (decide_eq_true e) rfl
    · refine cond_f (decide_eq_false e) (bind_s ((Find_spec m _ k (by omega) (by omega)).trans (congrArg some (hf' e))) ?_)
      refine cond_t rfl (cond_f ?_ rfl)
      rw [eq6, decide_eq_true rfl]; rfl
theorem CR_L0 (o : List T30) (ho : ∀ x ∈ o, okvT kT30 x) (hol : o.length ≤ 50) : ∀ (n i k : Nat) (t : List T28), o.length - i = n → n + 400 < k → i ≤ o.length → RightT t → t.length ≤ 50 + i → feluccalaw06_ContactsRight_L0 k (t, o, true, (i : Int)) = some (.inl true)
  | 0, i, k + 1, t, h, hk, hi, hR, htl => by
    have : i = o.length := by omega
    subst this
    unfold feluccalaw06_ContactsRight_L0
    exact cond_f (by rw [i_lt, decide_eq_false (by omega)]) rfl
  | n + 1, i, k + 1, t, h, hk, _, hR, htl => by
    have hi : i < o.length := by omega
    have t1 : decide ((i : Int) < Int.ofNat o.length) = true := by rw [i_lt, decide_eq_true hi]
    have t2 : decide (0 ≤ (i : Int)) = true := decide_eq_true (Int.natCast_nonneg i)
    have ih := fun t hR htl => CR_L0 o ho hol n (i + 1) k t (by omega) (by omega) (by omega) hR htl
    have hx : okvT kT30 (o.getD i z30) := ho _ (by rw [List.getD_eq_getElem?_getD, List.getElem?_eq_getElem hi]; exact List.getElem_mem hi)
    have hL1 := fun (m : List T28) id (hm : m.length ≤ 1000) hf hk => CR_L1 t m o true (i : Int) id (by omega) hm hf t.length 0 k (by omega) hk (by omega)
    have hT := Right_true (k := k) hR (by omega) (by omega)
    unfold feluccalaw06_ContactsRight_L0
    refine cond_t t1 (cond_t t2 (cond_t t1 ?_))
    obtain ⟨x, hxx⟩ : ∃ x : T30, x = o.getD i (0, 0, 0, 0, 0, 0, 0, 0) := ⟨_, rfl⟩
    rw [show o.getD i z30 = x from hxx.symm] at hx
    simp only [Int.toNat_natCast, ← hxx, w64_succ (by omega : i < 4611686018427387904)]
    have hrng := rng30 hx
    clear hxx hx
    obtain ⟨d, c1, c2, c3, c4, c5, c6, nn⟩ := x
    dsimp only
    unfold cOf at hrng
    dsimp only at hrng
    have hw := w64_succ (by omega : i < 4611686018427387904)
    by_cases d1 : d = 1
    · subst d1
      refine cond_t rfl ?_
      rcases Add_cases hR (by omega) (c1, c2, c3, c4, c5, c6) hrng k (by omega) with ⟨e, he, ha, _⟩ | ⟨r, ha, hR2, hcon, hid⟩
      · have he' : decide (e = 0) = false := decide_eq_false he
        have hfd := Find_spec t c1 k (by omega) (by omega)
        have hsm := Same_spec t t k (by omega) (by omega)
        rw [decide_eq_true rfl] at hsm
        have hl := hL1 t c1 (by omega) (fun c hc _ => findC_mem hR.ids hc) (by omega)
        generalize findC t c1 = w at hfd
        obtain ⟨⟨w1, w2, w3, w4, w5, w6⟩, wb⟩ := w
        cases wb <;> (repeat (first | refine bind_s ha ?_ | refine bind_s hfd ?_ | refine bind_s hT ?_ | refine bind_s hsm ?_ | refine bind_s hl ?_ | (refine cond_t ?_ ?_; focus (simp [he']; done)) | (refine cond_f ?_ ?_; focus (simp [he']; done)) | (dsimp only))) <;> (rw [hw]; exact ih t hR (by omega))
      · have hlen : (insAt t r (c1, c2, c3, c4, c5, c6)).length = t.length + 1 := ins_len
        have hfd := (Find_spec t c1 k (by omega) (by omega)).trans (congrArg some (findC_none hid))
        have hfm := (Find_spec (insAt t r (c1, c2, c3, c4, c5, c6)) c1 k (by omega) (by omega)).trans (congrArg some (findC_mem hR2.ids (ins_mem.2 (.inl rfl))))
        have hT2 := Right_true (k := k) hR2 (by omega) (by omega)
        have hl := hL1 (insAt t r (c1, c2, c3, c4, c5, c6)) c1 (by omega) (fun c hc _ => findC_mem hR2.ids (ins_mem.2 (.inr hc))) (by omega)
        have hwl : (!decide (Int.ofNat (insAt t r (c1, c2, c3, c4, c5, c6)).length = w64 (Int.ofNat t.length + 1))) = false := congrArg (!·) (decide_eq_true (by rw [len_nat, len_nat, w64_id (by omega) (by omega)]; omega))
        generalize insAt t r (c1, c2, c3, c4, c5, c6) = m at *
        (repeat (first | refine bind_s ha ?_ | refine bind_s hfd ?_ | refine bind_s hfm ?_ | refine bind_s hT2 ?_ | refine bind_s hl ?_ | refine cond_f hwl ?_ | (refine cond_t ?_ ?_; focus (simp; done)) | (refine cond_f ?_ ?_; focus (simp; done)) | (dsimp only)))
        rw [hw]; exact ih m hR2 (by omega)
    · have d1' : decide (d = 1) = false := decide_eq_false d1
      refine cond_f d1' ?_
      by_cases d2 : d = 2
      · subst d2
        refine cond_t rfl ?_
        have hD := contacts_Delete_spec t nn k (by omega) (by omega)
        have hRf := hR.filter (keepC nn)
        rcases Delete_cases t nn with ⟨q1, q2⟩ | q1
        · rw [if_pos q1, q2] at hD
          have hfd := Find_spec t nn k (by omega) (by omega)
          have hsm := Same_spec t t k (by omega) (by omega)
          rw [decide_eq_true rfl] at hsm
          have hl := hL1 t nn (by omega) (fun c hc _ => findC_mem hR.ids hc) (by omega)
          generalize findC t nn = w at hfd
          obtain ⟨⟨w1, w2, w3, w4, w5, w6⟩, wb⟩ := w
          cases wb <;> (repeat (first | refine bind_s hD ?_ | refine bind_s hfd ?_ | refine bind_s hT ?_ | refine bind_s hsm ?_ | refine bind_s hl ?_ | (refine cond_t ?_ ?_; focus (simp []; done)) | (refine cond_f ?_ ?_; focus (simp []; done)) | (dsimp only))) <;> (rw [hw]; exact ih t hR (by omega))
        · rw [if_neg (by omega)] at hD
          have hex : ∃ c ∈ t, c.1 = nn := by
            refine Classical.byContradiction fun hne => ?_
            have : t.filter (keepC nn) = t := List.filter_eq_self.2 fun c hc => by
              unfold keepC
              simp only [Bool.not_eq_true', decide_eq_false_iff_not]
              exact fun e => hne ⟨c, hc, e⟩
            rw [this] at q1; omega
          have hlen := filter_one hR.ids hex
          obtain ⟨c0, hc0, e0⟩ := hex
          have hfd := (Find_spec t nn k (by omega) (by omega)).trans (congrArg some (show findC t nn = (c0, true) from e0 ▸ findC_mem hR.ids hc0))
          have hfm := (Find_spec (t.filter (keepC nn)) nn k (by omega) (by omega)).trans (congrArg some (findC_none (fun c hc => by
            have := (List.mem_filter.1 hc).2
            unfold keepC at this
            simpa using this)))
          have hT2 := Right_true (k := k) hRf (by omega) (by omega)
          have hl := hL1 (t.filter (keepC nn)) nn (by omega) (fun c hc hne => findC_mem hRf.ids (List.mem_filter.2 ⟨hc, by unfold keepC; simp [hne]⟩)) (by omega)
          have hwl : (!decide (Int.ofNat (t.filter (keepC nn)).length = w64 (Int.ofNat t.length - 1))) = false := congrArg (!·) (decide_eq_true (by rw [len_nat, len_nat, w64_id (by omega) (by omega)]; omega))
          generalize t.filter (keepC nn) = m at *
          (repeat (first | refine bind_s hD ?_ | refine bind_s hfd ?_ | refine bind_s hfm ?_ | refine bind_s hT2 ?_ | refine bind_s hl ?_ | refine cond_f hwl ?_ | (refine cond_t ?_ ?_; focus (simp; done)) | (refine cond_f ?_ ?_; focus (simp; done)) | (dsimp only)))
          rw [hw]; exact ih m hRf (by omega)
      · have d2' : decide (d = 2) = false := decide_eq_false d2
        refine cond_f d2' ?_
        by_cases d3 : d = 3
        · subst d3
          refine cond_t rfl ?_
          have hC := contacts_Change_spec t nn c6 k (by omega) (by omega)
          rcases Change_cases hR nn c6 with ⟨e, he, q2⟩ | ⟨j, hj, hj1, q2, hR2⟩
          · rw [q2] at hC
            have he' : decide (e = 0) = false := decide_eq_false he
            have hfd := Find_spec t nn k (by omega) (by omega)
            have hsm := Same_spec t t k (by omega) (by omega)
            rw [decide_eq_true rfl] at hsm
            have hl := hL1 t nn (by omega) (fun c hc _ => findC_mem hR.ids hc) (by omega)
            generalize findC t nn = w at hfd
            obtain ⟨⟨w1, w2, w3, w4, w5, w6⟩, wb⟩ := w
            cases wb <;> (repeat (first | refine bind_s hC ?_ | refine bind_s hfd ?_ | refine bind_s hT ?_ | refine bind_s hsm ?_ | refine bind_s hl ?_ | (refine cond_t ?_ ?_; focus (simp [he']; done)) | (refine cond_f ?_ ?_; focus (simp [he']; done)) | (dsimp only))) <;> (rw [hw]; exact ih t hR (by omega))
          · rw [q2] at hC
            have hlen : (t.set j (rated t[j] c6)).length = t.length := List.length_set ..
            have hfd := (Find_spec t nn k (by omega) (by omega)).trans (congrArg some (show findC t nn = (t[j], true) from hj1 ▸ findC_mem hR.ids (List.getElem_mem hj)))
            have hm1 : rated t[j] c6 ∈ t.set j (rated t[j] c6) := List.mem_iff_getElem.2 ⟨j, by omega, by rw [List.getElem_set_self]⟩
            have hfm := (Find_spec (t.set j (rated t[j] c6)) nn k (by omega) (by omega)).trans (congrArg some (show findC (t.set j (rated t[j] c6)) nn = (rated t[j] c6, true) from (show (rated t[j] c6).1 = nn from hj1) ▸ findC_mem hR2.ids hm1))
            have hT2 := Right_true (k := k) hR2 (by omega) (by omega)
            have hl := hL1 (t.set j (rated t[j] c6)) nn (by omega) (fun c hc hne => findC_mem hR2.ids (by
              obtain ⟨q, hq, rfl⟩ := List.mem_iff_getElem.1 hc
              have hqj : j ≠ q := fun e => by subst e; exact hne hj1
              exact List.mem_iff_getElem.2 ⟨q, by omega, by rw [List.getElem_set_ne hqj]⟩)) (by omega)
            have hwl : (!decide (Int.ofNat (t.set j (rated t[j] c6)).length = Int.ofNat t.length)) = false := congrArg (!·) (decide_eq_true (by rw [hlen]))
            generalize t.set j (rated t[j] c6) = m at *
            (repeat (first | refine bind_s hC ?_ | refine bind_s hfd ?_ | refine bind_s hfm ?_ | refine bind_s hT2 ?_ | refine bind_s hl ?_ | refine cond_f hwl ?_ | (refine cond_t ?_ ?_; focus (simp [rated]; done)) | (refine cond_f ?_ ?_; focus (simp [rated]; done)) | (dsimp only)))
            rw [hw]; exact ih m hR2 (by omega)
        · have d3' : decide (d = 3) = false := decide_eq_false d3
          refine cond_f d3' ?_
          have hE := Expire_spec t nn k (by omega) (by omega)
          have hRf : RightT (leftC nn t) := hR.filter _
          have hl1 := leftC_len nn t
          have hT2 := Right_true (k := k) hRf (by omega) (by omega)
          have hg := gone_len nn t
          have hwl : (!decide (w64 (Int.ofNat (leftC nn t).length + Int.ofNat (sorted (goneC nn t)).length) = Int.ofNat t.length)) = false := congrArg (!·) (decide_eq_true (by rw [len_nat, len_nat, len_nat, sorted_len, w64_id (by omega) (by omega)]; omega))
          (repeat (first | refine bind_s hE ?_ | refine bind_s hT2 ?_ | refine cond_f hwl ?_ | (refine cond_t ?_ ?_; focus (simp; done)) | (refine cond_f ?_ ?_; focus (simp; done)) | (dsimp only)))
          first | (rw [hw]; exact ih _ hRf (by omega)) | exact ih _ hRf (by omega)
theorem ContactsRight_pure (l : List T28) (hr : ∀ c ∈ l, okvT kT28 c) (o : List T30) (ho : ∀ x ∈ o, okvT kT30 x) : ∃ k, feluccalaw06_ContactsRight k (l, o) = some true := by
  refine ⟨600, ?_⟩
  unfold feluccalaw06_ContactsRight
  refine bind_s small_spec6 (cond_t rfl ?_)
  by_cases h50 : 50 < Int.ofNat l.length
  · exact cond_t (decide_eq_true h50) rfl
  refine cond_f (decide_eq_false h50) ?_
  by_cases h51 : 50 < Int.ofNat o.length
  · exact cond_t (decide_eq_true h51) rfl
  refine cond_f (decide_eq_false h51) ?_
  rw [len_nat] at h50 h51
  refine bind_s (Right_spec l 600 (by omega) (fun c hc => rng_of (hr c hc)) (by omega)) ?_
  cases hb : rightB l with
  | false => rfl
  | true =>
    have hR := (rightB_iff.1 hb).1
    refine cond_t rfl (bind_s (CR_L0 o ho (by omega) o.length 0 600 l (by omega) (by omega) (by omega) hR (by omega)) ?_)
    rfl
end Go.Proofs.Ytggikacbelogcaa.Ex
