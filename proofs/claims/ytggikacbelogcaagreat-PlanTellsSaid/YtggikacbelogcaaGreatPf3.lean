/- Tables of contacts: what is right, in plain words; what becomes of it. -/
import Derived.Test.YtggikacbelogcaaGreatPe3
namespace Go.Proofs.YtggikacbelogcaaGreat.Ex
open Go
set_option linter.unusedVariables false
set_option linter.unusedSimpArgs false
theorem rng_of {c : T33} (h : okvT kT33 c) : rngC c := by
  simp only [okvT, SK.okv, Lit.wf, Bool.and_eq_true, decide_eq_true_eq] at h
  unfold rngC
  have e1 : IntKind.i64.min = -9223372036854775808 := by decide
  have e2 : IntKind.i64.max = 9223372036854775807 := by decide
  omega
def RR (a b : T33) : Prop := cmpC a b < 0 ∧ a.1 ≠ b.1 ∧ (a.2.1 = b.2.1 → a.2.2.1 = b.2.2.1 → a.2.2.2.2.1 ≤ b.2.2.2.1)
def RightT (l : List T33) : Prop := (∀ c ∈ l, conB c = true) ∧ l.Pairwise RR
theorem getD_get {l : List T33} {i : Nat} (h : i < l.length) : l.getD i z28 = l[i] := by rw [List.getD_eq_getElem?_getD, List.getElem?_eq_getElem h]; rfl
theorem right_iff (l : List T33) : chkR l l.length 0 = true ↔ RightT l := by
  rw [chkR_all]
  constructor
  · intro h
    have h' : ∀ q, q < l.length → okAt l q = true := fun q hq => h q (Nat.zero_le _) (by omega)
    refine ⟨fun c hc => ?_, ?_⟩
    · obtain ⟨q, hq, rfl⟩ := List.mem_iff_getElem.1 hc
      have := h' q hq
      unfold okAt at this
      simp only [Bool.and_eq_true] at this
      rw [getD_get hq] at this
      exact this.1
    · rw [List.pairwise_iff_getElem]
      intro i j hi hj hij
      obtain ⟨p1, p2⟩ := right_pairs (Nat.le_refl _) h' j hj i hij
      rw [getD_get hi, getD_get hj] at p1 p2
      refine ⟨p1, fun e => ?_, p2⟩
      have := h' j hj
      unfold okAt at this
      simp only [Bool.and_eq_true, Bool.not_eq_true', decide_eq_false_iff_not] at this
      refine this.2.1 ((mem_take_ids (by omega) _).2 ⟨i, hij, ?_⟩)
      rw [getD_get hi, getD_get hj]
      exact e
  · rintro ⟨h1, h2⟩ q _ hq
    have hq : q < l.length := by omega
    rw [List.pairwise_iff_getElem] at h2
    unfold okAt
    simp only [Bool.and_eq_true, Bool.not_eq_true', decide_eq_false_iff_not]
    refine ⟨by rw [getD_get hq]; exact h1 _ (List.getElem_mem hq), fun hm => ?_, ?_⟩
    · obtain ⟨j, hj, e⟩ := (mem_take_ids (by omega) _).1 hm
      rw [getD_get (by omega), getD_get hq] at e
      exact (h2 j q (by omega) hq hj).2.1 e
    · by_cases h0 : 0 < q
      · rw [decide_eq_true h0]
        simp only [cond_true, Bool.and_eq_true, decide_eq_true_eq, Bool.not_eq_true']
        have hq1 : q - 1 < l.length := by omega
        rw [getD_get hq1, getD_get hq]
        obtain ⟨a1, a2, a3⟩ := h2 (q - 1) q hq1 hq (by omega)
        refine ⟨a1, ?_⟩
        rw [ov_iff (h1 _ (List.getElem_mem hq1)) (h1 _ (List.getElem_mem hq)), ovR_false]
        rintro ⟨b1, b2, b3, b4⟩
        have := a3 b1 b2
        omega
      · rw [decide_eq_false h0]; rfl
theorem RightT.sort {l : List T33} (h : RightT l) : ∀ i j, i < j → j < l.length → cmpC (l.getD i z28) (l.getD j z28) < 0 := fun i j hij hj => by
  have := (List.pairwise_iff_getElem.1 h.2) i j (by omega) hj hij
  rw [getD_get (by omega), getD_get hj]
  exact this.1
theorem RightT.rng {l : List T33} (h : RightT l) : ∀ c ∈ l, rngC c := fun c hc => by
  have := h.1 c hc
  unfold conB spanB at this
  simp only [Bool.and_eq_true, decide_eq_true_eq] at this
  unfold rngC
  omega
def rightB (l : List T33) : Bool := chkR l l.length 0 && decide (l.length ≤ 4096)
theorem Right_spec (l : List T33) (k : Nat) (hs : l.length ≤ 1000000000) (hr : ∀ c ∈ l, rngC c) (hk : l.length + 5 < k) : contacts_Right k l = some (rightB l) := contacts_Right_spec0 l k hs hr hk
theorem refRight_spec (l : List T33) (k : Nat) (hs : l.length ≤ 1000000000) (hk : 2 * l.length < k) : feluccaref06_Right k l = some (rightB l) := by
  rw [ref06_Right_spec0 l k hs hk, ← chk_same]; rfl
theorem rightB_true {l : List T33} (h : RightT l) (hl : l.length ≤ 4096) : rightB l = true := by
  unfold rightB; rw [(right_iff l).2 h, decide_eq_true hl]; rfl
theorem rightB_iff {l : List T33} : rightB l = true ↔ RightT l ∧ l.length ≤ 4096 := by
  unfold rightB; rw [Bool.and_eq_true, right_iff, decide_eq_true_eq]
theorem Right_true {l : List T33} {k : Nat} (h : RightT l) (hl : l.length ≤ 4096) (hk : l.length + 5 < k) : contacts_Right k l = some true := by
  rw [Right_spec l k (by omega) h.rng hk, rightB_true h hl]
/-! ### what is found -/
theorem RightT.ids {l : List T33} (h : RightT l) : l.Pairwise fun a b => a.1 ≠ b.1 := h.2.imp fun h => h.2.1
theorem findC_mem {l : List T33} (h : l.Pairwise fun a b => a.1 ≠ b.1) {c : T33} (hc : c ∈ l) : findC l c.1 = (c, true) := by
  induction l with
  | nil => cases hc
  | cons x l ih =>
    rw [List.pairwise_cons] at h
    unfold findC
    rw [List.find?_cons]
    rcases List.mem_cons.1 hc with rfl | hc
    · rw [decide_eq_true rfl]
    · rw [decide_eq_false (h.1 c hc)]
      exact ih h.2 hc
theorem findC_none {l : List T33} {id : Int} (h : ∀ c ∈ l, c.1 ≠ id) : findC l id = (z28, false) := by
  unfold findC
  rw [List.find?_eq_none.2 (fun c hc => by simpa using h c hc)]
theorem findC_some {l : List T33} {id : Int} (h : (findC l id).2 = true) : (findC l id).1 ∈ l ∧ (findC l id).1.1 = id := by
  unfold findC at h ⊢
  cases hf : l.find? (fun c => decide (c.1 = id)) with
  | none => rw [hf] at h; cases h
  | some c =>
    exact ⟨List.mem_of_find?_eq_some hf, by have := List.find?_some hf; simpa using this⟩
theorem findC_false {l : List T33} {id : Int} (h : (findC l id).2 = false) : findC l id = (z28, false) ∧ ∀ c ∈ l, c.1 ≠ id := by
  unfold findC at h ⊢
  cases hf : l.find? (fun c => decide (c.1 = id)) with
  | none => exact ⟨rfl, fun c hc e => by have := List.find?_eq_none.1 hf c hc; simp at this; exact this e⟩
  | some c => rw [hf] at h; cases h
/-! ### what becomes of a table -/
theorem RightT.filter {l : List T33} (h : RightT l) (p : T33 → Bool) : RightT (l.filter p) := ⟨fun c hc => h.1 c (List.mem_filter.1 hc).1, h.2.filter p⟩
theorem RightT.nil : RightT [] := ⟨fun c hc => (by cases hc), List.Pairwise.nil⟩
theorem cmp_rated (a b : T33) (r : Int) : cmpC (rated a r) b = cmpC a b ∧ cmpC b (rated a r) = cmpC b a := ⟨rfl, rfl⟩
theorem con_rated {c : T33} (h : conB c = true) {r : Int} (hr : 1 ≤ r ∧ r ≤ 2147483647) : conB (rated c r) = true := by
  unfold conB rated at *
  simp only [Bool.and_eq_true, decide_eq_true_eq] at h ⊢
  exact ⟨h.1, hr⟩
theorem RightT.set {l : List T33} (h : RightT l) {j : Nat} (hj : j < l.length) {r : Int} (hr : 1 ≤ r ∧ r ≤ 2147483647) : RightT (l.set j (rated l[j] r)) := by
  constructor
  · intro c hc
    rcases List.mem_or_eq_of_mem_set hc with h1 | rfl
    · exact h.1 c h1
    · exact con_rated (h.1 _ (List.getElem_mem hj)) hr
  · have h2 := List.pairwise_iff_getElem.1 h.2
    rw [List.pairwise_iff_getElem]
    intro p q hp hq hpq
    rw [List.length_set] at hp hq
    have := h2 p q hp hq hpq
    rw [List.getElem_set, List.getElem_set]
    split
    · rename_i e
      subst e
      rw [if_neg (by omega)]
      exact this
    · split
      · rename_i e
        subst e
        exact this
      · exact this
theorem ins_mem {l : List T33} {r : Nat} {c x : T33} : x ∈ insAt l r c ↔ x = c ∨ x ∈ l := by
  unfold insAt
  rw [List.mem_append, List.mem_cons]
  have : x ∈ l ↔ x ∈ l.take r ∨ x ∈ l.drop r := by rw [← List.mem_append, List.take_append_drop]
  rw [this]
  constructor
  · rintro (h | h | h)
    · exact .inr (.inl h)
    · exact .inl h
    · exact .inr (.inr h)
  · rintro (h | h | h)
    · exact .inr (.inl h)
    · exact .inl h
    · exact .inr (.inr h)
theorem ins_len {l : List T33} {r : Nat} {c : T33} : (insAt l r c).length = l.length + 1 := by
  unfold insAt
  rw [List.length_append, List.length_cons, List.length_take, List.length_drop]; omega
theorem ins_filter {l : List T33} {r : Nat} {c : T33} (h : ∀ x ∈ l, x.1 ≠ c.1) : (insAt l r c).filter (keepC c.1) = l := by
  have hk : ∀ x ∈ l, keepC c.1 x = true := fun x hx => by unfold keepC; simp [h x hx]
  unfold insAt
  rw [List.filter_append, List.filter_cons, if_neg (by unfold keepC; simp), List.filter_eq_self.2 (fun x hx => hk x (List.mem_of_mem_take hx)), List.filter_eq_self.2 (fun x hx => hk x (List.mem_of_mem_drop hx)), List.take_append_drop]
theorem RightT.ins {l : List T33} (h : RightT l) {r : Nat} {c : T33} (hr : r ≤ l.length) (h1 : ∀ q, q < r → cmpC (l.getD q z28) c < 0) (h2 : ∀ q, r ≤ q → q < l.length → 0 ≤ cmpC (l.getD q z28) c) (hc : conB c = true) (hid : ∀ x ∈ l, x.1 ≠ c.1) (hov : ∀ x ∈ l, ovB x c = false) : RightT (insAt l r c) := by
  constructor
  · intro x hx
    rcases ins_mem.1 hx with rfl | hx
    · exact hc
    · exact h.1 x hx
  · unfold insAt
    have hp := h.2
    rw [← List.take_append_drop r l] at hp
    rw [List.pairwise_append] at hp
    obtain ⟨p1, p2, p3⟩ := hp
    have t1 : ∀ x ∈ l.take r, cmpC x c < 0 := fun x hx => by
      obtain ⟨q, hq, rfl⟩ := List.mem_iff_getElem.1 hx
      have hq' : q < r := by rw [List.length_take] at hq; omega
      have := h1 q hq'
      rw [getD_get (by omega)] at this
      rw [List.getElem_take]
      exact this
    have t2 : ∀ x ∈ l.drop r, 0 ≤ cmpC x c := fun x hx => by
      obtain ⟨q, hq, rfl⟩ := List.mem_iff_getElem.1 hx
      have hq' : r + q < l.length := by rw [List.length_drop] at hq; omega
      have := h2 (r + q) (by omega) hq'
      rw [getD_get hq'] at this
      rw [List.getElem_drop]
      exact this
    have sc := con_span hc
    have o1 : ∀ x ∈ l.take r, RR x c := fun x hx => by
      have hm := List.mem_of_mem_take hx
      have hlt := t1 x hx
      refine ⟨hlt, hid x hm, fun e1 e2 => ?_⟩
      have := hov x hm
      rw [ov_iff (h.1 x hm) hc, ovR_false] at this
      rw [cmp_lt_iff] at hlt
      have sx := con_span (h.1 x hm)
      omega
    have o2 : ∀ x ∈ l.drop r, RR c x := fun x hx => by
      have hm := List.mem_of_mem_drop hx
      have hge := t2 x hx
      have hid' := hid x hm
      have hlt : cmpC c x < 0 := by
        rw [cmp_neg]
        have hne : cmpC x c ≠ 0 := fun e => by
          have h3 : ¬ cmpC x c < 0 := by omega
          have h4 : ¬ cmpC c x < 0 := by rw [cmp_neg]; omega
          rw [cmp_lt_iff] at h3 h4
          omega
        omega
      refine ⟨hlt, fun e => hid' e.symm, fun e1 e2 => ?_⟩
      have := hov x hm
      rw [ov_iff (h.1 x hm) hc, ovR_false] at this
      rw [cmp_lt_iff] at hlt
      have sx := con_span (h.1 x hm)
      omega
    rw [List.pairwise_append, List.pairwise_cons]
    refine ⟨p1, ⟨o2, p2⟩, fun a ha b hb => ?_⟩
    rcases List.mem_cons.1 hb with rfl | hb
    · exact o1 a ha
    · exact p3 a ha b hb
/-- What Add does to a table that is right. -/
theorem Add_cases {l : List T33} (h : RightT l) (hl : l.length ≤ 4000) (c : T33) (hc : rngC c) (k : Nat) (hk : l.length + 6 < k) :
    (∃ e, e ≠ 0 ∧ contacts_Add k (l, c) = some (l, e) ∧ ((∃ x ∈ l, x.1 = c.1) → conB c = true → e = 4)) ∨ ∃ r, contacts_Add k (l, c) = some (insAt l r c, 0) ∧ RightT (insAt l r c) ∧ conB c = true ∧ ∀ x ∈ l, x.1 ≠ c.1 := by
  obtain ⟨r, r1, r2, r3, r4⟩ := contacts_Add_spec l c k (by omega) hc h.sort hk
  rw [r4]
  unfold AddR
  cases hb : conB c with
  | false => rw [if_pos rfl]; exact .inl ⟨1, by decide, rfl, fun _ h => by cases h⟩
  | true =>
    rw [if_neg (by simp), if_neg (by omega)]
    cases hi : l.any (fun x => decide (x.1 = c.1)) with
    | true => rw [if_pos rfl]; exact .inl ⟨4, by decide, rfl, fun _ _ => rfl⟩
    | false =>
      have hid : ∀ x ∈ l, x.1 ≠ c.1 := fun x hx e => by
        have := List.any_eq_false.1 hi x hx
        simp at this
        exact this e
      rw [if_neg (by simp)]
      cases ho : l.any (fun x => ovB x c) with
      | true => rw [if_pos rfl]; exact .inl ⟨5, by decide, rfl, fun ⟨x, hx, e⟩ _ => absurd e (hid x hx)⟩
      | false =>
        have hov : ∀ x ∈ l, ovB x c = false := fun x hx => by
          have := List.any_eq_false.1 ho x hx
          simpa using this
        rw [if_neg (by simp)]
        exact .inr ⟨r, rfl, h.ins r1 r2 r3 hb hid hov, rfl, hid⟩
/-- What Change does. -/
theorem Change_cases {l : List T33} (h : RightT l) (id rate : Int) :
    (∃ e, e ≠ 0 ∧ chgC l id rate = (l, e)) ∨ ∃ j, ∃ hj : j < l.length, l[j].1 = id ∧ chgC l id rate = (l.set j (rated l[j] rate), 0) ∧ RightT (l.set j (rated l[j] rate)) := by
  unfold chgC
  split
  · exact .inl ⟨1, by decide, rfl⟩
  · rename_i hr
    cases hf : l.findIdx? (fun c => decide (c.1 = id)) with
    | none => exact .inl ⟨6, by decide, rfl⟩
    | some j =>
      obtain ⟨hj, h1, h2⟩ := List.findIdx?_eq_some_iff_getElem.1 hf
      refine .inr ⟨j, hj, by simpa using h1, ?_, h.set hj (by omega)⟩
      have e : l.getD j (0, 0, 0, 0, 0, 0) = l[j] := getD_get hj
      simp only [e]
theorem Delete_cases (l : List T33) (id : Int) : ((l.filter (keepC id)).length = l.length ∧ l.filter (keepC id) = l) ∨ ((l.filter (keepC id)).length < l.length) := by
  rcases Nat.lt_or_ge (l.filter (keepC id)).length l.length with h | h
  · exact .inr h
  · have := Nat.le_antisymm (List.length_filter_le _ _) h
    exact .inl ⟨this, List.length_filter_eq_length_iff.1 this |> List.filter_eq_self.2⟩
end Go.Proofs.YtggikacbelogcaaGreat.Ex
