/- Layer 25: the laws ScriptTells, ScriptParts, ScriptOnes in plain words. -/
import Derived.Test.YtaknikdbnfmlfaaDoorSb
namespace Go.Proofs.YtaknikdbnfmlfaaDoor.Ex
open Go Go.RowKit Go.Lib Go.Proofs.YtaknikdbnfmlfaaDoor.Wrd Go.Proofs.YtaknikdbnfmlfaaDoor.Dig
set_option linter.unusedVariables false
set_option linter.unusedSimpArgs false
theorem ids_mkA (o : Int) (t : ByteArray) (d : GDirective) (n : Int) (ids : List Int) (c z a b e f g : Int) : idsA (mkA o t d n ids c z a b e f g) = ids := rfl
theorem ids_actB (x : T39) : (idsA (actB x)).length ≤ 2 := by
  unfold actB
  dsimp only
  split
  · simp [ids_mkA]
  split
  · simp [ids_mkA]
  split
  · simp [ids_mkA]
  split
  · rw [ids_mkA]; split <;> simp
  split
  · simp [ids_mkA]
  · simp [ids_mkA]
theorem ids_actsL : ∀ (n : Nat) (b : List Int), ∀ a ∈ actsL n b, (idsA a).length ≤ 2
  | 0, _, a, h => by cases h
  | n + 1, b, a, h => by
    rcases List.mem_cons.1 h with rfl | h
    · exact ids_actB _
    · exact ids_actsL n _ a h
theorem actsL_ok (n : Nat) (b : List Int) : IdsOk (actsL n b) := fun a h => by have := ids_actsL n b a h; omega
theorem tellsS_L0 (l : List GAct) (hl : l.length ≤ 1000) (b : List Int) (q : Int) (x : T39) : ∀ (n i k : Nat), i + n = l.length → n < k →
    feluccalaw25_ScriptTells_L0 k (b, l, q, x, true, (i : Int)) = some (.inr true) ∨ (feluccalaw25_ScriptTells_L0 k (b, l, q, x, true, (i : Int)) = some (.inl (b, l, q, x, true)) ∧ ∀ a ∈ l.drop i, (idsA a).length ≤ 50)
  | 0, i, k, h, hk => by
    obtain ⟨k, rfl⟩ : ∃ m, k = m + 1 := ⟨k - 1, by omega⟩
    right
    rw [feluccalaw25_ScriptTells_L0, lt_no (by omega), List.drop_eq_nil_of_le (by omega)]
    exact ⟨rfl, fun a ha => by cases ha⟩
  | n + 1, i, k, h, hk => by
    obtain ⟨k, rfl⟩ : ∃ m, k = m + 1 := ⟨k - 1, by omega⟩
    have hi : i < l.length := by omega
    have ih := tellsS_L0 l hl b q x n (i + 1) k (by omega) (by omega)
    rw [feluccalaw25_ScriptTells_L0, lt_yes hi, ge0, getD_nat _ _ hi, w64_succ (by omega), List.drop_eq_getElem_cons hi]
    simp only [cond_true]
    cases decide ((200 : Int) < Int.ofNat (ByteArray.size l[i].2.1)) with
    | true => exact .inl rfl
    | false =>
      by_cases hz : 50 < (idsA l[i]).length
      · rw [show decide ((50 : Int) < Int.ofNat (idsA l[i]).length) = true from decide_eq_true (by show (50 : Int) < ((idsA l[i]).length : Int); omega)]
        exact .inl rfl
      · rw [show decide ((50 : Int) < Int.ofNat (idsA l[i]).length) = false from decide_eq_false (by show ¬ (50 : Int) < ((idsA l[i]).length : Int); omega)]
        simp only [cond_false]
        rcases ih with h | ⟨h, h2⟩
        · exact .inl h
        · refine .inr ⟨h, fun a ha => ?_⟩
          rcases List.mem_cons.1 ha with rfl | ha
          · omega
          · exact h2 a ha
theorem ScriptTells_pure (b : List Int) (x : T39) (l : List GAct) (q : Int) (hb : BL b) (hx : X8 x) : ∃ k, feluccalaw25_ScriptTells k (b, x, l, q) = some true := by
  refine ⟨5000, ?_⟩
  unfold feluccalaw25_ScriptTells feluccalaw25_small
  simp only [Option.bind_some, cond_true]
  by_cases h1 : 500 < b.length
  · rw [show decide ((500 : Int) < Int.ofNat b.length) = true from decide_eq_true (by show (500 : Int) < (b.length : Int); omega), cond_true]
  rw [show decide ((500 : Int) < Int.ofNat b.length) = false from decide_eq_false (by show ¬ (500 : Int) < (b.length : Int); omega), cond_false]
  by_cases h2 : 50 < l.length
  · rw [show decide ((50 : Int) < Int.ofNat l.length) = true from decide_eq_true (by show (50 : Int) < (l.length : Int); omega), cond_true]
  rw [show decide ((50 : Int) < Int.ofNat l.length) = false from decide_eq_false (by show ¬ (50 : Int) < (l.length : Int); omega), cond_false]
  have hL := tellsS_L0 l (by omega) b q x l.length 0 5000 (by omega) (by omega)
  rw [show ((0 : Nat) : Int) = 0 from rfl, List.drop_zero] at hL
  rcases hL with h | ⟨h, hs⟩
  · rw [h]; rfl
  rw [h]
  have hn := actsL_len (b.length / 10) b
  have hok := actsL_ok (b.length / 10) b
  simp only [Option.bind_some, Acts_sp 5000 hb (by omega) (by omega), rActs_sp 5000 hb (by omega) (by omega), rSame_sp 5000 (actsL (b.length / 10) b) (actsL (b.length / 10) b) (by omega) hok (by omega), rSame_sp 5000 (actsL (b.length / 10) b) l (by omega) hok (by omega), Same_sp 5000 (actsL (b.length / 10) b) l (by omega) hok (by omega), Directive_sp 5000 hx, rDirective_sp 5000 hx, Count_sp 5000 (l := l) (by omega) q (by omega), rCount_sp 5000 (l := l) (by omega) q (by omega), sameB_refl, cond_true, decide_true, beq_self_eq_true, Bool.and_self]
  cases sameB (actsL (b.length / 10) b) l <;> rfl
theorem ScriptParts_pure (b : List Int) (q : Int) (hb : BL b) : ∃ k, feluccalaw25_ScriptParts k (b, q) = some true := by
  refine ⟨5000, ?_⟩
  unfold feluccalaw25_ScriptParts feluccalaw25_small
  simp only [Option.bind_some, cond_true]
  by_cases h1 : 500 < b.length
  · rw [show decide ((500 : Int) < Int.ofNat b.length) = true from decide_eq_true (by show (500 : Int) < (b.length : Int); omega), cond_true]
  rw [show decide ((500 : Int) < Int.ofNat b.length) = false from decide_eq_false (by show ¬ (500 : Int) < (b.length : Int); omega), cond_false]
  by_cases h2 : q < 0
  · rw [decide_eq_true h2, cond_true]
  rw [decide_eq_false h2, cond_false]
  have ed : w64 (Int.tdiv (Int.ofNat b.length) 10) = ((b.length / 10 : Nat) : Int) := by
    rw [show Int.ofNat b.length = (b.length : Int) from rfl, Int.tdiv_eq_ediv_of_nonneg (by omega), w64' ⟨by omega, by omega⟩]; omega
  have em : Int.tmod (Int.ofNat b.length) 10 = ((b.length % 10 : Nat) : Int) := by
    rw [show Int.ofNat b.length = (b.length : Int) from rfl, Int.tmod_eq_emod_of_nonneg (by omega)]; omega
  rw [ed, em]
  obtain ⟨m, rfl⟩ : ∃ m : Nat, q = (m : Int) := ⟨q.toNat, by omega⟩
  by_cases h3 : b.length / 10 < m
  · rw [decide_eq_true (by omega), cond_true]
  rw [decide_eq_false (by omega), cond_false]
  have e10 : w64 (10 * (m : Int)) = ((10 * m : Nat) : Int) := by rw [w64' ⟨by omega, by omega⟩]; omega
  have ht : (b.take (10 * m)).length = 10 * m := by rw [List.length_take]; omega
  have hd : (b.drop (10 * m)).length = b.length - 10 * m := List.length_drop
  have hA := Acts_sp 5000 hb (by omega) (by omega)
  have hT := Acts_sp 5000 (BL_take hb (10 * m)) (by omega) (by omega)
  have hD := Acts_sp 5000 (BL_drop hb (10 * m)) (by omega) (by omega)
  rw [ht, show 10 * m / 10 = m by omega, show 10 * m % 10 = 0 by omega] at hT
  rw [hd, show (b.length - 10 * m) / 10 = b.length / 10 - m by omega, show (b.length - 10 * m) % 10 = b.length % 10 by omega] at hD
  have hcut := actsL_cut m (b.length / 10) b (by omega) (by omega)
  have l1 := actsL_len (b.length / 10) b
  have l2 := actsL_len m (b.take (10 * m))
  have l3 := actsL_len (b.length / 10 - m) (b.drop (10 * m))
  rw [e10, ge0, show decide (((10 * m : Nat) : Int) ≤ Int.ofNat b.length) = true from lenge (by omega), Int.toNat_natCast, hA, hT, hD]
  simp only [Option.bind_some, cond_true]
  rw [l1, l2, l3, show decide (Int.ofNat (b.length / 10) = ((b.length / 10 : Nat) : Int)) = true from decide_eq_true rfl, decide_true, show decide ((((0 : Nat) : Int)) = 0) = true from rfl, decide_eq_true (by omega), decide_eq_true (by omega)]
  simp only [cond_true]
  rw [← hcut, Same_sp 5000 _ _ (by omega) (actsL_ok _ _) (by omega), sameB_refl]
  rfl
theorem BL_list10 {x : T39} (hx : X8 x) : BL (list10 x) := by
  obtain ⟨x0, x1, x2, x3, x4, x5, x6, x7, x8, x9⟩ := x
  obtain ⟨h0, h1, h2, h3, h4, h5, h6, h7, h8, h9⟩ := hx
  intro n hn
  simp only [list10, List.mem_cons, List.not_mem_nil, or_false] at hn
  rcases hn with rfl | rfl | rfl | rfl | rfl | rfl | rfl | rfl | rfl | rfl <;> assumption
theorem acts_one {x : T39} (hx : X8 x) : script_Acts 5000 (list10 x) = some ([actB x], 0) := by
  rw [Acts_sp 5000 (BL_list10 hx) (show (10 : Nat) ≤ 100000 by omega) (show (10 : Nat) + 61 < 5000 by omega), show (list10 x).length = 10 from rfl, show 10 / 10 = 1 from rfl, show 10 % 10 = 0 from rfl]
  rfl
theorem text_twice (d : GDirective) : textB [d, d] = textB [d] ++ textB [d] := by simp [textB, cat]
theorem ScriptOnes_pure (x : T39) (hx : X8 x) : ∃ k, feluccalaw25_ScriptOnes k x = some true := by
  refine ⟨5000, ?_⟩
  have hA := acts_one hx
  have hD := Directive_sp 5000 hx
  have hP : text_Print 5000 [dirB x] = some (bif dR (dirB x) then (ofL (textB [dirB x]), true) else (ofL [], false)) := by
    rw [text_Print_sp 5000 (by simp) (fun d h => by simp at h; rw [h]; exact dirB_64 hx) (by simp), printT_eq]; simp
  have hlo : loadB x = if dR (dirB x) = true then ofL (textB (timesB x)) else ⟨#[120, 10]⟩ := rfl
  have hti : timesB x = if x.2.2.2.2.2.2.2.2.1 % 2 = 1 then [dirB x, dirB x] else [dirB x] := rfl
  have hsz : dR (dirB x) = true → (textB [dirB x]).length ≤ 1000 := fun h => by have := textB_len [dirB x] (fun d hd => by simp at hd; rw [hd]; exact h); simp at this; omega
  have h0 : B8 x.1 := by obtain ⟨x0, x1, x2, x3, x4, x5, x6, x7, x8, x9⟩ := x; exact hx.1
  have h8 : B8 x.2.2.2.2.2.2.2.2.1 := by obtain ⟨x0, x1, x2, x3, x4, x5, x6, x7, x8, x9⟩ := x; exact hx.2.2.2.2.2.2.2.2.1
  unfold feluccalaw25_ScriptOnes feluccalaw25_small
  simp only [Option.bind_some, cond_true]
  refine (congrArg (fun o => Option.bind o _) hA).trans ?_
  simp only [Option.bind_some, hD, hP, List.length_cons, List.length_nil]
  rw [show decide (Int.ofNat (0 + 1) = 1) = true from rfl, decide_true, show decide ((0 : Int) < Int.ofNat (0 + 1)) = true from rfl, show Int.toNat 0 = 0 from rfl, w8 h0, t8 h0, t8 h8, w64' (n := 1 + x.1 % 7) ⟨by omega, by omega⟩]
  simp only [Bool.not_true, cond_false, cond_true, List.getD_cons_zero]
  have hc : x.1 % 7 = 0 ∨ x.1 % 7 = 1 ∨ x.1 % 7 = 2 ∨ x.1 % 7 = 3 ∨ x.1 % 7 = 4 ∨ x.1 % 7 = 5 ∨ x.1 % 7 = 6 := by omega
  rcases hc with hc | hc | hc | hc | hc | hc | hc
  · have ha : actB x = mkA 1 (loadB x) d0 0 [] 0 0 0 0 0 0 0 := by simp [actB, hc]
    have h8' : x.2.2.2.2.2.2.2.2.1 % 2 = 0 ∨ x.2.2.2.2.2.2.2.2.1 % 2 = 1 := by omega
    rw [ha, hlo, hti]
    cases hr : dR (dirB x) with
    | false => simp [mkA]
    | true =>
      have hz := hsz hr
      rcases h8' with h8' | h8'
      · simp [mkA, h8']
      · have e2 : decide ((ofL (textB [dirB x])).size + (ofL (textB [dirB x])).size ≤ 9223372036854775807) = true := decide_eq_true (by rw [ofL_size]; omega)
        simp only [cond_true, e2, h8', mkA, if_true, text_twice, ofL_append]
        cases ((ofL (textB [dirB x] ++ textB [dirB x])).data.toList == (ofL (textB [dirB x])).data.toList) <;> simp
  · have ha : actB x = mkA 2 ⟨#[]⟩ (dirB x) 0 [] 0 0 0 0 0 0 0 := by simp [actB, hc]
    rw [ha]
    cases dR (dirB x) <;> simp [mkA]
  · have ha : actB x = mkA 3 ⟨#[]⟩ d0 x.2.1 [] 0 0 0 0 0 0 0 := by simp [actB, hc]
    rw [ha]
    cases dR (dirB x) <;> simp [mkA, hc]
  · have ha : actB x = mkA 4 ⟨#[]⟩ d0 0 (if x.2.2.1 % 2 = 1 then [1 + x.2.1 % 16, 1 + x.2.2.2.1 % 16] else [1 + x.2.1 % 16]) (x.2.2.2.2.1 % 4) x.2.2.2.2.2.1 0 0 0 0 0 := by simp [actB, hc]
    rw [ha]
    cases dR (dirB x) <;> simp [mkA, hc]
  · have ha : actB x = mkA 5 ⟨#[]⟩ d0 0 (if x.2.2.1 % 2 = 1 then [1 + x.2.1 % 16, 1 + x.2.2.2.1 % 16] else [1 + x.2.1 % 16]) (x.2.2.2.2.1 % 4) x.2.2.2.2.2.1 0 0 0 0 0 := by simp [actB, hc]
    rw [ha]
    cases dR (dirB x) <;> simp [mkA, hc]
  · have ha : actB x = mkA 6 ⟨#[]⟩ d0 0 [] 0 0 (1 + x.2.1 % 4) (1 + x.2.2.1 % 4) x.2.2.2.1 (x.2.2.2.2.1 % 3) (4 * x.2.2.2.2.2.1) := by simp [actB, hc]
    rw [ha]
    cases dR (dirB x) <;> simp [mkA, hc]
  · have ha : actB x = mkA 7 ⟨#[]⟩ d0 (x.2.2.2.1 % 10) [] 0 0 (1 + x.2.1 % 4) (1 + x.2.2.1 % 4) 0 0 0 := by simp [actB, hc]
    rw [ha]
    cases dR (dirB x) <;> simp [mkA, hc]
end Go.Proofs.YtaknikdbnfmlfaaDoor.Ex
