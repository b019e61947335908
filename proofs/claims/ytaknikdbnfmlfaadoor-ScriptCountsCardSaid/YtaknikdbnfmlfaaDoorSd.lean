/- Layer 25: the law ScriptCounts in plain words. -/
import Derived.Test.YtaknikdbnfmlfaaDoorSk
namespace Go.Proofs.YtaknikdbnfmlfaaDoor.Ex
open Go Go.RowKit Go.Lib Go.Proofs.YtaknikdbnfmlfaaDoor.Wrd Go.Proofs.YtaknikdbnfmlfaaDoor.Dig
set_option linter.unusedVariables false
set_option linter.unusedSimpArgs false
/-- What an act's text says: one or two directives, or a fault in its first line, if it loads; nothing else. -/
def goodA (a : GAct) : Prop := 1 ≤ a.1 ∧ a.1 ≤ 7 ∧ a.2.1.size ≤ 1000 ∧
  ((a.1 = 1 ∧ (parseT a.2.1.data.toList).2.2 = 0 ∧ 1 ≤ (parseT a.2.1.data.toList).1.length ∧ (parseT a.2.1.data.toList).1.length ≤ 2) ∨ (a.1 = 1 ∧ (parseT a.2.1.data.toList).2.2 ≠ 0 ∧ (parseT a.2.1.data.toList).2.1 = 1) ∨ (a.1 ≠ 1 ∧ a.2.1 = ⟨#[]⟩))
theorem parse_empty : (parseT (⟨#[]⟩ : ByteArray).data.toList).2.2 = 0 := by kernel_rfl
theorem parse_x : (parseT (⟨#[120, 10]⟩ : ByteArray).data.toList).2 = (1, 2) := by kernel_rfl
theorem good_load {x : T39} : (loadB x).size ≤ 1000 ∧ (((parseT (loadB x).data.toList).2.2 = 0 ∧ 1 ≤ (parseT (loadB x).data.toList).1.length ∧ (parseT (loadB x).data.toList).1.length ≤ 2) ∨ ((parseT (loadB x).data.toList).2.2 ≠ 0 ∧ (parseT (loadB x).data.toList).2.1 = 1)) := by
  unfold loadB
  split
  · rename_i h
    have hr : ∀ d ∈ timesB x, dR d = true := by
      intro d hd
      unfold timesB at hd
      split at hd <;> simp at hd <;> rw [hd] <;> exact h
    have hl : 1 ≤ (timesB x).length ∧ (timesB x).length ≤ 2 := by unfold timesB; split <;> simp
    have hlen := textB_len _ hr
    have : (timesB x).length * 171 ≤ 2 * 171 := Nat.mul_le_mul_right _ hl.2
    refine ⟨by rw [ofL_size]; omega, .inl ?_⟩
    rw [data_ofL, parse_text _ hr]
    exact ⟨rfl, hl.1, hl.2⟩
  · refine ⟨by decide, .inr ?_⟩
    rw [parse_x]
    exact ⟨by decide, rfl⟩
theorem good_plain {o : Int} (h1 : 1 < o) (h2 : o ≤ 7) (d : GDirective) (n : Int) (ids : List Int) (c z a b e f g : Int) : goodA (mkA o ⟨#[]⟩ d n ids c z a b e f g) :=
  ⟨by show 1 ≤ o; omega, h2, by show (⟨#[]⟩ : ByteArray).size ≤ 1000; decide, .inr (.inr ⟨by show o ≠ 1; omega, rfl⟩)⟩
theorem good_actB {x : T39} (hx : X8 x) : goodA (actB x) := by
  have hc : x.1 % 7 = 0 ∨ x.1 % 7 = 1 ∨ x.1 % 7 = 2 ∨ x.1 % 7 = 3 ∨ x.1 % 7 = 4 ∨ x.1 % 7 = 5 ∨ x.1 % 7 = 6 := by omega
  rcases hc with hc | hc | hc | hc | hc | hc | hc
  · rw [show actB x = mkA 1 (loadB x) d0 0 [] 0 0 0 0 0 0 0 by simp [actB, hc]]
    obtain ⟨g1, g2⟩ := good_load (x := x)
    refine ⟨by show (1 : Int) ≤ 1; omega, by show (1 : Int) ≤ 7; omega, g1, ?_⟩
    rcases g2 with g2 | g2
    · exact .inl ⟨rfl, g2⟩
    · exact .inr (.inl ⟨rfl, g2⟩)
  · rw [show actB x = mkA 2 ⟨#[]⟩ (dirB x) 0 [] 0 0 0 0 0 0 0 by simp [actB, hc]]
    exact good_plain (by omega) (by omega) _ _ _ _ _ _ _ _ _ _
  · rw [show actB x = mkA 3 ⟨#[]⟩ d0 x.2.1 [] 0 0 0 0 0 0 0 by simp [actB, hc]]
    exact good_plain (by omega) (by omega) _ _ _ _ _ _ _ _ _ _
  · rw [show actB x = mkA 4 ⟨#[]⟩ d0 0 (if x.2.2.1 % 2 = 1 then [1 + x.2.1 % 16, 1 + x.2.2.2.1 % 16] else [1 + x.2.1 % 16]) (x.2.2.2.2.1 % 4) x.2.2.2.2.2.1 0 0 0 0 0 by simp [actB, hc]]
    exact good_plain (by omega) (by omega) _ _ _ _ _ _ _ _ _ _
  · rw [show actB x = mkA 5 ⟨#[]⟩ d0 0 (if x.2.2.1 % 2 = 1 then [1 + x.2.1 % 16, 1 + x.2.2.2.1 % 16] else [1 + x.2.1 % 16]) (x.2.2.2.2.1 % 4) x.2.2.2.2.2.1 0 0 0 0 0 by simp [actB, hc]]
    exact good_plain (by omega) (by omega) _ _ _ _ _ _ _ _ _ _
  · rw [show actB x = mkA 6 ⟨#[]⟩ d0 0 [] 0 0 (1 + x.2.1 % 4) (1 + x.2.2.1 % 4) x.2.2.2.1 (x.2.2.2.2.1 % 3) (4 * x.2.2.2.2.2.1) by simp [actB, hc]]
    exact good_plain (by omega) (by omega) _ _ _ _ _ _ _ _ _ _
  · rw [show actB x = mkA 7 ⟨#[]⟩ d0 (x.2.2.2.1 % 10) [] 0 0 (1 + x.2.1 % 4) (1 + x.2.2.1 % 4) 0 0 0 by simp [actB, hc]]
    exact good_plain (by omega) (by omega) _ _ _ _ _ _ _ _ _ _
theorem good_actsL : ∀ (n : Nat) (b : List Int), 10 * n ≤ b.length → BL b → ∀ a ∈ actsL n b, goodA a
  | 0, _, _, _, a, h => by cases h
  | n + 1, b, hl, hb, a, h => by
    rcases List.mem_cons.1 h with rfl | h
    · exact good_actB (tup10_x8 hb (by omega))
    · exact good_actsL n _ (by rw [List.length_drop]; omega) (BL_drop hb 10) a h
theorem cnt_zero : ∀ (l : List GAct), (∀ a ∈ l, goodA a) → cntA 0 l = 0
  | [], _ => rfl
  | a :: r, h => by
    have h1 := (h a List.mem_cons_self).1
    rw [cntA, cnt_zero r (fun b hb => h b (List.mem_cons_of_mem _ hb)), if_neg (by omega)]
theorem cnt_all : ∀ (l : List GAct), (∀ a ∈ l, goodA a) → cntA 1 l + cntA 2 l + cntA 3 l + cntA 4 l + cntA 5 l + cntA 6 l + cntA 7 l = l.length
  | [], _ => rfl
  | a :: r, h => by
    have h1 := (h a List.mem_cons_self).1
    have h2 := (h a List.mem_cons_self).2.1
    have ih := cnt_all r (fun b hb => h b (List.mem_cons_of_mem _ hb))
    have hc : a.1 = 1 ∨ a.1 = 2 ∨ a.1 = 3 ∨ a.1 = 4 ∨ a.1 = 5 ∨ a.1 = 6 ∨ a.1 = 7 := by omega
    simp only [cntA, List.length_cons]
    rcases hc with hc | hc | hc | hc | hc | hc | hc <;> simp only [hc] <;> simp <;> omega
theorem counts_L0 (l : List GAct) (hl : l.length ≤ 1000) (k : Nat) (hk : l.length < k) : feluccalaw25_ScriptCounts_L0 (k + 8) (true, l, 0, 1) = some (.inl (true, l, ((cntA 1 l + cntA 2 l + cntA 3 l + cntA 4 l + cntA 5 l + cntA 6 l + cntA 7 l : Nat) : Int))) := by
  have c : ∀ q, cntA q l ≤ l.length := fun q => cntA_le q l
  have c1 := c 1
  have c2 := c 2
  have c3 := c 3
  have c4 := c 4
  have c5 := c 5
  have c6 := c 6
  have c7 := c 7
  have add : ∀ (a b : Nat), a ≤ 7000 → b ≤ 1000 → w64 ((a : Int) + (b : Int)) = ((a + b : Nat) : Int) := fun a b h1 h2 => by rw [w64' ⟨by omega, by omega⟩]; omega
  have st : ∀ (j : Nat) (n : Nat) (q : Int), q ≤ 7 → n ≤ 7000 → l.length < j → feluccalaw25_ScriptCounts_L0 (j + 1) (true, l, (n : Int), q) = feluccalaw25_ScriptCounts_L0 j (true, l, ((n + cntA q l : Nat) : Int), w64 (q + 1)) := fun j n q hq hn hj => by
    rw [feluccalaw25_ScriptCounts_L0, decide_eq_true hq, cond_true, Count_sp j (by omega) q hj]
    simp only [Option.bind_some]
    rw [add n _ hn (by have := c q; omega)]
  rw [show (0 : Int) = ((0 : Nat) : Int) from rfl, st (k + 7) 0 1 (by omega) (by omega) (by omega), e11, st (k + 6) _ 2 (by omega) (by omega) (by omega), e21, st (k + 5) _ 3 (by omega) (by omega) (by omega), e31, st (k + 4) _ 4 (by omega) (by omega) (by omega), e41, st (k + 3) _ 5 (by omega) (by omega) (by omega), e51, st (k + 2) _ 6 (by omega) (by omega) (by omega), e61, st (k + 1) _ 7 (by omega) (by omega) (by omega), e71, Nat.zero_add]
  rfl
theorem counts_L1 (l : List GAct) (hl : l.length ≤ 1000) (hg : ∀ a ∈ l, goodA a) (q : Int) : ∀ (n i k : Nat), i + n = l.length → n + 1010 < k → feluccalaw25_ScriptCounts_L1 k (true, l, q, (i : Int)) = some (.inl (true, l, q))
  | 0, i, k, h, hk => by
    obtain ⟨k, rfl⟩ : ∃ m, k = m + 1 := ⟨k - 1, by omega⟩
    rw [feluccalaw25_ScriptCounts_L1, lt_no (by omega)]; rfl
  | n + 1, i, k, h, hk => by
    obtain ⟨k, rfl⟩ : ∃ m, k = m + 1 := ⟨k - 1, by omega⟩
    have hi : i < l.length := by omega
    obtain ⟨g1, g2, g3, g4⟩ := hg _ (List.getElem_mem hi)
    have ih := counts_L1 l hl hg q n (i + 1) k (by omega) (by omega)
    rw [feluccalaw25_ScriptCounts_L1, lt_yes hi, ge0, getD_nat _ _ hi, w64_succ (by omega), ih, text_Parse_sp k (by omega) (by omega)]
    simp only [cond_true, Option.bind_some]
    generalize hp : parseT l[i].2.1.data.toList = p at g4
    rcases g4 with ⟨h1, h2, h3, h4⟩ | ⟨h1, h2, h3⟩ | ⟨h1, h2⟩
    · rw [decide_eq_true h1, decide_eq_true h2, show decide (Int.ofNat p.1.length < 1) = false from decide_eq_false (by show ¬ ((p.1.length : Int) < 1); omega), show decide ((2 : Int) < Int.ofNat p.1.length) = false from decide_eq_false (by show ¬ ((2 : Int) < (p.1.length : Int)); omega)]
      rfl
    · rw [decide_eq_true h1, decide_eq_false h2, decide_eq_true h3]
      rfl
    · rw [h2] at hp ⊢
      have h3 : p.2.2 = 0 := by rw [← hp]; exact parse_empty
      rw [decide_eq_false h1, decide_eq_true h3]
      rfl
theorem ScriptCounts_pure (b : List Int) (hb : BL b) : ∃ k, feluccalaw25_ScriptCounts k b = some true := by
  refine ⟨5000, ?_⟩
  unfold feluccalaw25_ScriptCounts feluccalaw25_small
  simp only [Option.bind_some, cond_true]
  by_cases h1 : 500 < b.length
  · rw [show decide ((500 : Int) < Int.ofNat b.length) = true from decide_eq_true (by show (500 : Int) < (b.length : Int); omega), cond_true]
  rw [show decide ((500 : Int) < Int.ofNat b.length) = false from decide_eq_false (by show ¬ (500 : Int) < (b.length : Int); omega), cond_false]
  have hn := actsL_len (b.length / 10) b
  have hok := actsL_ok (b.length / 10) b
  have hg := good_actsL (b.length / 10) b (by omega) hb
  have hL0 := counts_L0 (actsL (b.length / 10) b) (by omega) 4992 (by omega)
  have hL1 := counts_L1 (actsL (b.length / 10) b) (by omega) hg ((b.length / 10 : Nat) : Int) (actsL (b.length / 10) b).length 0 5000 (by omega) (by omega)
  rw [show ((0 : Nat) : Int) = 0 from rfl] at hL1
  rw [cnt_all _ hg, hn] at hL0
  simp only [Acts_sp 5000 hb (by omega) (by omega), Option.bind_some, show (5000 : Nat) = 4992 + 8 from rfl]
  rw [hL0]
  simp only [Option.bind_some, show (4992 : Nat) + 8 = 5000 from rfl]
  rw [hL1]
  simp only [Option.bind_some, cond_true, Count_sp 5000 (l := actsL (b.length / 10) b) (by omega) 0 (by omega), cnt_zero _ hg, Same_sp 5000 _ _ (show (actsL (b.length / 10) b).length ≤ 100000 by omega) hok (by omega), sameB_refl, hn]
  rw [show decide (((b.length / 10 : Nat) : Int) = Int.ofNat (b.length / 10)) = true from decide_eq_true rfl]
  rfl
end Go.Proofs.YtaknikdbnfmlfaaDoor.Ex
