/- The document's answers on texts in plain words: ref05; the laws DirectTells and TextTells. -/
import Derived.Test.YtaknikdbnfmlfaaDoorTh
namespace Go.Proofs.YtaknikdbnfmlfaaDoor.Ex
open Go Go.RowKit Go.Lib Go.Proofs.YtaknikdbnfmlfaaDoor.Wrd Go.Proofs.YtaknikdbnfmlfaaDoor.Dig
set_option linter.unusedVariables false
set_option linter.unusedSimpArgs false
theorem rpar_L0 (M : List (List UInt8)) (hM : M.length ≤ 10000) (hs : ∀ x ∈ M, x.length ≤ 4000) : ∀ (n i k : Nat) (out : List GDirective), i + n = M.length → n + 110150 < k → out.length ≤ i →
    feluccaref05_Parse_L0 k ((0, 0), M.map ofL, out, (i : Int)) = some (parseS (rowsF ((i + 1 : Nat) : Int) (M.drop i)) out)
  | 0, i, k, out, h, hk, ho => by
    obtain ⟨k, rfl⟩ : ∃ m, k = m + 1 := ⟨k - 1, by omega⟩
    rw [feluccaref05_Parse_L0, lt_no (by rw [List.length_map]; omega), List.drop_eq_nil_of_le (by omega)]
    rfl
  | n + 1, i, k, out, h, hk, ho => by
    obtain ⟨k, rfl⟩ : ∃ m, k = m + 1 := ⟨k - 1, by omega⟩
    have hi : i < M.length := by omega
    have hi' : i < (M.map ofL).length := by rw [List.length_map]; exact hi
    have hx := hs M[i] (List.getElem_mem hi)
    have hwl := words_len M[i]
    have hws : ∀ a ∈ (wordsL M[i]).map ofL, a.size ≤ 100000 := fun a ha => by
      obtain ⟨y, hy, rfl⟩ := List.mem_map.1 ha
      have := words_size M[i] y hy
      rw [ofL_size]; omega
    rw [feluccaref05_Parse_L0, lt_yes hi', ge0, getD_nat _ _ hi', List.getElem_map, rWords_of k (by omega) (by omega), w64_succ (by omega), List.drop_eq_getElem_cons hi]
    simp only [cond_true, Option.bind_some, rowsF]
    rw [rParse_sp k (by rw [List.length_map]; omega) hws (by omega)]
    have ih := fun o ho => rpar_L0 M hM hs n (i + 1) k o (by omega) (by omega) ho
    cases hw : wordsL M[i] with
    | nil =>
      simp only [List.map_nil, List.length_nil, List.isEmpty_nil, cond_true]
      rw [show decide (Int.ofNat 0 = (0 : Int)) = true from rfl, cond_true, ih out (by omega), show (((i + 1 : Nat) : Int) + 1) = ((i + 1 + 1 : Nat) : Int) by omega]
    | cons w ws =>
      simp only [List.map_cons, List.length_cons, List.isEmpty_cons, cond_false, Option.bind_some, parseS]
      rw [show decide (Int.ofNat ((ws.map ofL).length + 1) = (0 : Int)) = false from decide_eq_false (by simp <;> omega), cond_false]
      cases hd : decide ((parseB (ofL w :: ws.map ofL)).2 = 0) with
      | false => rfl
      | true =>
        simp only [Bool.not_true, cond_false, cond_true]
        rw [decide_eq_true (by simp; omega), cond_true, ih _ (by simp; omega), show (((i + 1 : Nat) : Int) + 1) = ((i + 1 + 1 : Nat) : Int) by omega]
theorem rTextParse_sp (k : Nat) {s : ByteArray} (hs : s.size ≤ 3000) (hk : 130000 ≤ k) : feluccaref05_Parse k s = some (parseT s.data.toList) := by
  have e := size_list s
  have h1 := lines_len s.data.toList
  unfold feluccaref05_Parse
  rw [rLines_sp k (by omega) (by omega), Option.bind_some]
  have h := rpar_L0 (linesL s.data.toList) (by omega) (fun x hx => by have := lines_each _ x hx; omega) (linesL s.data.toList).length 0 k [] (by omega) (by omega) (by simp)
  rw [show ((0 : Nat) : Int) = 0 from rfl, List.drop_zero] at h
  rw [h]
  unfold parseT parseR rowsT
  simp only [Option.bind_some]
  rw [show ((0 + 1 : Nat) : Int) = 1 from rfl]
  rcases parseS (rowsF 1 (linesL s.data.toList)) [] with o | o <;> rfl
theorem rpri_L0 (l : List GDirective) (hl : l.length ≤ 10000) : ∀ (n i k : Nat) (b : List UInt8), i + n = l.length → n + 30 < k → b.length ≤ i * 170 →
    feluccaref05_Print_L0 k (l, ofL b, (i : Int)) = some (printS (l.drop i) b)
  | 0, i, k, b, h, hk, ho => by
    obtain ⟨k, rfl⟩ : ∃ m, k = m + 1 := ⟨k - 1, by omega⟩
    rw [feluccaref05_Print_L0, lt_no (by omega), List.drop_eq_nil_of_le (by omega)]
    rfl
  | n + 1, i, k, b, h, hk, ho => by
    obtain ⟨k, rfl⟩ : ∃ m, k = m + 1 := ⟨k - 1, by omega⟩
    have hi : i < l.length := by omega
    rw [feluccaref05_Print_L0, lt_yes hi, ge0, getD_nat _ _ hi, rwords_sp k _ (by omega), w64_succ (by omega), List.drop_eq_getElem_cons hi]
    simp only [cond_true, Option.bind_some, printS]
    cases hr : dR l[i] with
    | false => rfl
    | true =>
      obtain ⟨h1, h2⟩ := wordsB_size hr
      have hln := lineB_len hr
      simp only [cond_true]
      rw [rLine_sp k (by omega) (fun x hx => by have := h2 x hx; omega) (by omega)]
      simp only [Option.bind_some]
      rw [show jnB (wordsB l[i]) ++ [10] = lineB l[i] from rfl, decide_eq_true (by rw [ofL_size, ofL_size]; omega), cond_true, ofL_append, rpri_L0 l hl n (i + 1) k _ (by omega) (by omega) (by simp; omega)]
theorem rTextPrint_sp (k : Nat) {l : List GDirective} (hl : l.length ≤ 10000) (hk : l.length + 30 < k) : feluccaref05_Print k l = some (printT l) := by
  unfold feluccaref05_Print
  have h := rpri_L0 l hl l.length 0 k [] (by omega) hk (by simp)
  rw [show ofL [] = (⟨#[]⟩ : ByteArray) from rfl, show ((0 : Nat) : Int) = 0 from rfl, List.drop_zero] at h
  rw [h, Option.bind_some]
  unfold printT
  cases printS l [] <;> rfl
theorem rlin_L0 (M : List (List UInt8)) (hM : M.length ≤ 10000) (hs : ∀ x ∈ M, x.length ≤ 4000) : ∀ (n i k : Nat) (out : List Int), i + n = M.length → n + 5000 < k → out.length ≤ i →
    feluccaref05_Lines_L0 k (M.map ofL, out, (i : Int)) = some (.inl (out ++ (rowsF ((i + 1 : Nat) : Int) (M.drop i)).map (·.1)))
  | 0, i, k, out, h, hk, ho => by
    obtain ⟨k, rfl⟩ : ∃ m, k = m + 1 := ⟨k - 1, by omega⟩
    rw [feluccaref05_Lines_L0, lt_no (by rw [List.length_map]; omega), List.drop_eq_nil_of_le (by omega)]
    simp [rowsF]
  | n + 1, i, k, out, h, hk, ho => by
    obtain ⟨k, rfl⟩ : ∃ m, k = m + 1 := ⟨k - 1, by omega⟩
    have hi : i < M.length := by omega
    have hi' : i < (M.map ofL).length := by rw [List.length_map]; exact hi
    have hx := hs M[i] (List.getElem_mem hi)
    rw [feluccaref05_Lines_L0, lt_yes hi', ge0, getD_nat _ _ hi', List.getElem_map, rWords_of k (by omega) (by omega), w64_succ (by omega), List.drop_eq_getElem_cons hi]
    simp only [cond_true, Option.bind_some, rowsF]
    have ih := fun o ho => rlin_L0 M hM hs n (i + 1) k o (by omega) (by omega) ho
    cases hw : wordsL M[i] with
    | nil =>
      simp only [List.map_nil, List.length_nil, List.isEmpty_nil, cond_true]
      rw [show decide ((0 : Int) < Int.ofNat 0) = false from rfl, cond_false, ih out (by omega), show (((i + 1 : Nat) : Int) + 1) = ((i + 1 + 1 : Nat) : Int) by omega]
    | cons w ws =>
      simp only [List.map_cons, List.length_cons, List.isEmpty_cons, cond_false]
      rw [show decide ((0 : Int) < Int.ofNat ((ws.map ofL).length + 1)) = true from decide_eq_true (by simp <;> omega), cond_true, decide_eq_true (by simp <;> omega), cond_true, ih _ (by simp; omega), show (((i + 1 : Nat) : Int) + 1) = ((i + 1 + 1 : Nat) : Int) by omega]
      simp
theorem rTextLines_sp (k : Nat) {s : ByteArray} (hs : s.size ≤ 3000) (hk : 130000 ≤ k) : feluccaref05_Lines k s = some ((rowsT s.data.toList).map (·.1)) := by
  have e := size_list s
  have h1 := lines_len s.data.toList
  unfold feluccaref05_Lines
  rw [rLines_sp k (by omega) (by omega), Option.bind_some]
  have h := rlin_L0 (linesL s.data.toList) (by omega) (fun x hx => by have := lines_each _ x hx; omega) (linesL s.data.toList).length 0 k [] (by omega) (by omega) (by simp)
  rw [show ((0 : Nat) : Int) = 0 from rfl, List.drop_zero] at h
  rw [h]
  rfl
theorem ints_L0 (a : List Int) (ha : a.length ≤ 1000000) : ∀ (n i k : Nat), i + n = a.length → n < k → feluccaref05_Ints_L0 k (a, a, (i : Int)) = some (.inl ())
  | 0, i, k, h, hk => by
    obtain ⟨k, rfl⟩ : ∃ m, k = m + 1 := ⟨k - 1, by omega⟩
    rw [feluccaref05_Ints_L0, lt_no (by omega)]; rfl
  | n + 1, i, k, h, hk => by
    obtain ⟨k, rfl⟩ : ∃ m, k = m + 1 := ⟨k - 1, by omega⟩
    have hi : i < a.length := by omega
    rw [feluccaref05_Ints_L0, lt_yes hi, ge0, w64_succ (by omega), decide_eq_true rfl, ints_L0 a ha n (i + 1) k (by omega) (by omega)]
    rfl
theorem ints_sp (k : Nat) {a : List Int} (ha : a.length ≤ 1000000) (hk : a.length < k) : feluccaref05_Ints k (a, a) = some true := by
  unfold feluccaref05_Ints
  have h := ints_L0 a ha a.length 0 k (by omega) hk
  rw [show ((0 : Nat) : Int) = 0 from rfl] at h
  simp only [h, decide_eq_true (rfl : Int.ofNat a.length = Int.ofNat a.length)]
  rfl
theorem same2_L0 (a : List ByteArray) (ha : a.length ≤ 1000000) : ∀ (n i k : Nat), i + n = a.length → n < k → feluccaref02_Same_L0 k (a, a, (i : Int)) = some (.inl ())
  | 0, i, k, h, hk => by
    obtain ⟨k, rfl⟩ : ∃ m, k = m + 1 := ⟨k - 1, by omega⟩
    rw [feluccaref02_Same_L0, lt_no (by omega)]; rfl
  | n + 1, i, k, h, hk => by
    obtain ⟨k, rfl⟩ : ∃ m, k = m + 1 := ⟨k - 1, by omega⟩
    have hi : i < a.length := by omega
    rw [feluccaref02_Same_L0, lt_yes hi, ge0, w64_succ (by omega), beq_self_eq_true, same2_L0 a ha n (i + 1) k (by omega) (by omega)]
    rfl
theorem same2_sp (k : Nat) {a : List ByteArray} (ha : a.length ≤ 1000000) (hk : a.length < k) : feluccaref02_Same k (a, a) = some true := by
  unfold feluccaref02_Same
  have h := same2_L0 a ha a.length 0 k (by omega) hk
  rw [show ((0 : Nat) : Int) = 0 from rfl] at h
  simp only [h, decide_eq_true (rfl : Int.ofNat a.length = Int.ofNat a.length)]
  rfl
theorem TextTells_pure (s : ByteArray) (l : List GDirective) (hd : ∀ d ∈ l, D64 d) : ∃ k, feluccalaw05_TextTells k (s, l) = some true := by
  refine ⟨200000, ?_⟩
  unfold feluccalaw05_TextTells feluccalaw05_small
  simp only [Option.bind_some, cond_true]
  by_cases h1 : 2000 < s.size
  · rw [show decide ((2000 : Int) < Int.ofNat s.size) = true from decide_eq_true (by show (2000 : Int) < (s.size : Int); omega), cond_true]
  rw [show decide ((2000 : Int) < Int.ofNat s.size) = false from decide_eq_false (by show ¬ (2000 : Int) < (s.size : Int); omega), cond_false]
  by_cases h2 : 100 < l.length
  · rw [show decide ((100 : Int) < Int.ofNat l.length) = true from decide_eq_true (by show (100 : Int) < (l.length : Int); omega), cond_true]
  rw [show decide ((100 : Int) < Int.ofNat l.length) = false from decide_eq_false (by show ¬ (100 : Int) < (l.length : Int); omega), cond_false]
  have e := size_list s
  have hll := lines_len s.data.toList
  have hpl := parseT_len s.data.toList
  have hrl : (rowsT s.data.toList).length ≤ (linesL s.data.toList).length := rowsF_len _ _
  rw [text_Parse_sp _ (by omega) (by omega), rTextParse_sp _ (by omega) (by omega), text_Print_sp _ (by omega) hd (by omega), rTextPrint_sp _ (by omega) (by omega), text_Lines_sp _ (by omega) (by omega), rTextLines_sp _ (by omega) (by omega)]
  simp only [Option.bind_some]
  rw [same_sp _ (by omega) (by omega), decide_eq_true rfl, ints_sp _ (by rw [List.length_map]; omega) (by rw [List.length_map]; omega)]
  simp only [Option.bind_some, cond_true, beq_self_eq_true, Bool.and_self]
  cases (printT l).2 <;> rfl
/-! ### DirectTells -/
theorem tells_L0 (l : List ByteArray) (hl : l.length ≤ 1000) (d : GDirective) : ∀ (n i k : Nat), i + n = l.length → n < k →
    feluccalaw04_DirectTells_L0 k (l, d, true, (i : Int)) = some (.inr true) ∨ (feluccalaw04_DirectTells_L0 k (l, d, true, (i : Int)) = some (.inl (l, d, true)) ∧ ∀ a ∈ l.drop i, a.size ≤ 100)
  | 0, i, k, h, hk => by
    obtain ⟨k, rfl⟩ : ∃ m, k = m + 1 := ⟨k - 1, by omega⟩
    right
    rw [feluccalaw04_DirectTells_L0, lt_no (by omega), List.drop_eq_nil_of_le (by omega)]
    exact ⟨rfl, fun a ha => by cases ha⟩
  | n + 1, i, k, h, hk => by
    obtain ⟨k, rfl⟩ : ∃ m, k = m + 1 := ⟨k - 1, by omega⟩
    have hi : i < l.length := by omega
    rw [feluccalaw04_DirectTells_L0, lt_yes hi, ge0, getD_nat _ _ hi, w64_succ (by omega), List.drop_eq_getElem_cons hi]
    simp only [cond_true]
    by_cases hz : 100 < l[i].size
    · left
      rw [show decide ((100 : Int) < Int.ofNat l[i].size) = true from decide_eq_true (by show (100 : Int) < (l[i].size : Int); omega)]
      rfl
    · rw [show decide ((100 : Int) < Int.ofNat l[i].size) = false from decide_eq_false (by show ¬ (100 : Int) < (l[i].size : Int); omega), cond_false]
      rcases tells_L0 l hl d n (i + 1) k (by omega) (by omega) with h | ⟨h, h2⟩
      · exact .inl h
      · refine .inr ⟨h, fun a ha => ?_⟩
        rcases List.mem_cons.1 ha with rfl | ha
        · omega
        · exact h2 a ha
theorem wordsB_len (d : GDirective) : (wordsB d).length ≤ 8 := by
  have := vals_len d
  unfold wordsB
  simp only [List.length_cons, List.length_map]
  omega
theorem DirectTells_pure (d : GDirective) (l : List ByteArray) (hd : D64 d) : ∃ k, feluccalaw04_DirectTells k (d, l) = some true := by
  refine ⟨200000, ?_⟩
  unfold feluccalaw04_DirectTells feluccalaw04_small
  simp only [Option.bind_some, cond_true]
  by_cases h1 : 50 < l.length
  · rw [show decide ((50 : Int) < Int.ofNat l.length) = true from decide_eq_true (by show (50 : Int) < (l.length : Int); omega), cond_true]
  rw [show decide ((50 : Int) < Int.ofNat l.length) = false from decide_eq_false (by show ¬ (50 : Int) < (l.length : Int); omega), cond_false]
  have hL := tells_L0 l (by omega) d l.length 0 200000 (by omega) (by omega)
  rw [show ((0 : Nat) : Int) = 0 from rfl, List.drop_zero] at hL
  rcases hL with h | ⟨h, hs⟩
  · rw [h]; rfl
  · rw [h]
    have hw := wordsB_len d
    have hP : direct_Parse 200000 l = some (parseB l) := parse_sp _ (fun a ha => by have := hs a ha; omega)
    have hR : feluccaref04_Parse 200000 l = some (parseB l) := rParse_sp _ (by omega) (fun a ha => by have := hs a ha; omega) (by omega)
    simp only [Option.bind_some, words_sp 200000 hd.1 hd.2, rwords_sp 200000 d (by omega), right_sp 200000 hd.1 hd.2, rright_sp, hP, hR, cond_true]
    cases hr : dR d with
    | true =>
      simp only [cond_true, Option.bind_some, same2_sp 200000 (a := wordsB d) (by omega) (by omega), beq_self_eq_true, Bool.and_self, decide_true, cond_true]
    | false =>
      simp only [cond_false, cond_true, Option.bind_some, same2_sp 200000 (a := []) (by simp) (by simp), beq_self_eq_true, Bool.and_self, decide_true, cond_true]
end Go.Proofs.YtaknikdbnfmlfaaDoor.Ex
