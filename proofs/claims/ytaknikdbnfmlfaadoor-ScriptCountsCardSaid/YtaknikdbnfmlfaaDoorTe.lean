/- The laws of layer 5 in plain words: TextJoins, TextLines, TextBlank, TextBack. -/
import Derived.Test.YtaknikdbnfmlfaaDoorTd
import Derived.Test.YtaknikdbnfmlfaaDoorExOp
import Derived.Test.YtaknikdbnfmlfaaDoorF2
namespace Go.Proofs.YtaknikdbnfmlfaaDoor.Ex
open Go Go.RowKit Go.Lib Go.Proofs.YtaknikdbnfmlfaaDoor.Wrd Go.Proofs.YtaknikdbnfmlfaaDoor.Dig
set_option linter.unusedVariables false
set_option linter.unusedSimpArgs false
noncomputable instance decG : DecidableEq GDirective := fun a b => Classical.propDecidable _
theorem dir_eq (x y : GDirective) : (x.1 == y.1 && (x.2.1 == y.2.1 && ((x.2.2.1 == y.2.2.1 && (x.2.2.2.1 == y.2.2.2.1 && (x.2.2.2.2.1 == y.2.2.2.2.1 && (x.2.2.2.2.2.1 == y.2.2.2.2.2.1 && (x.2.2.2.2.2.2.1 == y.2.2.2.2.2.2.1 && (x.2.2.2.2.2.2.2.1 == y.2.2.2.2.2.2.2.1)))))) && (x.2.2.2.2.2.2.2.2.1 == y.2.2.2.2.2.2.2.2.1 && (x.2.2.2.2.2.2.2.2.2.1 == y.2.2.2.2.2.2.2.2.2.1 && (x.2.2.2.2.2.2.2.2.2.2.1 == y.2.2.2.2.2.2.2.2.2.2.1 && (x.2.2.2.2.2.2.2.2.2.2.2.1 == y.2.2.2.2.2.2.2.2.2.2.2.1 && (x.2.2.2.2.2.2.2.2.2.2.2.2 == y.2.2.2.2.2.2.2.2.2.2.2.2)))))))) = decide (x = y) := by
  obtain ⟨a, b, c, d, e, f, g, h, i, j, k, l, m⟩ := x
  obtain ⟨a', b', c', d', e', f', g', h', i', j', k', l', m'⟩ := y
  rw [Bool.eq_iff_iff]
  simp only [Bool.and_eq_true, beq_iff_eq, decide_eq_true_eq, Prod.mk.injEq]
  constructor
  · rintro ⟨h1, h2, ⟨h3, h4, h5, h6, h7, h8⟩, h9⟩; exact ⟨h1, h2, h3, h4, h5, h6, h7, h8, h9⟩
  · rintro ⟨h1, h2, h3, h4, h5, h6, h7, h8, h9⟩; exact ⟨h1, h2, ⟨h3, h4, h5, h6, h7, h8⟩, h9⟩
theorem same_L0 (a b : List GDirective) (hl : a.length = b.length) (ha : a.length ≤ 1000000) : ∀ (n i k : Nat), i + n = a.length → n < k → feluccaref05_Same_L0 k (a, b, (i : Int)) = some (bif decide (a.drop i = b.drop i) then .inl () else .inr false)
  | 0, i, k, h, hk => by
    obtain ⟨k, rfl⟩ : ∃ m, k = m + 1 := ⟨k - 1, by omega⟩
    rw [feluccaref05_Same_L0, lt_no (by omega), List.drop_eq_nil_of_le (by omega), List.drop_eq_nil_of_le (by omega)]
    rfl
  | n + 1, i, k, h, hk => by
    obtain ⟨k, rfl⟩ : ∃ m, k = m + 1 := ⟨k - 1, by omega⟩
    have hi : i < a.length := by omega
    have hj : i < b.length := by omega
    rw [feluccaref05_Same_L0, lt_yes hi, lt_yes hj, ge0, getD_nat _ _ hi, getD_nat _ _ hj, dir_eq, w64_succ (by omega), same_L0 a b hl ha n (i + 1) k (by omega) (by omega), List.drop_eq_getElem_cons hi, List.drop_eq_getElem_cons hj]
    simp only [cond_true]
    by_cases he : a[i] = b[i]
    · rw [decide_eq_true he]
      simp only [Bool.not_true, cond_false]
      rw [he]
      simp only [List.cons.injEq, true_and]
    · rw [decide_eq_false he, decide_eq_false (fun h => he (List.cons.inj h).1)]
      rfl
theorem same_sp (k : Nat) {a b : List GDirective} (ha : a.length ≤ 1000000) (hk : a.length < k) : feluccaref05_Same k (a, b) = some (decide (a = b)) := by
  unfold feluccaref05_Same
  by_cases hl : a.length = b.length
  · simp only
    rw [decide_eq_true (by rw [hl]), Bool.not_true, cond_false, show (0 : Int) = ((0 : Nat) : Int) from rfl, same_L0 a b hl ha a.length 0 k (by omega) hk, List.drop_zero, List.drop_zero]
    cases decide (a = b) <;> rfl
  · simp only
    rw [decide_eq_false (by simp; omega), Bool.not_false, cond_true, decide_eq_false (fun h => hl (congrArg List.length h))]
theorem size_list (s : ByteArray) : s.data.toList.length = s.size := by rw [Array.length_toList]; rfl
theorem ofNat_lt (a b : Nat) : decide ((a : Int) < Int.ofNat b) = decide (a < b) := by simp
theorem data_app (a b : ByteArray) : (a ++ b).data.toList = a.data.toList ++ b.data.toList := by simp [ByteArray.data_append]
theorem size_app (a b : ByteArray) : (a ++ b).size = a.size + b.size := by rw [← size_list, data_app, List.length_append, size_list, size_list]
theorem TextJoins_pure (s t : ByteArray) : ∃ k, feluccalaw05_TextJoins k (s, t) = some true := by
  refine ⟨9000, ?_⟩
  unfold feluccalaw05_TextJoins feluccalaw05_small
  simp only [Option.bind_some, cond_true]
  by_cases h1 : 1000 < s.size
  · rw [show decide ((1000 : Int) < Int.ofNat s.size) = true from decide_eq_true (by show (1000 : Int) < (s.size : Int); omega), cond_true]
  rw [show decide ((1000 : Int) < Int.ofNat s.size) = false from decide_eq_false (by show ¬ (1000 : Int) < (s.size : Int); omega), cond_false]
  by_cases h2 : 1000 < t.size
  · rw [show decide ((1000 : Int) < Int.ofNat t.size) = true from decide_eq_true (by show (1000 : Int) < (t.size : Int); omega), cond_true]
  rw [show decide ((1000 : Int) < Int.ofNat t.size) = false from decide_eq_false (by show ¬ (1000 : Int) < (t.size : Int); omega), cond_false]
  have e10 : (⟨#[10]⟩ : ByteArray).size = 1 := rfl
  have d10 : (⟨#[10]⟩ : ByteArray).data.toList = [10] := rfl
  have z1 : (s ++ (⟨#[10]⟩ : ByteArray)).size = s.size + 1 := by rw [size_app, e10]
  have z2 : (s ++ (⟨#[10]⟩ : ByteArray) ++ t).size = s.size + 1 + t.size := by rw [size_app, z1]
  rw [decide_eq_true (by rw [e10]; omega : s.size + (⟨#[10]⟩ : ByteArray).size ≤ 9223372036854775807), decide_eq_true (by rw [z1]; omega : (s ++ (⟨#[10]⟩ : ByteArray)).size + t.size ≤ 9223372036854775807)]
  simp only [cond_true]
  rw [text_Parse_sp _ (by omega) (by omega), text_Parse_sp _ (by omega) (by omega), text_Parse_sp _ (by omega) (by omega)]
  have dA : (s ++ (⟨#[10]⟩ : ByteArray)).data.toList = s.data.toList ++ [10] := by rw [data_app, d10]
  have dB : (s ++ (⟨#[10]⟩ : ByteArray) ++ t).data.toList = s.data.toList ++ 10 :: t.data.toList := by rw [data_app, dA]; simp
  rw [words_Lines_sp _ (by omega), dA, dB]
  simp only [Option.bind_some]
  have lA := lines_len (s.data.toList ++ [10])
  have lB := lines_len t.data.toList
  have pA := parseT_len (s.data.toList ++ [10])
  have pB := parseT_len t.data.toList
  have pC := parseT_len (s.data.toList ++ 10 :: t.data.toList)
  have lC := lines_len (s.data.toList ++ 10 :: t.data.toList)
  simp only [List.length_append, List.length_cons, List.length_nil, size_list] at lA lB lC
  have key : parseT (s.data.toList ++ 10 :: t.data.toList) = bif decide ((parseT (s.data.toList ++ [10])).2.2 = 0) then (bif decide ((parseT t.data.toList).2.2 = 0) then ((parseT (s.data.toList ++ [10])).1 ++ (parseT t.data.toList).1, (0, 0)) else ([], ((parseT t.data.toList).2.1 + ((linesL (s.data.toList ++ [10])).length : Int), (parseT t.data.toList).2.2))) else parseT (s.data.toList ++ [10]) := by
    have e : parseS (rowsT (s.data.toList ++ 10 :: t.data.toList)) [] = match parseS (rowsT (s.data.toList ++ [10])) [] with
        | .inl o => (match parseS (rowsT t.data.toList) o.2 with
          | .inl o => .inl o
          | .inr o => .inr (o.1, (o.2.1 + ((linesL (s.data.toList ++ [10])).length : Int), o.2.2)))
        | .inr o => .inr o := by
      rw [rows_two, parseS_app]
      cases parseS (rowsT (s.data.toList ++ [10])) [] with
      | inl o => exact parseS_shift _ _ _
      | inr o => rfl
    unfold parseT parseR
    rw [e]
    rcases parseS_cases (rowsT (s.data.toList ++ [10])) with ⟨g1, _⟩ | ⟨_, x, _, g2, _, g1⟩
    · rw [g1]
      simp only
      rw [parseS_acc]
      rcases parseS_cases (rowsT t.data.toList) with ⟨g3, _⟩ | ⟨_, y, _, g4, _, g3⟩
      · rw [g3]; rfl
      · rw [g3]
        simp only
        rw [decide_eq_false g4]
        rfl
    · rw [g1]
      simp only
      rw [decide_eq_false g2]
      rfl
  by_cases ha : (parseT (s.data.toList ++ [10])).2.2 = 0
  · rw [decide_eq_true ha] at key ⊢
    simp only [cond_true] at key
    simp only [Bool.not_true, cond_false]
    by_cases hb : (parseT t.data.toList).2.2 = 0
    · rw [decide_eq_true hb] at key ⊢
      simp only [cond_true] at key
      simp only [Bool.not_true, cond_false]
      rw [key, decide_eq_true (by omega : (0 + (parseT (s.data.toList ++ [10])).1.length) * 104 ≤ 140737488355328), decide_eq_true (by omega : ((parseT (s.data.toList ++ [10])).1.length + (parseT t.data.toList).1.length) * 104 ≤ 140737488355328), same_sp _ (by rw [key] at pC; simp only at pC ⊢; omega) (by rw [key] at pC; simp only at pC ⊢; omega)]
      simp
    · obtain ⟨_, j, y, _, _, h3, _⟩ := parseT_fault hb
      rw [decide_eq_false hb] at key ⊢
      simp only [cond_false] at key
      simp only [Bool.not_false, cond_true]
      rw [key]
      have hj : (parseT t.data.toList).2.1 = (j : Int) + 1 := by rw [h3]
      have hjl : (j : Int) + 1 ≤ 100000 := by
        obtain ⟨_, j', y', _, g2, g3, _⟩ := parseT_fault hb
        have : j' < (linesL t.data.toList).length := (List.getElem?_eq_some_iff.1 g2).1
        have : (parseT t.data.toList).2.1 = (j' : Int) + 1 := by rw [g3]
        omega
      rw [List.length_map, w64' ⟨by rw [hj]; show _ ≤ (j : Int) + 1 + ((linesL (s.data.toList ++ [10])).length : Int); omega, by rw [hj]; show (j : Int) + 1 + ((linesL (s.data.toList ++ [10])).length : Int) ≤ _; omega⟩]
      simp
  · rw [decide_eq_false ha] at key ⊢
    simp only [cond_false] at key
    simp only [Bool.not_false, cond_true]
    obtain ⟨_, _, _, _, _, h3, _⟩ := parseT_fault ha
    rw [key, h3]
    simp
/-! ### TextLines -/
theorem rowsF_ge : ∀ (M : List (List UInt8)) (i : Int), ∀ x ∈ rowsF i M, i ≤ x.1
  | [], i, x, h => by cases h
  | y :: r, i, x, h => by
    simp only [rowsF] at h
    cases hw : (wordsL y).isEmpty with
    | true => rw [hw] at h; have := rowsF_ge r (i + 1) x h; omega
    | false =>
      rw [hw] at h
      rcases List.mem_cons.1 h with rfl | h
      · exact Int.le_refl _
      · have := rowsF_ge r (i + 1) x h; omega
theorem rowsF_up : ∀ (M : List (List UInt8)) (i : Int), (rowsF i M).Pairwise fun a b => a.1 < b.1
  | [], i => .nil
  | y :: r, i => by
    simp only [rowsF]
    cases (wordsL y).isEmpty with
    | true => exact rowsF_up r (i + 1)
    | false => exact .cons (fun x hx => by have := rowsF_ge r (i + 1) x hx; show i < x.1; omega) (rowsF_up r (i + 1))
theorem rows_lt (s : List UInt8) {i j : Nat} (hi : i < (rowsT s).length) (hj : j < (rowsT s).length) (h : i < j) : ((rowsT s)[i]).1 < ((rowsT s)[j]).1 := List.pairwise_iff_getElem.1 (rowsF_up (linesL s) 1) i j hi hj h
theorem tl_L0 (s : List UInt8) (hs : s.length ≤ 2000) (i0 : Nat) (h0 : i0 < (rowsT s).length) (hb : ∀ (q : Nat) z, q < i0 → (rowsT s)[q]? = some z → cd z = 0) : ∀ (n i k : Nat), i + n = (rowsT s).length → n < k →
    feluccalaw05_TextLines_L0 k (true, (((rowsT s)[i0]).1, cd (rowsT s)[i0]), (rowsT s).map (·.1), decide (i0 < i), (linesL s).map ofL, (i : Int)) = some (.inl (true, true))
  | 0, i, k, h, hk => by
    obtain ⟨k, rfl⟩ : ∃ m, k = m + 1 := ⟨k - 1, by omega⟩
    rw [feluccalaw05_TextLines_L0, lt_no (by rw [List.length_map]; omega), decide_eq_true (by omega : i0 < i)]
    rfl
  | n + 1, i, k, h, hk => by
    obtain ⟨k, rfl⟩ : ∃ m, k = m + 1 := ⟨k - 1, by omega⟩
    have hi : i < (rowsT s).length := by omega
    have hi' : i < ((rowsT s).map (·.1)).length := by rw [List.length_map]; exact hi
    have hlen := lines_len s
    have hrl := rowsF_len 1 (linesL s)
    have hrl' : (rowsT s).length ≤ (linesL s).length := hrl
    obtain ⟨j, y, g1, g2, _⟩ := rowsF_mem 1 (linesL s) (rowsT s)[i] (List.getElem_mem hi)
    have hj : j < (linesL s).length := (List.getElem?_eq_some_iff.1 g1).1
    have hy : (linesL s)[j] = y := (List.getElem?_eq_some_iff.1 g1).2
    have e1 : ((rowsT s)[i]).1 = (j : Int) + 1 := by rw [g2]; show (1 : Int) + j = _; omega
    have e2 : ((rowsT s)[i]).2 = (wordsL y).map ofL := by rw [g2]
    have hyl : y.length ≤ 2000 := by have := lines_each s y (List.mem_of_getElem? g1); omega
    have hw : w64 ((j : Int) + 1 - 1) = (j : Int) := by rw [w64' ⟨by omega, by omega⟩]; omega
    have hjr : j < ((linesL s).map ofL).length := by rw [List.length_map]; exact hj
    have ih := tl_L0 s hs i0 h0 hb n (i + 1) k (by omega) (by omega)
    have hsz : ∀ a ∈ (wordsL y).map ofL, a.size ≤ 9223372036854775807 := fun a ha => by
      obtain ⟨w, hw, rfl⟩ := List.mem_map.1 ha
      have := words_size y w hw
      rw [ofL_size]; omega
    rw [feluccalaw05_TextLines_L0]
    simp only [lt_yes hi', ge0, getD_nat _ _ hi', List.getElem_map, e1, hw, cond_true, getD_nat _ _ hjr, hy, words_Words_sp k (show y.length < 4294967281 by omega), Option.bind_some, parse_sp k hsz, w64_succ (show i ≤ 4611686018427387904 by omega), lt_yes hjr]
    rw [decide_eq_false (by omega : ¬ (j : Int) + 1 < 1), decide_eq_false (by rw [List.length_map]; show ¬ ((linesL s).length : Int) < (j : Int) + 1; omega)]
    simp only [cond_false]
    have hcd : (parseB ((wordsL y).map ofL)).2 = cd (rowsT s)[i] := by unfold cd; rw [e2]
    rw [hcd]
    rcases Nat.lt_trichotomy i i0 with hlt | heq | hgt
    · have h1 := rows_lt s hi h0 hlt
      rw [e1] at h1
      rw [decide_eq_true h1, hb i _ hlt (List.getElem?_eq_getElem hi)]
      simp only [cond_true, decide_true, Bool.not_true, cond_false]
      rw [decide_eq_false (by omega : ¬ (j : Int) + 1 = ((rowsT s)[i0]).1), cond_false]
      rw [decide_eq_false (by omega : ¬ i0 < i + 1)] at ih
      rw [decide_eq_false (by omega : ¬ i0 < i)]
      exact ih
    · subst heq
      rw [← e1]
      simp only [Int.lt_irrefl, decide_false, cond_false, decide_true, cond_true]
      rw [decide_eq_true (by omega : i < i + 1)] at ih
      exact ih
    · have h1 := rows_lt s h0 hi hgt
      rw [e1] at h1
      rw [decide_eq_false (by omega : ¬ (j : Int) + 1 < ((rowsT s)[i0]).1), cond_false, decide_eq_false (by omega : ¬ (j : Int) + 1 = ((rowsT s)[i0]).1), cond_false]
      rw [decide_eq_true (by omega : i0 < i + 1)] at ih
      rw [decide_eq_true (by omega : i0 < i)]
      exact ih
theorem TextLines_pure (s : ByteArray) : ∃ k, feluccalaw05_TextLines k s = some true := by
  refine ⟨9000, ?_⟩
  unfold feluccalaw05_TextLines feluccalaw05_small
  simp only [Option.bind_some, cond_true]
  by_cases h1 : 2000 < s.size
  · rw [show decide ((2000 : Int) < Int.ofNat s.size) = true from decide_eq_true (by show (2000 : Int) < (s.size : Int); omega), cond_true]
  rw [show decide ((2000 : Int) < Int.ofNat s.size) = false from decide_eq_false (by show ¬ (2000 : Int) < (s.size : Int); omega), cond_false]
  have hs : s.data.toList.length ≤ 2000 := by rw [size_list]; omega
  rw [text_Parse_sp _ (by omega) (by omega), text_Lines_sp _ (by omega) (by omega), words_Lines_sp _ (by omega)]
  simp only [Option.bind_some]
  by_cases hc : (parseT s.data.toList).2.2 = 0
  · rw [decide_eq_true hc, cond_true]
    have : (parseT s.data.toList).1.length = (rowsT s.data.toList).length := by
      unfold parseT parseR at hc ⊢
      rcases parseS_cases (rowsT s.data.toList) with ⟨g1, _⟩ | ⟨_, x, _, g2, _, g1⟩
      · rw [g1]; simp
      · rw [g1] at hc; exact absurd hc g2
    rw [this, List.length_map, decide_eq_true rfl, cond_true]
  · rw [decide_eq_false hc, cond_false]
    obtain ⟨i, j, y, g1, g2, g3, g4⟩ := parseT_fault hc
    have hi : i < (rowsT s.data.toList).length := (List.getElem?_eq_some_iff.1 g1).1
    have hx : (rowsT s.data.toList)[i] = ((j : Int) + 1, (wordsL y).map ofL) := (List.getElem?_eq_some_iff.1 g1).2
    have hlen := lines_len s.data.toList
    have hrl := rowsF_len 1 (linesL s.data.toList)
    have hrl' : (rowsT s.data.toList).length ≤ (linesL s.data.toList).length := hrl
    have hl := tl_L0 s.data.toList hs i hi g4 (rowsT s.data.toList).length 0 9000 (by omega) (by omega)
    rw [g3]
    rw [hx, decide_eq_false (by omega : ¬ i < 0)] at hl
    rw [show cd ((j : Int) + 1, (wordsL y).map ofL) = (parseB ((wordsL y).map ofL)).2 from rfl] at hl
    rw [show ((0 : Nat) : Int) = 0 from rfl] at hl
    rw [hl]
    rfl
/-! ### TextBlank -/
theorem byteI_at (s : ByteArray) {i : Nat} (h : i < s.data.toList.length) : byteI s (i : Int) = ((s.data.toList[i]).toNat : Int) := by
  unfold byteI
  rw [Int.toNat_natCast, List.getD_eq_getElem?_getD, List.getElem?_eq_getElem h]
  rfl
theorem byte_10 (c : UInt8) : decide ((c.toNat : Int) = 10) = decide (c = 10) := by
  have := byte_is (c := c) (n := 10) (by decide)
  exact decide_eq_decide.2 this
theorem tb_L0 (s rem : ByteArray) (k2 : Int) (L : List ByteArray) (hr : rem.size ≤ 1000000) : ∀ (n i k : Nat), i + n = rem.size → n < k →
    feluccalaw05_TextBlank_L0 k (s, rem, k2, true, L, (i : Int)) = some (bif (rem.data.toList.drop i).any (· == 10) then .inr true else .inl (s, rem, k2, true, L))
  | 0, i, k, h, hk => by
    obtain ⟨k, rfl⟩ : ∃ m, k = m + 1 := ⟨k - 1, by omega⟩
    rw [feluccalaw05_TextBlank_L0, lt_no (by omega), List.drop_eq_nil_of_le (by rw [size_list]; omega)]
    rfl
  | n + 1, i, k, h, hk => by
    obtain ⟨k, rfl⟩ : ∃ m, k = m + 1 := ⟨k - 1, by omega⟩
    have hi : i < rem.size := by omega
    have hi' : i < rem.data.toList.length := by rw [size_list]; exact hi
    rw [feluccalaw05_TextBlank_L0, lt_yes hi, ge0, byteI_at rem hi', byte_10, w64_succ (by omega), tb_L0 s rem k2 L hr n (i + 1) k (by omega) (by omega), List.drop_eq_getElem_cons hi', List.any_cons]
    simp only [cond_true, Bool.and_self]
    by_cases hc : rem.data.toList[i] = 10
    · rw [decide_eq_true hc, hc]; rfl
    · rw [decide_eq_false hc, show (rem.data.toList[i] == 10) = false from beq_eq_false_iff_ne.2 hc]; rfl
theorem cat_app (A B : List (List UInt8)) : cat (A ++ B) = cat A ++ cat B := by simp [cat]
theorem cat_one (x : List UInt8) : cat [x] = x ++ [10] := by simp [cat]
/-- What is laid ahead of line i of the text with lines that have no words. -/
def preB (L : List (List UInt8)) (ins : List UInt8) (kk i : Nat) : List UInt8 := if i ≤ kk then cat (L.take i) else cat (L.take kk) ++ ins ++ cat ((L.take i).drop kk)
theorem pre_next (L : List (List UInt8)) (ins : List UInt8) {kk i : Nat} (hk : kk ≤ L.length) (hi : i < L.length) : preB L ins kk (i + 1) = preB L ins kk i ++ (if i = kk then ins else []) ++ (L[i] ++ [10]) := by
  have ht : L.take (i + 1) = L.take i ++ [L[i]] := by rw [List.take_add_one, List.getElem?_eq_getElem hi]; rfl
  unfold preB
  rcases Nat.lt_trichotomy i kk with h | h | h
  · rw [if_pos (by omega), if_pos (by omega), if_neg (by omega), ht, cat_app, cat_one]; simp
  · subst h
    rw [if_neg (by omega), if_pos (by omega), if_pos rfl, ht, List.drop_append_of_le_length (by rw [List.length_take]; omega), List.drop_eq_nil_of_le (by rw [List.length_take]; omega), List.nil_append, cat_one]
  · rw [if_neg (by omega), if_neg (by omega), if_neg (by omega), ht, List.drop_append_of_le_length (by rw [List.length_take]; omega), cat_app, cat_one]; simp
theorem pre_end (L : List (List UInt8)) (ins : List UInt8) {kk : Nat} (hk : kk ≤ L.length) : preB L ins kk (L.length + 1) = preB L ins kk L.length ++ (if L.length = kk then ins else []) := by
  have h1 : L.take (L.length + 1) = L := List.take_of_length_le (by omega)
  unfold preB
  by_cases h : L.length = kk
  · subst h
    rw [if_neg (by omega), if_pos (by omega), if_pos rfl, h1, List.drop_length]
    simp [cat]
  · rw [if_neg (by omega), if_neg (by omega), if_neg h, h1, List.take_length]
    simp
theorem pre_len (L : List (List UInt8)) (ins : List UInt8) (kk i : Nat) : (preB L ins kk i).length ≤ (cat L).length + ins.length := by
  have hsub : ∀ j, (cat (L.take j)).length ≤ (cat L).length := fun j => by
    conv => rhs; rw [← List.take_append_drop j L, cat_app, List.length_append]
    omega
  unfold preB
  split
  · have := hsub i; omega
  · rename_i h
    have e : cat (L.take i) = cat (L.take kk) ++ cat ((L.take i).drop kk) := by
      rw [← cat_app]
      congr 1
      conv => lhs; rw [← List.take_append_drop kk (L.take i)]
      rw [List.take_take, Nat.min_eq_left (by omega)]
    have := hsub i
    rw [e, List.length_append] at this
    simp only [List.length_append]
    omega
theorem tb_L1 (s rem : ByteArray) (L : List (List UInt8)) (kk : Nat) (hk : kk ≤ L.length) (hr : rem.size ≤ 1000000) (hL : L.length ≤ 1000000) (hc : (cat L).length ≤ 1000000) : ∀ (n i k : Nat), i + n = L.length + 1 → n < k →
    feluccalaw05_TextBlank_L1 k (s, rem, (kk : Int), true, L.map ofL, ofL (preB L ([32, 35, 32] ++ rem.data.toList ++ [10, 10]) kk i), (i : Int)) = some (.inl (s, (kk : Int), true, ofL (preB L ([32, 35, 32] ++ rem.data.toList ++ [10, 10]) kk (L.length + 1))))
  | 0, i, k, h, hk' => by
    obtain ⟨k, rfl⟩ : ∃ m, k = m + 1 := ⟨k - 1, by omega⟩
    obtain rfl : i = L.length + 1 := by omega
    rw [feluccalaw05_TextBlank_L1, decide_eq_false (by rw [List.length_map]; show ¬ ((L.length + 1 : Nat) : Int) ≤ (L.length : Int); omega)]
    rfl
  | n + 1, i, k, h, hk' => by
    obtain ⟨k, rfl⟩ : ∃ m, k = m + 1 := ⟨k - 1, by omega⟩
    have hil : i ≤ L.length := by omega
    have ih := tb_L1 s rem L kk hk hr hL hc n (i + 1) k (by omega) (by omega)
    have hp := pre_len L ([32, 35, 32] ++ rem.data.toList ++ [10, 10]) kk i
    have hins : ([32, 35, 32] ++ rem.data.toList ++ [10, 10] : List UInt8).length = rem.size + 5 := by simp only [List.length_append, List.length_cons, List.length_nil, size_list]; omega
    have hrem : ofL rem.data.toList = rem := ofL_data rem
    have o1 : (⟨#[32, 35, 32]⟩ : ByteArray) = ofL [32, 35, 32] := rfl
    have o2 : (⟨#[10, 10]⟩ : ByteArray) = ofL [10, 10] := rfl
    have o3 : (⟨#[10]⟩ : ByteArray) = ofL [10] := rfl
    rw [feluccalaw05_TextBlank_L1, decide_eq_true (by rw [List.length_map]; show (i : Int) ≤ (L.length : Int); omega), w64_succ (by omega)]
    simp only [cond_true, o1, o2, o3]
    rw [← hrem]
    simp only [ofL_append, ofL_size, data_ofL]
    by_cases hik : i = kk
    · subst hik
      rw [decide_eq_true rfl, decide_eq_true (by simp only [List.length_cons, List.length_nil]; omega), decide_eq_true (by simp only [List.length_append, List.length_cons, List.length_nil, size_list]; omega), decide_eq_true (by simp only [List.length_append, List.length_cons, List.length_nil, size_list]; omega)]
      simp only [cond_true]
      by_cases hlt : i < L.length
      · have hlt' : i < (L.map ofL).length := by rw [List.length_map]; exact hlt
        have hx : (L[i]).length ≤ 1000000 := by
          have : (cat (L.take (i + 1))).length ≤ (cat L).length := by
            conv => rhs; rw [← List.take_append_drop (i + 1) L, cat_app, List.length_append]
            omega
          have ht : L.take (i + 1) = L.take i ++ [L[i]] := by rw [List.take_add_one, List.getElem?_eq_getElem hlt]; rfl
          rw [ht, cat_app, cat_one] at this
          simp only [List.length_append] at this
          omega
        rw [lt_yes hlt', ge0, getD_nat _ _ hlt', List.getElem_map]
        simp only [cond_true, ofL_append, ofL_size]
        rw [decide_eq_true (by simp only [List.length_append, List.length_cons, List.length_nil, size_list]; omega), decide_eq_true (by simp only [List.length_append, List.length_cons, List.length_nil, size_list]; omega)]
        simp only [cond_true]
        rw [pre_next L _ hk hlt, if_pos rfl] at ih
        rw [← hrem] at ih
        simp only [data_ofL, List.append_assoc] at ih ⊢
        exact ih
      · have hlt' : (L.map ofL).length ≤ i := by rw [List.length_map]; omega
        obtain rfl : i = L.length := by omega
        rw [lt_no hlt', cond_false]
        rw [pre_end L _ hk, if_pos rfl] at ih ⊢
        rw [← hrem] at ih
        simp only [data_ofL, List.append_assoc] at ih ⊢
        exact ih
    · rw [decide_eq_false (by omega : ¬ (i : Int) = (kk : Int)), cond_false]
      by_cases hlt : i < L.length
      · have hlt' : i < (L.map ofL).length := by rw [List.length_map]; exact hlt
        have hx : (L[i]).length ≤ 1000000 := by
          have : (cat (L.take (i + 1))).length ≤ (cat L).length := by
            conv => rhs; rw [← List.take_append_drop (i + 1) L, cat_app, List.length_append]
            omega
          have ht : L.take (i + 1) = L.take i ++ [L[i]] := by rw [List.take_add_one, List.getElem?_eq_getElem hlt]; rfl
          rw [ht, cat_app, cat_one] at this
          simp only [List.length_append] at this
          omega
        rw [lt_yes hlt', ge0, getD_nat _ _ hlt', List.getElem_map]
        simp only [cond_true, ofL_append, ofL_size]
        rw [decide_eq_true (by omega), decide_eq_true (by simp only [List.length_append, List.length_cons, List.length_nil]; omega)]
        simp only [cond_true]
        rw [pre_next L _ hk hlt, if_neg hik] at ih
        rw [← hrem] at ih
        simp only [data_ofL, List.append_assoc, List.nil_append] at ih ⊢
        exact ih
      · have hlt' : (L.map ofL).length ≤ i := by rw [List.length_map]; omega
        obtain rfl : i = L.length := by omega
        rw [lt_no hlt', cond_false]
        rw [pre_end L _ hk, if_neg hik] at ih ⊢
        rw [← hrem] at ih
        simp only [data_ofL, List.append_assoc, List.append_nil] at ih ⊢
        exact ih
theorem blank_words (r : List UInt8) : wordsL ([32, 35, 32] ++ r) = [] := by
  have : wordsL ([32] ++ 35 :: (32 :: r)) = wordsL [32] := words_remark [32] (32 :: r)
  rw [show [32, 35, 32] ++ r = [32] ++ 35 :: (32 :: r) from rfl, this]
  rfl
/-- Rows behind lines without words. -/
theorem rows_blank (L : List (List UInt8)) (r : List UInt8) (kk : Nat) (hk : kk ≤ L.length) : rowsF 1 (L.take kk ++ [[32, 35, 32] ++ r, []] ++ L.drop kk) = rowsF 1 (L.take kk) ++ (rowsF (1 + (kk : Int)) (L.drop kk)).map fun x => (x.1 + 2, x.2) := by
  have h0 : rowsF (1 + ((L.take kk).length : Int)) [[32, 35, 32] ++ r, []] = [] := rowsF_none _ _ fun x hx => by
    rcases List.mem_cons.1 hx with rfl | hx
    · exact blank_words r
    · obtain rfl : x = [] := by simpa using hx
      rfl
  rw [rowsF_app, rowsF_app, h0, List.append_nil, ← rowsF_shift]
  congr 2
  simp only [List.length_append, List.length_take, List.length_cons, List.length_nil]
  omega
theorem parse_blank (A B : List (Int × List ByteArray)) (kk : Int) (hA : ∀ x ∈ A, x.1 ≤ kk) (hB : ∀ x ∈ B, kk < x.1) (R : List GDirective × (Int × Int)) (hR : parseR (A ++ B) = R) :
    parseR (A ++ B.map fun x => (x.1 + 2, x.2)) = (R.1, ((if kk < R.2.1 then R.2.1 + 2 else R.2.1), R.2.2)) ∨ (R.2 = (0, 0) ∧ parseR (A ++ B.map fun x => (x.1 + 2, x.2)) = R) := by
  unfold parseR at hR ⊢
  rw [parseS_app] at hR ⊢
  rcases parseS_cases A with ⟨g1, _⟩ | ⟨_, x, g2, _, _, g1⟩
  · rw [g1] at hR ⊢
    simp only at hR ⊢
    rw [parseS_shift]
    rw [parseS_acc] at hR ⊢
    rcases parseS_cases B with ⟨g3, _⟩ | ⟨_, y, g4, _, _, g3⟩
    · rw [g3] at hR ⊢
      right
      subst hR
      exact ⟨rfl, rfl⟩
    · rw [g3] at hR ⊢
      left
      subst hR
      have := hB y (List.mem_of_getElem? g4)
      simp only
      rw [if_pos this]
  · rw [g1] at hR ⊢
    left
    subst hR
    have := hA x (List.mem_of_getElem? g2)
    simp only
    rw [if_neg (by omega)]
theorem TextBlank_pure (s rem : ByteArray) (k2 : Int) (hbig : s.size < 4294967281) (hrem : rem.size < 4294967281) : ∃ k, feluccalaw05_TextBlank k (s, rem, k2) = some true := by
  refine ⟨9000, ?_⟩
  unfold feluccalaw05_TextBlank feluccalaw05_small
  simp only [Option.bind_some, cond_true]
  rw [words_Lines_sp _ hbig]
  simp only [Option.bind_some]
  by_cases h1 : 1000 < s.size
  · rw [show decide ((1000 : Int) < Int.ofNat s.size) = true from decide_eq_true (by show (1000 : Int) < (s.size : Int); omega), cond_true]
  rw [show decide ((1000 : Int) < Int.ofNat s.size) = false from decide_eq_false (by show ¬ (1000 : Int) < (s.size : Int); omega), cond_false]
  by_cases h2 : 100 < rem.size
  · rw [show decide ((100 : Int) < Int.ofNat rem.size) = true from decide_eq_true (by show (100 : Int) < (rem.size : Int); omega), cond_true]
  rw [show decide ((100 : Int) < Int.ofNat rem.size) = false from decide_eq_false (by show ¬ (100 : Int) < (rem.size : Int); omega), cond_false]
  by_cases h3 : k2 < 0
  · rw [decide_eq_true h3, cond_true]
  rw [decide_eq_false h3, cond_false, List.length_map]
  by_cases h4 : ((linesL s.data.toList).length : Int) < k2
  · rw [show decide (Int.ofNat (linesL s.data.toList).length < k2) = true from decide_eq_true h4, cond_true]
  rw [show decide (Int.ofNat (linesL s.data.toList).length < k2) = false from decide_eq_false h4, cond_false]
  obtain ⟨kk, rfl⟩ : ∃ kk : Nat, k2 = (kk : Int) := ⟨k2.toNat, by omega⟩
  have hk : kk ≤ (linesL s.data.toList).length := by omega
  rw [show (0 : Int) = ((0 : Nat) : Int) from rfl, tb_L0 s rem kk _ (by omega) rem.size 0 9000 (by omega) (by omega), List.drop_zero]
  cases ha : rem.data.toList.any (· == 10) with
  | true => rfl
  | false =>
    have hno : ∀ c ∈ rem.data.toList, c ≠ 10 := fun c hc e => by
      have := List.any_eq_false.1 ha c hc
      simp [e] at this
    have hsl := size_list s
    have hll := lines_len s.data.toList
    have hcl : (cat (linesL s.data.toList)).length ≤ s.size + 1 := by
      rcases cat_lines s.data.toList with h | h <;> rw [h]
      · omega
      · simp only [List.length_append, List.length_cons, List.length_nil]; omega
    have hL1 := tb_L1 s rem (linesL s.data.toList) kk hk (by omega) (by omega) (by omega) ((linesL s.data.toList).length + 1) 0 9000 (by omega) (by omega)
    have hp0 : preB (linesL s.data.toList) ([32, 35, 32] ++ rem.data.toList ++ [10, 10]) kk 0 = [] := by simp [preB, cat]
    rw [hp0] at hL1
    simp only [cond_false, Option.bind_some]
    rw [show (⟨#[]⟩ : ByteArray) = ofL [] from rfl, hL1]
    simp only [Option.bind_some, cond_true]
    -- the text with lines that have no words
    have hfin : preB (linesL s.data.toList) ([32, 35, 32] ++ rem.data.toList ++ [10, 10]) kk ((linesL s.data.toList).length + 1) = cat ((linesL s.data.toList).take kk ++ [[32, 35, 32] ++ rem.data.toList, []] ++ (linesL s.data.toList).drop kk) := by
      have ht : (linesL s.data.toList).take ((linesL s.data.toList).length + 1) = linesL s.data.toList := List.take_of_length_le (by omega)
      unfold preB
      rw [if_neg (by omega), ht, cat_app, cat_app]
      congr 2
      simp [cat]
    have hplen := pre_len (linesL s.data.toList) ([32, 35, 32] ++ rem.data.toList ++ [10, 10]) kk ((linesL s.data.toList).length + 1)
    have hrl := size_list rem
    simp only [List.length_append, List.length_cons, List.length_nil] at hplen
    have hlT : linesL (preB (linesL s.data.toList) ([32, 35, 32] ++ rem.data.toList ++ [10, 10]) kk ((linesL s.data.toList).length + 1)) = (linesL s.data.toList).take kk ++ [[32, 35, 32] ++ rem.data.toList, []] ++ (linesL s.data.toList).drop kk := by
      rw [hfin]
      refine lines_cat _ fun x hx c hc => ?_
      have hl : ∀ x ∈ linesL s.data.toList, ∀ c ∈ x, c ≠ 10 := by
        intro x hx
        unfold linesL at hx
        split at hx
        · cases hx
        · exact split_no _ x hx
      rcases List.mem_append.1 hx with hx | hx
      · rcases List.mem_append.1 hx with hx | hx
        · exact hl x (List.mem_of_mem_take hx) c hc
        · rcases List.mem_cons.1 hx with rfl | hx
          · rcases List.mem_append.1 hc with hc | hc
            · simp at hc; rcases hc with rfl | rfl | rfl <;> decide
            · exact hno c hc
          · obtain rfl : x = [] := by simpa using hx
            cases hc
      · exact hl x (List.mem_of_mem_drop hx) c hc
    have hsplit : rowsT s.data.toList = rowsF 1 ((linesL s.data.toList).take kk) ++ rowsF (1 + (kk : Int)) ((linesL s.data.toList).drop kk) := by
      unfold rowsT
      conv => lhs; rw [← List.take_append_drop kk (linesL s.data.toList)]
      rw [rowsF_app]
      congr 2
      rw [List.length_take]
      omega
    have hrows : rowsT (preB (linesL s.data.toList) ([32, 35, 32] ++ rem.data.toList ++ [10, 10]) kk ((linesL s.data.toList).length + 1)) = rowsF 1 ((linesL s.data.toList).take kk) ++ (rowsF (1 + (kk : Int)) ((linesL s.data.toList).drop kk)).map fun x => (x.1 + 2, x.2) := by
      unfold rowsT
      rw [hlT]
      exact rows_blank _ _ _ hk
    have hA : ∀ x ∈ rowsF 1 ((linesL s.data.toList).take kk), x.1 ≤ (kk : Int) := fun x hx => by
      obtain ⟨j, y, g1, rfl, _⟩ := rowsF_mem 1 _ x hx
      have := (List.getElem?_eq_some_iff.1 g1).1
      rw [List.length_take] at this
      show (1 : Int) + j ≤ kk
      omega
    have hB : ∀ x ∈ rowsF (1 + (kk : Int)) ((linesL s.data.toList).drop kk), (kk : Int) < x.1 := fun x hx => by
      have := rowsF_ge _ _ x hx
      omega
    have hsz : (ofL (preB (linesL s.data.toList) ([32, 35, 32] ++ rem.data.toList ++ [10, 10]) kk ((linesL s.data.toList).length + 1))).size ≤ 2000 := by rw [ofL_size]; omega
    have hpb := parse_blank _ _ (kk : Int) hA hB (parseT s.data.toList) (by unfold parseT; rw [hsplit])
    have hpl := parseT_len s.data.toList
    rw [text_Parse_sp _ (by omega) (by omega), text_Parse_sp _ (by omega) (by omega), text_Lines_sp _ (by omega) (by omega), text_Lines_sp _ (by omega) (by omega), data_ofL]
    simp only [Option.bind_some]
    have hpt : parseT (preB (linesL s.data.toList) ([32, 35, 32] ++ rem.data.toList ++ [10, 10]) kk ((linesL s.data.toList).length + 1)) = parseR (rowsF 1 ((linesL s.data.toList).take kk) ++ (rowsF (1 + (kk : Int)) ((linesL s.data.toList).drop kk)).map fun x => (x.1 + 2, x.2)) := by
      unfold parseT
      rw [hrows]
    have hlens : decide (Int.ofNat (List.map (·.1) (rowsT (preB (linesL s.data.toList) ([32, 35, 32] ++ rem.data.toList ++ [10, 10]) kk ((linesL s.data.toList).length + 1)))).length = Int.ofNat (List.map (·.1) (rowsT s.data.toList)).length) = true := by
      rw [hrows, hsplit]
      simp
    rw [hlens, hpt]
    have hline : 0 ≤ (parseT s.data.toList).2.1 ∧ (parseT s.data.toList).2.1 ≤ 100000 := by
      by_cases hc : (parseT s.data.toList).2.2 = 0
      · rw [(parseT_right hc).2]; simp
      · obtain ⟨_, j, y, _, g2, g3, _⟩ := parseT_fault hc
        have : j < (linesL s.data.toList).length := (List.getElem?_eq_some_iff.1 g2).1
        rw [g3]
        show 0 ≤ (j : Int) + 1 ∧ (j : Int) + 1 ≤ 100000
        omega
    rw [show w64 ((parseT s.data.toList).2.1 + 2) = (parseT s.data.toList).2.1 + 2 from w64' ⟨by omega, by omega⟩]
    rcases hpb with hpb | ⟨hz, hpb⟩
    · rw [hpb]
      by_cases hlt : (kk : Int) < (parseT s.data.toList).2.1
      · rw [decide_eq_true hlt, if_pos hlt]
        simp only [cond_true]
        rw [same_sp _ (by omega) (by omega)]
        simp
      · rw [decide_eq_false hlt, if_neg hlt]
        simp only [cond_false]
        rw [same_sp _ (by omega) (by omega)]
        simp
    · rw [hpb, hz, decide_eq_false (by simp : ¬ (kk : Int) < ((0, 0) : Int × Int).1)]
      simp only [cond_false]
      rw [same_sp _ (by omega) (by omega)]
      simp
/-! ### TextBack -/
theorem back_L0 (l : List GDirective) (hl : l.length ≤ 1000000) (hd : ∀ d ∈ l, D64 d) (s t : ByteArray) (ok : Bool) : ∀ (n i k : Nat) (r : Bool), i + n = l.length → n < k →
    feluccalaw05_TextBack_L0 k (l, s, true, t, ok, r, (i : Int)) = some (.inl (l, s, true, t, ok, r && (l.drop i).all dR))
  | 0, i, k, r, h, hk => by
    obtain ⟨k, rfl⟩ : ∃ m, k = m + 1 := ⟨k - 1, by omega⟩
    rw [feluccalaw05_TextBack_L0, lt_no (by omega), List.drop_eq_nil_of_le (by omega)]
    simp
  | n + 1, i, k, r, h, hk => by
    obtain ⟨k, rfl⟩ : ∃ m, k = m + 1 := ⟨k - 1, by omega⟩
    have hi : i < l.length := by omega
    obtain ⟨he, hx⟩ := hd l[i] (List.getElem_mem hi)
    rw [feluccalaw05_TextBack_L0, lt_yes hi, ge0, getD_nat _ _ hi, right_sp k he hx, w64_succ (by omega), List.drop_eq_getElem_cons hi, List.all_cons]
    simp only [cond_true, Option.bind_some]
    cases r with
    | false =>
      simp only [cond_false, Bool.false_and]
      rw [back_L0 l hl hd s t ok n (i + 1) k false (by omega) (by omega)]
      simp
    | true =>
      simp only [cond_true, Bool.true_and]
      cases dR l[i] with
      | true =>
        simp only [cond_true, Bool.true_and]
        rw [back_L0 l hl hd s t ok n (i + 1) k true (by omega) (by omega)]
        simp
      | false =>
        simp only [cond_false, Bool.false_and]
        rw [back_L0 l hl hd s t ok n (i + 1) k false (by omega) (by omega)]
        simp
theorem right_D64 {d : GDirective} (h : dR d = true) : D64 d := by
  obtain ⟨h1, h2, h3⟩ := dR_shape h
  have hp := dR_pair h
  obtain ⟨o, q, i, f, t, s, e, r, p, u, v, x, y⟩ := d
  simp only [fKsG, List.mem_cons, List.not_mem_nil, or_false, Prod.mk.injEq] at hp
  rcases hp with ⟨rfl, rfl⟩ | ⟨rfl, rfl⟩ | ⟨rfl, rfl⟩ | ⟨rfl, rfl⟩ | ⟨rfl, rfl⟩ | ⟨rfl, rfl⟩ <;>
    simp [vals, mkD] at h1 h2 <;> refine ⟨⟨?_, ?_⟩, ⟨?_, ?_⟩⟩ <;> simp only <;> omega
theorem D64_of {d : GDirective} (h : okvT [.int .i64, .int .i64, .int .i64, .int .i64, .int .i64, .int .i64, .int .i64, .int .i64, .int .i64, .int .i64, .int .i64, .int .i64, .int .i64] d) : D64 d := by
  obtain ⟨_, _, _, _, _, _, h6, _, _, _, _, h11, _⟩ := h
  have g6 : (Lit.int .i64 d.2.2.2.2.2.2.1).wf = true := h6
  have g11 : (Lit.int .i64 d.2.2.2.2.2.2.2.2.2.2.2.1).wf = true := h11
  exact ⟨by simpa [Lit.wf, IntKind.min, IntKind.max, IntKind.signed, IntKind.bits] using g6, by simpa [Lit.wf, IntKind.min, IntKind.max, IntKind.signed, IntKind.bits] using g11⟩
theorem TextBack_pure (l : List GDirective) (s : ByteArray) (hd : ∀ d ∈ l, D64 d) : ∃ k, feluccalaw05_TextBack k (l, s) = some true := by
  refine ⟨400000, ?_⟩
  unfold feluccalaw05_TextBack feluccalaw05_small
  simp only [Option.bind_some, cond_true]
  by_cases h1 : 2000 < s.size
  · rw [show decide ((2000 : Int) < Int.ofNat s.size) = true from decide_eq_true (by show (2000 : Int) < (s.size : Int); omega), cond_true]
  rw [show decide ((2000 : Int) < Int.ofNat s.size) = false from decide_eq_false (by show ¬ (2000 : Int) < (s.size : Int); omega), cond_false]
  by_cases h2 : 100 < l.length
  · rw [show decide ((100 : Int) < Int.ofNat l.length) = true from decide_eq_true (by show (100 : Int) < (l.length : Int); omega), cond_true]
  rw [show decide ((100 : Int) < Int.ofNat l.length) = false from decide_eq_false (by show ¬ (100 : Int) < (l.length : Int); omega), cond_false]
  rw [text_Print_sp _ (by omega) hd (by omega), printT_eq]
  have hsl := size_list s
  have hll := lines_len s.data.toList
  have hpl := parseT_len s.data.toList
  -- what is read of the text
  have hS : text_Parse 400000 s = some (parseT s.data.toList) := text_Parse_sp _ (by omega) (by omega)
  have hL : words_Lines 400000 s = some ((linesL s.data.toList).map ofL) := words_Lines_sp _ (by omega)
  have fault : (parseT s.data.toList).2.2 ≠ 0 → (parseT s.data.toList).1 = [] ∧ 1 ≤ (parseT s.data.toList).2.1 ∧ (parseT s.data.toList).2.1 ≤ ((linesL s.data.toList).length : Int) := fun hc => by
    obtain ⟨_, j, y, _, g2, g3, _⟩ := parseT_fault hc
    have : j < (linesL s.data.toList).length := (List.getElem?_eq_some_iff.1 g2).1
    rw [g3]
    exact ⟨rfl, by show (1 : Int) ≤ (j : Int) + 1; omega, by show (j : Int) + 1 ≤ _; omega⟩
  have fine : (parseT s.data.toList).2.2 = 0 → text_Print 400000 (parseT s.data.toList).1 = some (ofL (textB (parseT s.data.toList).1), true) ∧ text_Parse 400000 (ofL (textB (parseT s.data.toList).1)) = some ((parseT s.data.toList).1, (0, 0)) ∧ feluccaref05_Same 400000 ((parseT s.data.toList).1, (parseT s.data.toList).1) = some true := fun hc => by
    obtain ⟨g1, g2⟩ := parseT_right hc
    have hlen := textB_len _ g1
    have : (parseT s.data.toList).1.length * 171 ≤ 2001 * 171 := Nat.mul_le_mul_right _ (by omega)
    refine ⟨?_, ?_, ?_⟩
    · rw [text_Print_sp _ (by omega) (fun d hd => right_D64 (g1 d hd)) (by omega), printT_eq, List.all_eq_true.2 g1]
      rfl
    · rw [text_Parse_sp _ (by rw [ofL_size]; omega) (by rw [ofL_size]; omega), data_ofL, parse_text _ g1]
    · rw [same_sp _ (by omega) (by omega), decide_eq_true rfl]
  cases ha : l.all dR with
  | true =>
    have hr : ∀ d ∈ l, dR d = true := List.all_eq_true.1 ha
    have hlen := textB_len l hr
    have hl2 : l.length * 171 ≤ 100 * 171 := Nat.mul_le_mul_right _ (by omega)
    have hP : text_Parse 400000 (ofL (textB l)) = some (l, (0, 0)) := by rw [text_Parse_sp _ (by rw [ofL_size]; omega) (by rw [ofL_size]; omega), data_ofL, parse_text l hr]
    have hM : feluccaref05_Same 400000 (l, l) = some true := by rw [same_sp _ (by omega) (by omega), decide_eq_true rfl]
    simp only [cond_true, Option.bind_some]
    have hb := back_L0 l (by omega) hd s (ofL (textB l)) true l.length 0 400000 true (by omega) (by omega)
    rw [show ((0 : Nat) : Int) = 0 from rfl, List.drop_zero, ha] at hb
    rw [hb]
    simp only [Bool.and_self, Option.bind_some, cond_true, hP, hM, hS, hL]
    by_cases hc : (parseT s.data.toList).2.2 = 0
    · obtain ⟨f1, f2, f3⟩ := fine hc
      have hz := (parseT_right hc).2
      simp only [f1, f2, f3, hz, Option.bind_some, cond_true]
      rfl
    · obtain ⟨f1, f2, f3⟩ := fault hc
      simp only [f1, decide_eq_false hc, decide_eq_true f2, Option.bind_some, List.length_map, cond_true, Bool.not_false]
      rw [show decide ((parseT s.data.toList).2.1 ≤ Int.ofNat (linesL s.data.toList).length) = true from decide_eq_true f3]
      rfl
  | false =>
    simp only [cond_false, Option.bind_some]
    have hb := back_L0 l (by omega) hd s (ofL []) false l.length 0 400000 true (by omega) (by omega)
    rw [show ((0 : Nat) : Int) = 0 from rfl, List.drop_zero, ha] at hb
    rw [hb]
    simp only [Bool.and_false, Option.bind_some, cond_false, cond_true, hS, hL]
    by_cases hc : (parseT s.data.toList).2.2 = 0
    · obtain ⟨f1, f2, f3⟩ := fine hc
      have hz := (parseT_right hc).2
      simp only [f1, f2, f3, hz, Option.bind_some, cond_true]
      rfl
    · obtain ⟨f1, f2, f3⟩ := fault hc
      simp only [f1, decide_eq_false hc, decide_eq_true f2, Option.bind_some, List.length_map, cond_true, Bool.not_false]
      rw [show decide ((parseT s.data.toList).2.1 ≤ Int.ofNat (linesL s.data.toList).length) = true from decide_eq_true f3]
      rfl
end Go.Proofs.YtaknikdbnfmlfaaDoor.Ex
