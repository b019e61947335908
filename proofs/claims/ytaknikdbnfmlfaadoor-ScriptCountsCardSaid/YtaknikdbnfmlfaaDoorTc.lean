/- The text functions of the program in plain words: rows, Parse, Lines, Print. -/
import Derived.Test.YtaknikdbnfmlfaaDoorTb
import Derived.Test.YtaknikdbnfmlfaaDoorTw
namespace Go.Proofs.YtaknikdbnfmlfaaDoor.Ex
open Go Go.RowKit Go.Lib Go.Proofs.YtaknikdbnfmlfaaDoor.Wrd Go.Proofs.YtaknikdbnfmlfaaDoor.Dig
set_option linter.unusedVariables false
set_option linter.unusedSimpArgs false
theorem getD_nat {α : Type} (l : List α) (z : α) {j : Nat} (h : j < l.length) : l.getD ((j : Int)).toNat z = l[j] := by
  rw [Int.toNat_natCast, List.getD_eq_getElem?_getD, List.getElem?_eq_getElem h]; rfl
theorem lt_yes {i n : Nat} (h : i < n) : decide ((i : Int) < Int.ofNat n) = true := decide_eq_true (by simpa using h)
theorem lt_no {i n : Nat} (h : n ≤ i) : decide ((i : Int) < Int.ofNat n) = false := decide_eq_false (by simp; omega)
theorem ge0 (i : Nat) : decide ((0 : Int) ≤ (i : Int)) = true := decide_eq_true (by omega)
theorem w64_succ {i : Nat} (h : i ≤ 4611686018427387904) : w64 ((i : Int) + 1) = ((i + 1 : Nat) : Int) := by
  rw [w64' ⟨by omega, by omega⟩]; omega
theorem words_Words_sp (k : Nat) {l : List UInt8} (h : l.length < 4294967281) : words_Words k (ofL l) = some ((wordsL l).map ofL) := by
  unfold words_Words
  rw [decide_eq_true (by rw [ofL_size]; exact h), data_ofL]
  rfl
theorem words_Lines_sp (k : Nat) {s : ByteArray} (h : s.size < 4294967281) : words_Lines k s = some ((linesL s.data.toList).map ofL) := by
  unfold words_Lines
  rw [decide_eq_true h]
  rfl
def rowsF : Int → List (List UInt8) → List (Int × List ByteArray)
  | _, [] => []
  | i, x :: r => bif (wordsL x).isEmpty then rowsF (i + 1) r else (i, (wordsL x).map ofL) :: rowsF (i + 1) r
/-- The lines that have words, and their numbers. -/
def rowsT (s : List UInt8) : List (Int × List ByteArray) := rowsF 1 (linesL s)
theorem rows_L0 (M : List (List UInt8)) (hM : M.length ≤ 1000000) (hs : ∀ x ∈ M, x.length ≤ 1000000) : ∀ (n i k : Nat) (out : List (Int × List ByteArray)), i + n = M.length → n < k → out.length ≤ i →
    text_rows_L0 k (out, M.map ofL, Int.ofNat (M.map ofL).length, (i : Int)) = some (.inl (out ++ rowsF ((i + 1 : Nat) : Int) (M.drop i)))
  | 0, i, k, out, h, hk, ho => by
    obtain ⟨k, rfl⟩ : ∃ m, k = m + 1 := ⟨k - 1, by omega⟩
    rw [text_rows_L0, lt_no (by rw [List.length_map]; omega), List.drop_eq_nil_of_le (by omega)]
    simp [rowsF]
  | n + 1, i, k, out, h, hk, ho => by
    obtain ⟨k, rfl⟩ : ∃ m, k = m + 1 := ⟨k - 1, by omega⟩
    have hi : i < M.length := by omega
    have hi' : i < (M.map ofL).length := by rw [List.length_map]; exact hi
    have hx := hs M[i] (List.getElem_mem hi)
    rw [text_rows_L0, lt_yes hi', ge0, getD_nat _ _ hi', List.getElem_map, words_Words_sp k (by omega), w64_succ (by omega), List.drop_eq_getElem_cons hi]
    simp only [cond_true, Option.bind_some, rowsF]
    cases hw : wordsL M[i] with
    | nil =>
      simp only [List.map_nil, List.length_nil, List.isEmpty_nil, cond_true]
      rw [show decide ((0 : Int) < Int.ofNat 0) = false from rfl, cond_false, rows_L0 M hM hs n (i + 1) k out (by omega) (by omega) (by omega)]
      rw [show (((i + 1 : Nat) : Int) + 1) = ((i + 1 + 1 : Nat) : Int) by omega]
    | cons w ws =>
      simp only [List.map_cons, List.length_cons, List.isEmpty_cons, cond_false]
      rw [show decide ((0 : Int) < Int.ofNat ((ws.map ofL).length + 1)) = true from decide_eq_true (by simp <;> omega), cond_true, decide_eq_true (by simp <;> omega), cond_true, rows_L0 M hM hs n (i + 1) k _ (by omega) (by omega) (by simp; omega)]
      rw [show (((i + 1 : Nat) : Int) + 1) = ((i + 1 + 1 : Nat) : Int) by omega]
      simp
theorem lines_each (s : List UInt8) : ∀ x ∈ linesL s, x.length ≤ s.length := by
  intro x hx
  have h : x.length + 1 ≤ (cat (linesL s)).length := by
    have : ∀ (L : List (List UInt8)), x ∈ L → x.length + 1 ≤ (cat L).length := by
      intro L
      induction L with
      | nil => intro h; cases h
      | cons y r ih =>
        intro h
        have e : (cat (y :: r)).length = y.length + 1 + (cat r).length := by simp [cat]; omega
        rcases List.mem_cons.1 h with rfl | h
        · omega
        · have := ih h; omega
    exact this _ hx
  rcases cat_lines s with h2 | h2 <;> rw [h2] at h
  · omega
  · simp at h; omega
theorem rows_sp (k : Nat) {s : ByteArray} (hs : s.size ≤ 900000) (hk : s.size + 2 < k) : text_rows k s = some (rowsT s.data.toList) := by
  have e : s.data.toList.length = s.size := by rw [Array.length_toList]; rfl
  have h1 := lines_len s.data.toList
  unfold text_rows
  rw [words_Lines_sp k (by omega), Option.bind_some, show (0 : Int) = ((0 : Nat) : Int) from rfl, rows_L0 (linesL s.data.toList) (by omega) (fun x hx => by have := lines_each _ x hx; omega) (linesL s.data.toList).length 0 k [] (by omega) (by omega) (by simp)]
  rfl
def parseS : List (Int × List ByteArray) → List GDirective → ((Int × Int) × List GDirective) ⊕ (List GDirective × (Int × Int))
  | [], acc => .inl ((0, 0), acc)
  | x :: r, acc => bif decide ((parseB x.2).2 = 0) then parseS r (acc ++ [(parseB x.2).1]) else .inr ([], (x.1, (parseB x.2).2))
/-- What rows of words say: directives, or a fault. -/
def parseR (R : List (Int × List ByteArray)) : List GDirective × (Int × Int) := match parseS R [] with
  | .inl o => (o.2, (0, 0))
  | .inr o => o
theorem parse_L0 (R : List (Int × List ByteArray)) (hR : R.length ≤ 1000000) (hs : ∀ x ∈ R, ∀ a ∈ x.2, a.size ≤ 9223372036854775807) : ∀ (n i k : Nat) (acc : List GDirective), i + n = R.length → n < k → acc.length ≤ i →
    text_Parse_L0 k ((0, 0), acc, R, Int.ofNat R.length, (i : Int)) = some (parseS (R.drop i) acc)
  | 0, i, k, acc, h, hk, ho => by
    obtain ⟨k, rfl⟩ : ∃ m, k = m + 1 := ⟨k - 1, by omega⟩
    rw [text_Parse_L0, lt_no (by omega), List.drop_eq_nil_of_le (by omega)]
    rfl
  | n + 1, i, k, acc, h, hk, ho => by
    obtain ⟨k, rfl⟩ : ∃ m, k = m + 1 := ⟨k - 1, by omega⟩
    have hi : i < R.length := by omega
    rw [text_Parse_L0, lt_yes hi, ge0, getD_nat _ _ hi, parse_sp k (hs R[i] (List.getElem_mem hi)), w64_succ (by omega), List.drop_eq_getElem_cons hi]
    simp only [cond_true, Option.bind_some, parseS]
    cases hd : decide ((parseB R[i].2).2 = 0) with
    | false => rfl
    | true =>
      simp only [Bool.not_true, cond_false, cond_true]
      rw [decide_eq_true (by simp; omega), cond_true, parse_L0 R hR hs n (i + 1) k _ (by omega) (by omega) (by simp; omega)]
theorem rowsF_len : ∀ (i : Int) (M : List (List UInt8)), (rowsF i M).length ≤ M.length
  | _, [] => Nat.le_refl _
  | i, x :: r => by
    have := rowsF_len (i + 1) r
    simp only [rowsF]
    cases (wordsL x).isEmpty <;> simp <;> omega
theorem rowsF_mem : ∀ (i : Int) (M : List (List UInt8)) (x : Int × List ByteArray), x ∈ rowsF i M → ∃ (j : Nat) (y : List UInt8), M[j]? = some y ∧ x = (i + (j : Int), (wordsL y).map ofL) ∧ wordsL y ≠ []
  | _, [], x, h => by cases h
  | i, y :: r, x, h => by
    simp only [rowsF] at h
    cases hw : (wordsL y).isEmpty with
    | true =>
      rw [hw] at h
      obtain ⟨j, z, h1, h2, h3⟩ := rowsF_mem (i + 1) r x h
      exact ⟨j + 1, z, by simpa using h1, by rw [h2]; simp; omega, h3⟩
    | false =>
      rw [hw] at h
      rcases List.mem_cons.1 h with rfl | h
      · exact ⟨0, y, rfl, by simp, by intro e; rw [e] at hw; simp at hw⟩
      · obtain ⟨j, z, h1, h2, h3⟩ := rowsF_mem (i + 1) r x h
        exact ⟨j + 1, z, by simpa using h1, by rw [h2]; simp; omega, h3⟩
theorem rowsT_size (s : List UInt8) (hs : s.length ≤ 900000) : ∀ x ∈ rowsT s, ∀ a ∈ x.2, a.size ≤ 900000 := by
  intro x hx a ha
  obtain ⟨j, y, h1, rfl, _⟩ := rowsF_mem 1 _ x hx
  obtain ⟨w, hw, rfl⟩ := List.mem_map.1 ha
  rw [ofL_size]
  have := words_size y w hw
  have := lines_each s y (List.mem_of_getElem? h1)
  omega
/-- What a text says. -/
def parseT (s : List UInt8) : List GDirective × (Int × Int) := parseR (rowsT s)
theorem text_Parse_sp (k : Nat) {s : ByteArray} (hs : s.size ≤ 900000) (hk : s.size + 2 < k) : text_Parse k s = some (parseT s.data.toList) := by
  have e : s.data.toList.length = s.size := by rw [Array.length_toList]; rfl
  have h1 := lines_len s.data.toList
  have h2 : (rowsT s.data.toList).length ≤ (linesL s.data.toList).length := rowsF_len _ _
  unfold text_Parse
  rw [rows_sp k hs hk, Option.bind_some, show (0 : Int) = ((0 : Nat) : Int) from rfl]
  have := parse_L0 (rowsT s.data.toList) (by omega) (fun x hx a ha => by have := rowsT_size _ (by omega) x hx a ha; omega) (rowsT s.data.toList).length 0 k [] (by omega) (by omega) (by simp)
  rw [show ((0, 0) : Int × Int) = (((0 : Nat) : Int), ((0 : Nat) : Int)) from rfl] at this
  rw [this, List.drop_zero, Option.bind_some]
  unfold parseT parseR
  cases parseS (rowsT s.data.toList) [] <;> rfl
theorem lines_L0 (R : List (Int × List ByteArray)) (hR : R.length ≤ 1000000) : ∀ (n i k : Nat) (acc : List Int), i + n = R.length → n < k → acc.length ≤ i →
    text_Lines_L0 k (acc, R, Int.ofNat R.length, (i : Int)) = some (.inl (acc ++ (R.drop i).map (·.1)))
  | 0, i, k, acc, h, hk, ho => by
    obtain ⟨k, rfl⟩ : ∃ m, k = m + 1 := ⟨k - 1, by omega⟩
    rw [text_Lines_L0, lt_no (by omega), List.drop_eq_nil_of_le (by omega)]
    simp
  | n + 1, i, k, acc, h, hk, ho => by
    obtain ⟨k, rfl⟩ : ∃ m, k = m + 1 := ⟨k - 1, by omega⟩
    have hi : i < R.length := by omega
    rw [text_Lines_L0, lt_yes hi, ge0, getD_nat _ _ hi, w64_succ (by omega), List.drop_eq_getElem_cons hi]
    simp only [cond_true, List.map_cons]
    rw [decide_eq_true (by simp; omega), cond_true, lines_L0 R hR n (i + 1) k _ (by omega) (by omega) (by simp; omega)]
    simp
theorem text_Lines_sp (k : Nat) {s : ByteArray} (hs : s.size ≤ 900000) (hk : s.size + 2 < k) : text_Lines k s = some ((rowsT s.data.toList).map (·.1)) := by
  have e : s.data.toList.length = s.size := by rw [Array.length_toList]; rfl
  have h1 := lines_len s.data.toList
  have h2 : (rowsT s.data.toList).length ≤ (linesL s.data.toList).length := rowsF_len _ _
  unfold text_Lines
  rw [rows_sp k hs hk, Option.bind_some, show (0 : Int) = ((0 : Nat) : Int) from rfl, lines_L0 (rowsT s.data.toList) (by omega) (rowsT s.data.toList).length 0 k [] (by omega) (by omega) (by simp)]
  simp
/-! ### printing -/
theorem line_sp (k : Nat) {l : List ByteArray} (hl : l.length ≤ 1000000) (hx : ∀ x ∈ l, x.size ≤ 1000000) : words_Line k l = some (ofL (jnB l ++ [10])) := by
  have h1 := jnB_len l 1000000 hx
  have hsz : (ofL (jnB l)).size ≤ 140737488355328 := by rw [ofL_size]; have : l.length * (1000000 + 1) ≤ 1000000 * 1000001 := Nat.mul_le_mul_right _ hl; omega
  have e : joinB l ⟨#[32]⟩ = ofL (jnB l) := rfl
  unfold words_Line strings_Join joinF
  simp only [e]
  rw [decide_eq_true (by omega : l.length ≤ 140737488355328), decide_eq_true hsz]
  simp only [Bool.and_self, cond_true, Option.bind_some]
  rw [decide_eq_true (by rw [ofL_size] at hsz ⊢; show (jnB l).length + 1 ≤ _; omega), cond_true]
  rw [show (⟨#[10]⟩ : ByteArray) = ofL [10] from rfl, ofL_append]
theorem word_len {n : Int} (h0 : 0 ≤ n) (h1 : n ≤ 2147483647) : (tB n).size ≤ 20 := by
  unfold tB
  rw [ofL_size, itoaK_eq (by omega) (by omega)]
  unfold itoa
  rw [if_neg (by omega)]
  have := dec_len n.toNat 9 (by omega)
  omega
theorem wordsB_size {d : GDirective} (h : dR d = true) : (wordsB d).length ≤ 8 ∧ ∀ a ∈ wordsB d, a.size ≤ 20 := by
  obtain ⟨_, h2, h3⟩ := dR_shape h
  have := (nOf_pos (d.1, d.2.1)).2
  refine ⟨by simp only [wordsB, List.length_cons, List.length_map]; omega, fun a ha => ?_⟩
  have hop : ∀ n, (opB n).length ≤ 20 := fun n => by unfold opB; split <;> decide
  have hkd : ∀ n, (kdB n).length ≤ 20 := fun n => by unfold kdB; split <;> decide
  unfold wordsB at ha
  rcases List.mem_cons.1 ha with rfl | ha
  · rw [ofL_size]; exact hop _
  rcases List.mem_cons.1 ha with rfl | ha
  · rw [ofL_size]; exact hkd _
  obtain ⟨n, hn, rfl⟩ := List.mem_map.1 ha
  exact word_len (h2 n hn).1 (h2 n hn).2
/-- A directive's line. -/
def lineB (d : GDirective) : List UInt8 := jnB (wordsB d) ++ [10]
theorem lineB_len {d : GDirective} (h : dR d = true) : (lineB d).length ≤ 170 := by
  obtain ⟨h1, h2⟩ := wordsB_size h
  have := jnB_len (wordsB d) 20 h2
  have : (wordsB d).length * (20 + 1) ≤ 8 * 21 := Nat.mul_le_mul_right _ h1
  simp only [lineB, List.length_append, List.length_cons, List.length_nil]
  omega
def printS : List GDirective → List UInt8 → ByteArray ⊕ (ByteArray × Bool)
  | [], b => .inl (ofL b)
  | d :: r, b => bif dR d then printS r (b ++ lineB d) else .inr (ofL [], false)
/-- What directives are written as. -/
def printT (l : List GDirective) : ByteArray × Bool := match printS l [] with
  | .inl o => (o, true)
  | .inr o => o
/-- Numbers that fit. -/
abbrev D64 (d : GDirective) : Prop := In64 d.2.2.2.2.2.2.1 ∧ In64 d.2.2.2.2.2.2.2.2.2.2.2.1
theorem print_L0 (l : List GDirective) (hl : l.length ≤ 1000000) (hd : ∀ d ∈ l, D64 d) : ∀ (n i k : Nat) (b : List UInt8), i + n = l.length → n < k → b.length ≤ i * 170 →
    text_Print_L0 k (ofL b, l, Int.ofNat l.length, (i : Int)) = some (printS (l.drop i) b)
  | 0, i, k, b, h, hk, ho => by
    obtain ⟨k, rfl⟩ : ∃ m, k = m + 1 := ⟨k - 1, by omega⟩
    rw [text_Print_L0, lt_no (by omega), List.drop_eq_nil_of_le (by omega)]
    rfl
  | n + 1, i, k, b, h, hk, ho => by
    obtain ⟨k, rfl⟩ : ∃ m, k = m + 1 := ⟨k - 1, by omega⟩
    have hi : i < l.length := by omega
    obtain ⟨he, hx⟩ := hd l[i] (List.getElem_mem hi)
    rw [text_Print_L0, lt_yes hi, ge0, getD_nat _ _ hi, words_sp k he hx, w64_succ (by omega), List.drop_eq_getElem_cons hi]
    simp only [cond_true, Option.bind_some, printS]
    cases hr : dR l[i] with
    | false => rfl
    | true =>
      obtain ⟨h1, h2⟩ := wordsB_size hr
      have h3 := lineB_len hr
      have h4 : i * 170 ≤ 1000000 * 170 := Nat.mul_le_mul_right _ (by omega)
      simp only [cond_true]
      rw [line_sp k (by omega) (fun x hx => by have := h2 x hx; omega), Option.bind_some, decide_eq_true (by rw [ofL_size, ofL_size]; have : (jnB (wordsB l[i]) ++ [10]).length = (lineB l[i]).length := rfl; omega), cond_true, ofL_append]
      exact print_L0 l hl hd n (i + 1) k _ (by omega) (by omega) (by simp only [List.length_append]; have : (jnB (wordsB l[i]) ++ [10]).length = (lineB l[i]).length := rfl; simp only [List.length_append] at this; rw [this]; omega)
theorem text_Print_sp (k : Nat) {l : List GDirective} (hl : l.length ≤ 1000000) (hd : ∀ d ∈ l, D64 d) (hk : l.length < k) : text_Print k l = some (printT l) := by
  unfold text_Print
  rw [show (0 : Int) = ((0 : Nat) : Int) from rfl, show (⟨#[]⟩ : ByteArray) = ofL [] from rfl, print_L0 l hl hd l.length 0 k [] (by omega) hk (by simp), Option.bind_some, List.drop_zero]
  unfold printT
  cases printS l [] <;> rfl
end Go.Proofs.YtaknikdbnfmlfaaDoor.Ex
