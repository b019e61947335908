/- The laws of layer 2 over lists of bytes. -/
import Derived.Test.YtacdldlnnnahkaaDoorPureWords
import Derived.Test.YtacdldlnnnahkaaDoorPfeluccalaw02WordsTells
import Derived.Test.YtacdldlnnnahkaaDoorPfeluccalaw02WordsBack
import Derived.Test.YtacdldlnnnahkaaDoorPfeluccalaw02WordsPlain
import Derived.Test.YtacdldlnnnahkaaDoorPfeluccalaw02WordsLines
import Derived.Test.YtacdldlnnnahkaaDoorPfeluccalaw02WordsCut
namespace Go.Proofs.YtacdldlnnnahkaaDoor.PureWordsL
open Go.RowKit Go.Proofs.YtacdldlnnnahkaaDoorW.PrintWords Go.Proofs.YtacdldlnnnahkaaDoorW.PrintLast Go.Proofs.YtacdldlnnnahkaaDoorW.PrintMore Go.Proofs.YtacdldlnnnahkaaDoor.Pr Go.Proofs.YtacdldlnnnahkaaDoor.Wrd Go.Proofs.YtacdldlnnnahkaaDoor.PureWords

theorem small_true {k : Nat} (hk : 10 ≤ k) : feluccalaw02_small.f k = some true := by
  have e1 : words_Lines.f (⟨#[97, 10, 10, 98]⟩ : ByteArray) = some [(⟨#[97]⟩ : ByteArray), (⟨#[]⟩ : ByteArray), (⟨#[98]⟩ : ByteArray)] := by
    rw [lines_some _ (by decide)]; rfl
  have e2 : words_Lines.f (⟨#[]⟩ : ByteArray) = some [] := by rw [lines_some _ (by decide)]; rfl
  have e3 : words_Lines.f (⟨#[10]⟩ : ByteArray) = some [(⟨#[]⟩ : ByteArray)] := by rw [lines_some _ (by decide)]; rfl
  have e4 : words_Words.f (⟨#[9, 97, 32, 32, 99, 111, 110, 116, 97, 99, 116, 13, 35, 32, 120, 32, 35, 32, 121]⟩ : ByteArray) = some [(⟨#[97]⟩ : ByteArray), (⟨#[99, 111, 110, 116, 97, 99, 116]⟩ : ByteArray)] := by
    rw [words_some _ (by decide)]; rfl
  have e5 : words_Words.f (⟨#[35, 32, 97]⟩ : ByteArray) = some [] := by rw [words_some _ (by decide)]; rfl
  have e6 : words_Line.f [(⟨#[97]⟩ : ByteArray), (⟨#[98]⟩ : ByteArray)] = some ⟨#[97, 32, 98, 10]⟩ := by
    rw [line_some _ (by decide) 1 (by decide) (by decide)]; rfl
  have e7 : words_Line.f [] = some ⟨#[10]⟩ := by rw [line_some _ (by decide) 1 (by simp) (by decide)]; rfl
  unfold feluccalaw02_small.f
  simp only [e1, e2, e3, e4, e5, e6, e7, Option.bind_some]
  rw [same_some _ _ (by decide) (by simp; omega), same_some _ _ (by decide) (by simp; omega), same_some _ _ (by decide) (by simp; omega)]
  simp only [decide_true, Option.bind_some, if_true]
  decide +kernel

theorem tells_loop (s : ByteArray) (l : List ByteArray) (hs : s.size ≤ 500) (hl : l.length ≤ 50) (d : Nat) : ∀ (k i : Nat), i + d = l.length → d + 1100 ≤ k → (∀ j (h : j < l.length), j < i → (l[j]).size ≤ 100) →
    feluccalaw02_WordsTells.l0 k s l true (i : Int) = some true := by
  induction d with
  | zero =>
    intro k i hi hk hx
    obtain ⟨k, rfl⟩ : ∃ q, k = q + 1 := ⟨k - 1, by omega⟩
    have hall : ∀ x ∈ l, x.size ≤ 100 := by
      intro x hm
      obtain ⟨j, hj, rfl⟩ := List.mem_iff_getElem.1 hm
      exact hx j hj (by omega)
    have n1 := lines_len s.data.toList
    have n2 := words_len s.data.toList
    have n3 : s.data.toList.length = s.size := by simp
    simp only [feluccalaw02_WordsTells.l0]
    rw [if_neg (by omega), if_pos trivial, lines_some s (by omega), reflines_some s (by omega) (by omega)]
    simp only [Option.bind_some]
    rw [same_some _ _ (by simp; omega) (by simp; omega)]
    simp only [decide_true, Option.bind_some, if_true]
    rw [words_some s (by omega), refwords_some s (by omega) (by omega)]
    simp only [Option.bind_some]
    rw [same_some _ _ (by simp; omega) (by simp; omega)]
    simp only [decide_true, Option.bind_some, if_true]
    rw [line_some l (by omega) 100 hall (by omega), refline_some l (by omega) 100 hall (by omega) (by omega)]
    simp
  | succ d ih =>
    intro k i hi hk hx
    obtain ⟨k, rfl⟩ : ∃ q, k = q + 1 := ⟨k - 1, by omega⟩
    simp only [feluccalaw02_WordsTells.l0]
    rw [if_pos (by omega), if_pos (by omega), rd_at l i (by omega)]
    by_cases h : ((l[i]'(by omega)).size : Int) > 100
    · rw [if_pos h]
    · rw [if_neg h, w64 (by omega) (by omega), show (i : Int) + 1 = ((i + 1 : Nat) : Int) by omega]
      exact ih k (i + 1) (by omega) (by omega) (fun j hj hji => by
        rcases Nat.lt_or_ge j i with h' | h'
        · exact hx j hj h'
        · obtain rfl : j = i := by omega
          omega)

theorem WordsTells (s : ByteArray) (l : List ByteArray) : feluccalaw02_WordsTells.f 2000 s l = some true := by
  unfold feluccalaw02_WordsTells.f
  rw [small_true (by omega)]
  simp only [Option.bind_some]
  by_cases hs : (s.size : Int) > 500
  · rw [if_pos hs]; simp [feluccalaw02_WordsTells.j0]
  · rw [if_neg hs]
    simp only [feluccalaw02_WordsTells.j0]
    by_cases hl : (l.length : Int) > 50
    · rw [if_pos (decide_eq_true hl)]
    · rw [if_neg (by simpa using hl)]
      exact tells_loop s l (by omega) (by omega) l.length 1999 0 (by omega) (by omega) (fun j _ h => absurd h (Nat.not_lt_zero j))

/-! ### words and their lines -/
def plainB (l : List UInt8) : Prop := (∀ c ∈ l, blk c = false ∧ c ≠ 10 ∧ c ≠ 35) ∧ l ≠ []

theorem plain_loop (s : ByteArray) (hs : s.size ≤ 9223372036854775807) (d : Nat) : ∀ (k i : Nat), i + d = s.size → d < k → ∃ b, feluccalaw02_plain.l0 k s (i : Int) = some b ∧ (b = true → (∀ c ∈ s.data.toList.drop i, blk c = false ∧ c ≠ 10 ∧ c ≠ 35) ∧ s.data.toList ≠ []) := by
  induction d with
  | zero =>
    intro k i hi hk
    obtain ⟨k, rfl⟩ : ∃ q, k = q + 1 := ⟨k - 1, by omega⟩
    simp only [feluccalaw02_plain.l0]
    rw [if_neg (by omega), List.drop_of_length_le (by simp; omega)]
    refine ⟨_, rfl, fun h => ⟨(fun c hc => absurd hc (by simp)), ?_⟩⟩
    rw [bne_iff_ne, ByteArray.toList_eq] at h
    exact h
  | succ d ih =>
    intro k i hi hk
    obtain ⟨k, rfl⟩ : ∃ q, k = q + 1 := ⟨k - 1, by omega⟩
    have hlt : i < s.size := by omega
    obtain ⟨b, hb, hb2⟩ := ih k (i + 1) (by omega) (by omega)
    have e1 : (((s[i]'hlt).toNat : Int) = 32) ↔ (s[i]'hlt) = 32 := byte_is (n := 32) (by omega)
    have e2 : (((s[i]'hlt).toNat : Int) = 9) ↔ (s[i]'hlt) = 9 := byte_is (n := 9) (by omega)
    have e3 : (((s[i]'hlt).toNat : Int) = 13) ↔ (s[i]'hlt) = 13 := byte_is (n := 13) (by omega)
    have e4 : (((s[i]'hlt).toNat : Int) = 10) ↔ (s[i]'hlt) = 10 := byte_is (n := 10) (by omega)
    have e5 : (((s[i]'hlt).toNat : Int) = 35) ↔ (s[i]'hlt) = 35 := byte_is (n := 35) (by omega)
    simp only [feluccalaw02_plain.l0]
    rw [if_pos (by omega), if_pos (by omega), bt_get s i hlt, w64 (by omega) (by omega), show (i : Int) + 1 = ((i + 1 : Nat) : Int) by omega, hb, drop_at s i hlt]
    simp only [e1, e2, e3, e4, e5]
    by_cases h1 : (s[i]'hlt) = 32
    · exact ⟨false, if_pos h1, fun h => by cases h⟩
    · rw [if_neg h1]
      by_cases h2 : (s[i]'hlt) = 9
      · exact ⟨false, if_pos h2, fun h => by cases h⟩
      · rw [if_neg h2]
        by_cases h3 : (s[i]'hlt) = 13
        · exact ⟨false, if_pos h3, fun h => by cases h⟩
        · rw [if_neg h3]
          by_cases h4 : (s[i]'hlt) = 10
          · exact ⟨false, if_pos h4, fun h => by cases h⟩
          · rw [if_neg h4]
            by_cases h5 : (s[i]'hlt) = 35
            · exact ⟨false, if_pos h5, fun h => by cases h⟩
            · rw [if_neg h5]
              refine ⟨b, rfl, fun h => ⟨fun c hc => ?_, (hb2 h).2⟩⟩
              rcases List.mem_cons.1 hc with rfl | hc
              · exact ⟨by unfold blk; simp [h1, h2, h3], h4, h5⟩
              · exact (hb2 h).1 c hc
theorem plain_some (s : ByteArray) (hs : s.size ≤ 9223372036854775807) {k : Nat} (hk : s.size < k) : ∃ b, feluccalaw02_plain.f k s = some b ∧ (b = true → plainB s.data.toList) := by
  obtain ⟨b, h1, h2⟩ := plain_loop s hs s.size k 0 (by omega) hk
  exact ⟨b, h1, fun h => by have := h2 h; rw [List.drop_zero] at this; exact this⟩

theorem wgo_join : ∀ (L : List (List UInt8)), (∀ x ∈ L, plainB x) → wgo (([32] : List UInt8).intercalate L) [] = L
  | [], _ => rfl
  | [a], h => by
    have ha := h a List.mem_cons_self
    have e : ([32] : List UInt8).intercalate [a] = a ++ [] := by simp [List.intercalate]
    rw [e, wgo_run a [] [] (fun c hc => (ha.1 c hc).1)]
    unfold wgo
    rw [List.nil_append, if_neg ha.2]
  | a :: b :: l, h => by
    have ha := h a List.mem_cons_self
    have ih := wgo_join (b :: l) (fun x hx => h x (List.mem_cons_of_mem _ hx))
    have e : ([32] : List UInt8).intercalate (a :: b :: l) = a ++ (32 :: ([32] : List UInt8).intercalate (b :: l)) := by
      have e2 : List.intersperse [32] (a :: b :: l) = a :: [32] :: List.intersperse [32] (b :: l) := rfl
      unfold List.intercalate
      rw [e2, List.flatten_cons, List.flatten_cons]; rfl
    rw [e, wgo_run a _ [] (fun c hc => (ha.1 c hc).1), List.nil_append]
    simp only [wgo]
    rw [if_pos (by rfl), if_neg ha.2, ih]
theorem mem_join {c : UInt8} : ∀ (L : List (List UInt8)), c ∈ ([32] : List UInt8).intercalate L → c = 32 ∨ ∃ x ∈ L, c ∈ x
  | [], h => by simp [List.intercalate] at h
  | [a], h => by
    have e : ([32] : List UInt8).intercalate [a] = a := by simp [List.intercalate]
    rw [e] at h
    exact .inr ⟨a, List.mem_cons_self, h⟩
  | a :: b :: l, h => by
    have e2 : List.intersperse [32] (a :: b :: l) = a :: [32] :: List.intersperse [32] (b :: l) := rfl
    unfold List.intercalate at h
    rw [e2, List.flatten_cons, List.flatten_cons, List.mem_append, List.mem_append] at h
    rcases h with h | h | h
    · exact .inr ⟨a, List.mem_cons_self, h⟩
    · exact .inl (by simpa using h)
    · rcases mem_join (b :: l) h with h | ⟨x, hx, hc⟩
      · exact .inl h
      · exact .inr ⟨x, List.mem_cons_of_mem _ hx, hc⟩
/-- A row that may be asked. -/
def rowOk (r : List ByteArray) : Prop := r.length ≤ 20 ∧ ∀ x ∈ r, plainB x.data.toList ∧ x.size ≤ 50
theorem bare_all (l : List UInt8) (h : ∀ c ∈ l, c ≠ 35) : bare l = l := by
  unfold bare
  induction l with
  | nil => rfl
  | cons c l ih =>
    have hc : (c != 35) = true := by simpa using h c List.mem_cons_self
    rw [List.takeWhile_cons, if_pos hc, ih (fun d hd => h d (List.mem_cons_of_mem _ hd))]
theorem row_mem {r : List ByteArray} (h : rowOk r) {c : UInt8} (hc : c ∈ joinB r) : c ≠ 10 ∧ c ≠ 35 := by
  rcases mem_join _ hc with rfl | ⟨x, hx, hcx⟩
  · decide
  · obtain ⟨y, hy, rfl⟩ := List.mem_map.1 hx
    exact (((h.2 y hy).1).1 c hcx).2
theorem words_row {r : List ByteArray} (h : rowOk r) : (wordsL (joinB r)).map ofL = r := by
  unfold wordsL
  rw [bare_all _ (fun c hc => (row_mem h hc).2)]
  have e : wgo (joinB r) [] = r.map (·.data.toList) := wgo_join _ (fun x hx => by
    obtain ⟨y, hy, rfl⟩ := List.mem_map.1 hx
    exact (h.2 y hy).1)
  rw [e, List.map_map]
  have : (ofL ∘ fun x : ByteArray => x.data.toList) = id := funext fun x => ofL_data x
  rw [this, List.map_id]

theorem rdL_at (xs : List (List ByteArray)) (i : Nat) (h : i < xs.length) : rd_L1 xs (i : Int) = xs[i] := by
  unfold rd_L1
  rw [Int.toNat_natCast, List.getD_eq_getElem?_getD, List.getElem?_eq_getElem h]; rfl

theorem back_two (rows : List (List ByteArray)) (ht : rows.length ≤ 20) (hok : ∀ r ∈ rows, rowOk r) (d : Nat) : ∀ (k i : Nat), i + d = rows.length → d + 100 ≤ k →
    feluccalaw02_WordsBack.l2 k rows true (rows.map fun r => ofL (joinB r)) (i : Int) = some true := by
  induction d with
  | zero =>
    intro k i hi hk
    obtain ⟨k, rfl⟩ : ∃ q, k = q + 1 := ⟨k - 1, by omega⟩
    simp only [feluccalaw02_WordsBack.l2]
    rw [if_neg (by omega)]
  | succ d ih =>
    intro k i hi hk
    obtain ⟨k, rfl⟩ : ∃ q, k = q + 1 := ⟨k - 1, by omega⟩
    have hlt : i < rows.length := by omega
    have hr := hok rows[i] (List.getElem_mem hlt)
    have hj := joinB_len rows[i] 50 (fun x hx => (hr.2 x hx).2)
    have hj2 : rows[i].length * (50 + 1) ≤ 20 * 51 := Nat.mul_le_mul hr.1 (by omega)
    simp only [feluccalaw02_WordsBack.l2]
    rw [if_pos (by omega), if_pos (by omega), if_pos (by simp; omega), rd_at _ i (by simpa using hlt), rdL_at rows i hlt]
    simp only [List.getElem_map]
    rw [words_some _ (by rw [ofL_size]; omega), data_ofL, words_row hr]
    simp only [Option.bind_some]
    rw [same_some _ _ (by have := hr.1; omega) (by have := hr.1; omega)]
    simp only [decide_true, Option.bind_some, if_true]
    rw [w64 (by omega) (by omega), show (i : Int) + 1 = ((i + 1 : Nat) : Int) by omega]
    exact ih k (i + 1) (by omega) (by omega)

theorem cat_len (L : List (List UInt8)) (N : Nat) (h : ∀ x ∈ L, x.length ≤ N) : (cat L).length ≤ L.length * (N + 1) := by
  induction L with
  | nil => simp [cat]
  | cons x L ih =>
    have e : cat (x :: L) = x ++ [10] ++ cat L := by simp [cat]
    have h1 := h x List.mem_cons_self
    have h2 := ih (fun y hy => h y (List.mem_cons_of_mem _ hy))
    rw [e]
    simp only [List.length_append, List.length_cons, List.length_nil, Nat.add_mul]
    omega

/-- The lines of the rows so far. -/
def catR (rows : List (List ByteArray)) : List UInt8 := cat (rows.map joinB)
theorem catR_len (rows : List (List ByteArray)) (ht : rows.length ≤ 20) (hok : ∀ r ∈ rows, rowOk r) : (catR rows).length ≤ 20 * 1021 := by
  have h := cat_len (rows.map joinB) 1020 (fun x hx => by
    obtain ⟨r, hr, rfl⟩ := List.mem_map.1 hx
    have h1 := joinB_len r 50 (fun x hx => ((hok r hr).2 x hx).2)
    have h2 : r.length * (50 + 1) ≤ 20 * 51 := Nat.mul_le_mul (hok r hr).1 (by omega)
    omega)
  rw [List.length_map] at h
  have h3 := Nat.mul_le_mul_right 1021 ht
  have h4 : (catR rows).length ≤ rows.length * 1021 := h
  exact Nat.le_trans h4 h3

theorem back_end (rows : List (List ByteArray)) (ht : rows.length ≤ 20) (hok : ∀ r ∈ rows, rowOk r) (k : Nat) (hk : 200 ≤ k) :
    feluccalaw02_WordsBack.l0 k rows true (ofL (catR rows)) (rows.length : Int) = some true := by
  obtain ⟨k, rfl⟩ : ∃ q, k = q + 1 := ⟨k - 1, by omega⟩
  have hc := catR_len rows ht hok
  simp only [feluccalaw02_WordsBack.l0]
  rw [if_neg (by omega), lines_some _ (by rw [ofL_size]; omega), data_ofL]
  unfold catR
  rw [lines_cat _ (fun x hx c hcx => by
    obtain ⟨r, hr, rfl⟩ := List.mem_map.1 hx
    exact (row_mem (hok r hr) hcx).1)]
  simp only [Option.bind_some, List.map_map]
  rw [if_pos (by simp)]
  exact back_two rows ht hok rows.length k 0 (by omega) (by omega)

theorem back_loop (rows : List (List ByteArray)) (ht : rows.length ≤ 20) (M : Nat) (hM : ∀ r ∈ rows, ∀ x ∈ r, x.size ≤ M) (hM2 : M ≤ 9223372036854775807) (d : Nat) : ∀ (k i : Nat), i + d = rows.length → d * 100 + 300 + M ≤ k → (∀ r ∈ rows.take i, rowOk r) →
    feluccalaw02_WordsBack.l0 k rows true (ofL (catR (rows.take i))) (i : Int) = some true := by
  induction d with
  | zero =>
    intro k i hi hk hok
    obtain rfl : i = rows.length := by omega
    rw [List.take_length] at hok ⊢
    exact back_end rows ht hok k (by omega)
  | succ d ih =>
    intro k i hi hk hok
    obtain ⟨k, rfl⟩ : ∃ q, k = q + 1 := ⟨k - 1, by omega⟩
    have hlt : i < rows.length := by omega
    simp only [feluccalaw02_WordsBack.l0]
    rw [if_pos (by omega), if_pos (by omega), rdL_at rows i hlt]
    by_cases h20 : ((rows[i].length : Nat) : Int) > 20
    · rw [if_pos h20]
    · rw [if_neg h20]
      have inner : ∀ (e k j : Nat), j + e = rows[i].length → e + d * 100 + 370 + M ≤ k → (∀ q (h : q < rows[i].length), q < j → plainB (rows[i][q]).data.toList ∧ (rows[i][q]).size ≤ 50) →
          feluccalaw02_WordsBack.l1 k rows true (ofL (catR (rows.take i))) (i : Int) (j : Int) = some true := by
        intro e
        induction e with
        | zero =>
          intro k j hj hk hp
          obtain ⟨k, rfl⟩ : ∃ q, k = q + 1 := ⟨k - 1, by omega⟩
          have hr : rowOk rows[i] := ⟨by omega, fun x hx => by
            obtain ⟨q, hq, rfl⟩ := List.mem_iff_getElem.1 hx
            exact hp q hq (by omega)⟩
          have hjl := joinB_len rows[i] 50 (fun x hx => (hr.2 x hx).2)
          have hj2 : rows[i].length * (50 + 1) ≤ 20 * 51 := Nat.mul_le_mul hr.1 (by omega)
          have hcl := catR_len (rows.take i) (by rw [List.length_take]; omega) hok
          have et : rows.take (i + 1) = rows.take i ++ [rows[i]] := List.take_succ_eq_append_getElem hlt
          have ec : ofL (catR (rows.take i)) ++ ofL (joinB rows[i] ++ [10]) = ofL (catR (rows.take (i + 1))) := by
            rw [ofL_append, et]; unfold catR cat; rw [List.map_append, List.flatMap_append]; simp
          simp only [feluccalaw02_WordsBack.l1]
          rw [if_pos (by omega), if_pos (by omega), rdL_at rows i hlt, if_neg (by omega), line_some _ (by omega) 50 (fun x hx => (hr.2 x hx).2) (by omega)]
          simp only [Option.bind_some]
          rw [if_pos (by rw [ofL_size, ofL_size]; simp; omega), ec, w64 (by omega) (by omega), show (i : Int) + 1 = ((i + 1 : Nat) : Int) by omega]
          exact ih k (i + 1) (by omega) (by omega) (fun r hm => by
            rw [et] at hm
            rcases List.mem_append.1 hm with hm | hm
            · exact hok r hm
            · rw [List.mem_singleton] at hm; subst hm; exact hr)
        | succ e ihe =>
          intro k j hj hk hp
          obtain ⟨k, rfl⟩ : ∃ q, k = q + 1 := ⟨k - 1, by omega⟩
          have hjl : j < rows[i].length := by omega
          simp only [feluccalaw02_WordsBack.l1]
          rw [if_pos (by omega), if_pos (by omega), rdL_at rows i hlt, if_pos (by omega), if_pos (by omega), rd_at _ j hjl]
          have hMx := hM rows[i] (List.getElem_mem hlt) rows[i][j] (List.getElem_mem hjl)
          obtain ⟨b, hb, hb2⟩ := plain_some rows[i][j] (by omega) (k := k) (by omega)
          rw [hb]
          simp only [Option.bind_some]
          cases b with
          | false => rw [if_neg (by simp)]
          | true =>
            rw [if_pos rfl]
            by_cases hbig : ((rows[i][j].size : Nat) : Int) > 50
            · rw [if_pos hbig]
            · rw [if_neg hbig, w64 (by omega) (by omega), show (j : Int) + 1 = ((j + 1 : Nat) : Int) by omega]
              exact ihe k (j + 1) (by omega) (by omega) (fun q hq hqj => by
                rcases Nat.lt_or_ge q j with h | h
                · exact hp q hq h
                · obtain rfl : q = j := by omega
                  exact ⟨hb2 rfl, by omega⟩)
      exact inner rows[i].length k 0 (by omega) (by omega) (fun q _ h => absurd h (Nat.not_lt_zero q))

theorem WordsBack (M : Nat) (hM2 : M ≤ 9223372036854775807) (rows : List (List ByteArray)) (hM : ∀ r ∈ rows, ∀ x ∈ r, x.size ≤ M) : ∃ k, feluccalaw02_WordsBack.f k rows = some true := by
  obtain ⟨k, hk⟩ : ∃ k : Nat, rows.length * 100 + 300 + M ≤ k := ⟨_, Nat.le_refl _⟩
  refine ⟨k, ?_⟩
  unfold feluccalaw02_WordsBack.f
  rw [small_true (by omega)]
  simp only [Option.bind_some]
  by_cases h : (rows.length : Int) > 20
  · rw [if_pos h]
  · rw [if_neg h]
    exact back_loop rows (by omega) M hM hM2 rows.length k 0 (by omega) (by omega) (fun r hr => by simp at hr)

theorem ofL_get (l : List UInt8) (j : Nat) (_h : j < l.length) (h2 : j < (ofL l).size) : (ofL l)[j]'h2 = l[j] := by
  rfl

set_option maxRecDepth 10000 in
theorem lines_loop (s : ByteArray) (hs : s.size ≤ 500) (d : Nat) : ∀ (k i : Nat), i + d = (linesL s.data.toList).length → d * 600 + 600 ≤ k →
    feluccalaw02_WordsLines.l0 k s true ((linesL s.data.toList).map ofL) (ofL (cat ((linesL s.data.toList).take i))) (i : Int) = some true := by
  have hsl : s.data.toList.length = s.size := by simp
  have hcat : (cat (linesL s.data.toList)).length ≤ 501 := by
    rcases cat_lines s.data.toList with h | h <;> rw [h]
    · omega
    · simp; omega
  have hmem : ∀ x ∈ linesL s.data.toList, ∀ c ∈ x, c ≠ 10 := by
    unfold linesL
    split
    · intro x hx; simp at hx
    · exact split_no _
  have hnl := lines_len s.data.toList
  have catapp : ∀ a b : List (List UInt8), cat (a ++ b) = cat a ++ cat b := fun a b => by simp [cat]
  have htl : ∀ i, (cat ((linesL s.data.toList).take i)).length ≤ 501 := by
    intro i
    have e := catapp ((linesL s.data.toList).take i) ((linesL s.data.toList).drop i)
    rw [List.take_append_drop] at e
    have := congrArg List.length e
    rw [List.length_append] at this
    omega
  generalize hL : linesL s.data.toList = L at *
  induction d with
  | zero =>
    intro k i hi hk
    obtain ⟨k, rfl⟩ : ∃ q, k = q + 1 := ⟨k - 1, by omega⟩
    simp only [feluccalaw02_WordsLines.l0]
    rw [if_neg (by simp; omega), if_pos trivial, List.take_of_length_le (by omega), ofL_toList, ByteArray.toList_eq]
    have h := cat_lines s.data.toList
    rw [hL] at h
    rcases h with h | h
    · rw [if_pos h]
    · rw [h, if_neg (by intro e; have := congrArg List.length e; simp at this), if_pos (by omega), ← ofL_data s, show (⟨#[10]⟩ : ByteArray) = ofL [10] from rfl, ofL_append, ofL_toList, data_ofL]
      simp
  | succ d ih =>
    intro k i hi hk
    obtain ⟨k, rfl⟩ : ∃ q, k = q + 1 := ⟨k - 1, by omega⟩
    have hlt : i < L.length := by omega
    have et : L.take (i + 1) = L.take i ++ [L[i]] := List.take_succ_eq_append_getElem hlt
    have ec : cat (L.take (i + 1)) = cat (L.take i) ++ (L[i] ++ [10]) := by rw [et, catapp]; simp [cat]
    have hlen := htl (i + 1)
    rw [ec] at hlen
    simp only [List.length_append, List.length_singleton] at hlen
    simp only [feluccalaw02_WordsLines.l0]
    rw [if_pos (by simp; omega)]
    have inner : ∀ (e k j : Nat), j + e = L[i].length → e + d * 600 + 610 ≤ k →
        feluccalaw02_WordsLines.l1 k s true (L.map ofL) (ofL (cat (L.take i))) (i : Int) (j : Int) = some true := by
      intro e
      induction e with
      | zero =>
        intro k j hj hk
        obtain ⟨k, rfl⟩ : ∃ q, k = q + 1 := ⟨k - 1, by omega⟩
        simp only [feluccalaw02_WordsLines.l1]
        rw [if_pos (by omega), if_pos (by simp; omega), rd_at _ i (by simpa using hlt)]
        simp only [List.getElem_map]
        rw [if_neg (by rw [ofL_size]; omega), if_pos (by rw [ofL_size, ofL_size]; omega), ofL_append, if_pos (by rw [ofL_size]; simp; omega), show (⟨#[10]⟩ : ByteArray) = ofL [10] from rfl, ofL_append, List.append_assoc, ← ec,
          w64 (by omega) (by omega), show (i : Int) + 1 = ((i + 1 : Nat) : Int) by omega]
        exact ih k (i + 1) (by omega) (by omega)
      | succ e ihe =>
        intro k j hj hk
        obtain ⟨k, rfl⟩ : ∃ q, k = q + 1 := ⟨k - 1, by omega⟩
        have hjl : j < L[i].length := by omega
        have hjs : j < (ofL L[i]).size := by rw [ofL_size]; exact hjl
        simp only [feluccalaw02_WordsLines.l1]
        rw [if_pos (by omega), if_pos (by simp; omega), rd_at _ i (by simpa using hlt)]
        simp only [List.getElem_map]
        have hb : bt (ofL L[i]) (j : Int) = ((L[i][j]).toNat : Int) := by
          rw [bt_get _ j hjs, ofL_get L[i] j hjl hjs]
        have e10 : (((L[i][j]).toNat : Int) = 10) ↔ L[i][j] = 10 := byte_is (n := 10) (by omega)
        rw [if_pos (by omega), if_pos (by omega), hb, if_neg (fun e => hmem L[i] (List.getElem_mem hlt) _ (List.getElem_mem hjl) (e10.1 e)), w64 (by omega) (by omega), show (j : Int) + 1 = ((j + 1 : Nat) : Int) by omega]
        exact ihe k (j + 1) (by omega) (by omega)
    exact inner L[i].length k 0 (by omega) (by omega)

theorem WordsLines (s : ByteArray) : ∃ k, feluccalaw02_WordsLines.f k s = some true := by
  obtain ⟨k, hk⟩ : ∃ k : Nat, 400000 ≤ k := ⟨_, Nat.le_refl _⟩
  refine ⟨k, ?_⟩
  unfold feluccalaw02_WordsLines.f
  rw [small_true (by omega)]
  simp only [Option.bind_some]
  by_cases h : (s.size : Int) > 500
  · rw [if_pos h]
  · rw [if_neg h, lines_some s (by omega)]
    simp only [Option.bind_some]
    have hn := lines_len s.data.toList
    have hsl : s.data.toList.length = s.size := by simp
    exact lines_loop s (by omega) (linesL s.data.toList).length k 0 (by omega) (by omega)

/-! ### words of two texts -/
theorem wgo_sep {c : UInt8} (hc : blk c = true) (u : List UInt8) : ∀ (s cur : List UInt8), wgo (s ++ c :: u) cur = wgo s cur ++ wgo u []
  | [], cur => by
    simp only [List.nil_append, wgo, hc, if_true]
    by_cases h : cur = []
    · simp [h]
    · simp [h]
  | d :: s, cur => by
    simp only [List.cons_append, wgo]
    by_cases hd : blk d = true
    · simp only [hd, if_true]
      by_cases h : cur = []
      · simp only [h, if_true]; exact wgo_sep hc u s []
      · simp only [h, if_false]; rw [wgo_sep hc u s []]; rfl
    · rw [if_neg hd, if_neg hd]; exact wgo_sep hc u s _
theorem bare_app (s : List UInt8) (h : ∀ c ∈ s, c ≠ 35) (u : List UInt8) : bare (s ++ u) = s ++ bare u := by
  induction s with
  | nil => rfl
  | cons c s ih =>
    have hc : (c != 35) = true := by simpa using h c List.mem_cons_self
    unfold bare at ih ⊢
    rw [List.cons_append, List.takeWhile_cons, if_pos hc, ih (fun d hd => h d (List.mem_cons_of_mem _ hd))]; rfl
theorem words_sep (s t : List UInt8) (h : ∀ c ∈ s, c ≠ 35) : wordsL (s ++ 32 :: t) = wordsL s ++ wordsL t := by
  unfold wordsL
  rw [bare_app s h, bare_all s h]
  have : bare (32 :: t) = 32 :: bare t := by unfold bare; rw [List.takeWhile_cons, if_pos (by decide)]
  rw [this]
  exact wgo_sep (by rfl) _ _ _
theorem bare_cut (s t : List UInt8) : bare (s ++ 35 :: t) = bare s := by
  induction s with
  | nil => unfold bare; simp
  | cons c s ih =>
    unfold bare at ih ⊢
    rw [List.cons_append, List.takeWhile_cons, List.takeWhile_cons, ih]
theorem words_remark (s t : List UInt8) : wordsL (s ++ 35 :: t) = wordsL s := by unfold wordsL; rw [bare_cut]
theorem words_edges (s : List UInt8) : wordsL (32 :: (s ++ [9])) = wordsL s := by
  unfold wordsL
  have e1 : bare (32 :: (s ++ [9])) = 32 :: bare (s ++ [9]) := by unfold bare; rw [List.takeWhile_cons, if_pos (by decide)]
  have e2 : ∀ u, wgo (32 :: u) [] = wgo u [] := fun u => by simp only [wgo]; rw [if_pos (by rfl), if_pos trivial]
  rw [e1, e2]
  have e3 : bare (s ++ [9]) = bare s ∨ bare (s ++ [9]) = bare s ++ [9] := by
    clear e1
    induction s with
    | nil => right; rfl
    | cons c s ih =>
      unfold bare at ih ⊢
      rw [List.cons_append, List.takeWhile_cons, List.takeWhile_cons]
      by_cases hc : (c != 35) = true
      · rw [if_pos hc, if_pos hc]
        rcases ih with h | h
        · left; rw [h]
        · right; rw [h]; rfl
      · rw [if_neg hc, if_neg hc]; left; rfl
  rcases e3 with h | h
  · rw [h]
  · rw [h, wgo_sep (by rfl) []]
    simp [wgo]

theorem cut_loop (s t : ByteArray) (hs : s.size ≤ 300) (ht : t.size ≤ 300) (d : Nat) : ∀ (k i : Nat), i + d = s.size → d + 2000 ≤ k → (∀ c ∈ s.data.toList.take i, c ≠ 35) →
    feluccalaw02_WordsCut.l0 k s t true (i : Int) = some true := by
  induction d with
  | zero =>
    intro k i hi hk hn
    obtain ⟨k, rfl⟩ : ∃ q, k = q + 1 := ⟨k - 1, by omega⟩
    have n1 := words_len s.data.toList
    have n2 := words_len t.data.toList
    have n3 : s.data.toList.length = s.size := by simp
    have n4 : t.data.toList.length = t.size := by simp
    rw [List.take_of_length_le (by omega)] at hn
    have e1 : (s ++ (⟨#[32]⟩ : ByteArray)) ++ t = ofL (s.data.toList ++ 32 :: t.data.toList) := by
      rw [show (⟨#[32]⟩ : ByteArray) = ofL [32] from rfl, ← ofL_data s, ← ofL_data t, ofL_append, ofL_append, data_ofL, data_ofL]; simp
    have e2 : (s ++ (⟨#[32]⟩ : ByteArray)).size = s.size + 1 := by
      rw [show (⟨#[32]⟩ : ByteArray) = ofL [32] from rfl, ← ofL_data s, ofL_append, ofL_size, ofL_size]; simp
    have e3 : (ofL (s.data.toList ++ 32 :: t.data.toList)).size ≤ 1000000 := by rw [ofL_size]; simp; omega
    simp only [feluccalaw02_WordsCut.l0]
    rw [if_neg (by omega), words_some s (by omega), words_some t (by omega)]
    simp only [Option.bind_some]
    rw [if_pos trivial, if_pos (by omega), if_pos (by rw [e2]; omega), e1, words_some _ e3, data_ofL, words_sep _ _ hn]
    simp only [Option.bind_some, List.nil_append]
    rw [if_pos (by simp; omega), if_pos (by simp; omega), List.map_append, same_some _ _ (by simp; omega) (by simp; omega)]
    simp
  | succ d ih =>
    intro k i hi hk hn
    obtain ⟨k, rfl⟩ : ∃ q, k = q + 1 := ⟨k - 1, by omega⟩
    have hlt : i < s.size := by omega
    have e35 : (((s[i]'hlt).toNat : Int) = 35) ↔ (s[i]'hlt) = 35 := byte_is (n := 35) (by omega)
    simp only [feluccalaw02_WordsCut.l0]
    rw [if_pos (by omega), if_pos (by omega), bt_get s i hlt]
    by_cases h : (s[i]'hlt) = 35
    · rw [if_pos (e35.2 h)]
    · rw [if_neg (fun e => h (e35.1 e)), w64 (by omega) (by omega), show (i : Int) + 1 = ((i + 1 : Nat) : Int) by omega]
      refine ih k (i + 1) (by omega) (by omega) (fun c hc => ?_)
      have et : s.data.toList.take (i + 1) = s.data.toList.take i ++ [s[i]'hlt] := by
        rw [List.take_succ_eq_append_getElem (by simpa using hlt)]; rfl
      rw [et, List.mem_append, List.mem_singleton] at hc
      rcases hc with hc | rfl
      · exact hn c hc
      · exact h

theorem WordsCut (s t : ByteArray) : ∃ k, feluccalaw02_WordsCut.f k s t = some true := by
  obtain ⟨k, hk⟩ : ∃ k : Nat, 4000 ≤ k := ⟨_, Nat.le_refl _⟩
  obtain ⟨k, rfl⟩ : ∃ q, k = q + 1 := ⟨k - 1, by omega⟩
  refine ⟨k + 1, ?_⟩
  unfold feluccalaw02_WordsCut.f
  rw [small_true (by omega)]
  simp only [Option.bind_some]
  by_cases hs : (s.size : Int) > 300
  · rw [if_pos hs]; simp [feluccalaw02_WordsCut.j0]
  · rw [if_neg hs]
    simp only [feluccalaw02_WordsCut.j0]
    by_cases ht : (t.size : Int) > 300
    · rw [if_pos (decide_eq_true ht)]
    · rw [if_neg (by simpa using ht)]
      exact cut_loop s t (by omega) (by omega) s.size k 0 (by omega) (by omega) (fun c hc => by simp at hc)

/-- What a word is made of. -/
theorem wgo_good : ∀ (l cur : List UInt8), (∀ c ∈ l, c ≠ 35) → (∀ c ∈ cur, blk c = false ∧ c ≠ 35) → ∀ x ∈ wgo l cur, (∀ c ∈ x, blk c = false ∧ c ≠ 35) ∧ x ≠ []
  | [], cur, _, hc, x, hx => by
    unfold wgo at hx
    by_cases h : cur = []
    · rw [if_pos h] at hx; simp at hx
    · rw [if_neg h, List.mem_singleton] at hx; subst hx; exact ⟨hc, h⟩
  | c :: l, cur, hl, hc, x, hx => by
    have hl' : ∀ d ∈ l, d ≠ 35 := fun d hd => hl d (List.mem_cons_of_mem _ hd)
    simp only [wgo] at hx
    by_cases hb : blk c = true
    · rw [if_pos hb] at hx
      by_cases h : cur = []
      · rw [if_pos h] at hx; exact wgo_good l [] hl' (fun d hd => by simp at hd) x hx
      · rw [if_neg h] at hx
        rcases List.mem_cons.1 hx with rfl | hx
        · exact ⟨hc, h⟩
        · exact wgo_good l [] hl' (fun d hd => by simp at hd) x hx
    · rw [if_neg hb] at hx
      refine wgo_good l (cur ++ [c]) hl' (fun d hd => ?_) x hx
      rcases List.mem_append.1 hd with hd | hd
      · exact hc d hd
      · rw [List.mem_singleton] at hd; subst hd
        exact ⟨by simpa using hb, hl d List.mem_cons_self⟩
theorem bare_no (l : List UInt8) : ∀ c ∈ bare l, c ≠ 35 := by
  unfold bare
  induction l with
  | nil => intro c hc; simp at hc
  | cons d l ih =>
    intro c hc
    rw [List.takeWhile_cons] at hc
    by_cases hd : (d != 35) = true
    · rw [if_pos hd] at hc
      rcases List.mem_cons.1 hc with rfl | hc
      · simpa using hd
      · exact ih c hc
    · rw [if_neg hd] at hc; simp at hc
theorem words_good (l : List UInt8) : ∀ x ∈ wordsL l, (∀ c ∈ x, blk c = false ∧ c ≠ 35) ∧ x ≠ [] := wgo_good _ _ (bare_no l) (fun c hc => by simp at hc)
theorem wgo_total : ∀ (l cur : List UInt8), ∀ x ∈ wgo l cur, x.length ≤ l.length + cur.length
  | [], cur, x, hx => by
    unfold wgo at hx
    split at hx
    · simp at hx
    · rw [List.mem_singleton] at hx; subst hx; simp
  | c :: l, cur, x, hx => by
    simp only [wgo] at hx
    split at hx
    · split at hx
      · have := wgo_total l [] x hx; simp at this ⊢; omega
      · rcases List.mem_cons.1 hx with rfl | hx
        · simp
        · have := wgo_total l [] x hx; simp at this ⊢; omega
    · have := wgo_total l _ x hx; simp at this ⊢; omega
theorem words_size (l : List UInt8) : ∀ x ∈ wordsL l, x.length ≤ l.length := by
  intro x hx
  have h := wgo_total _ _ x hx
  have h2 : (bare l).length ≤ l.length := (List.takeWhile_sublist _).length_le
  simp at h; omega

set_option maxRecDepth 10000 in
theorem plainw_loop (s t : ByteArray) (hs : s.size ≤ 300) (ht : t.size ≤ 300) (d : Nat) : ∀ (k i : Nat), i + d = (wordsL s.data.toList).length → d * 400 + 2000 ≤ k →
    feluccalaw02_WordsPlain.l0 k s t true ((wordsL s.data.toList).map ofL) (i : Int) = some true := by
  have n1 := words_len s.data.toList
  have n3 : s.data.toList.length = s.size := by simp
  have n4 : t.data.toList.length = t.size := by simp
  have hgood := words_good s.data.toList
  have hsize := words_size s.data.toList
  have hrem := words_remark s.data.toList t.data.toList
  have hedge := words_edges s.data.toList
  generalize hL : wordsL s.data.toList = L at *
  induction d with
  | zero =>
    intro k i hi hk
    obtain ⟨k, rfl⟩ : ∃ q, k = q + 1 := ⟨k - 1, by omega⟩
    have e1 : (s ++ (⟨#[35]⟩ : ByteArray)) ++ t = ofL (s.data.toList ++ 35 :: t.data.toList) := by
      rw [show (⟨#[35]⟩ : ByteArray) = ofL [35] from rfl, ← ofL_data s, ← ofL_data t, ofL_append, ofL_append, data_ofL, data_ofL]; simp
    have e2 : (s ++ (⟨#[35]⟩ : ByteArray)).size = s.size + 1 := by
      rw [show (⟨#[35]⟩ : ByteArray) = ofL [35] from rfl, ← ofL_data s, ofL_append, ofL_size, ofL_size]; simp
    have e3 : (ofL (s.data.toList ++ 35 :: t.data.toList)).size ≤ 1000000 := by rw [ofL_size]; simp; omega
    have e4 : ((⟨#[32]⟩ : ByteArray) ++ s) ++ (⟨#[9]⟩ : ByteArray) = ofL (32 :: (s.data.toList ++ [9])) := by
      rw [show (⟨#[32]⟩ : ByteArray) = ofL [32] from rfl, show (⟨#[9]⟩ : ByteArray) = ofL [9] from rfl, ← ofL_data s, ofL_append, ofL_append, data_ofL]; simp
    have e5 : ((⟨#[32]⟩ : ByteArray) ++ s).size = 1 + s.size := by
      rw [show (⟨#[32]⟩ : ByteArray) = ofL [32] from rfl, ← ofL_data s, ofL_append, ofL_size, ofL_size]; simp; omega
    have e6 : (ofL (32 :: (s.data.toList ++ [9]))).size ≤ 1000000 := by rw [ofL_size]; simp; omega
    simp only [feluccalaw02_WordsPlain.l0]
    rw [if_neg (by simp; omega), if_pos trivial, if_pos (by omega), if_pos (by rw [e2]; omega), e1, words_some _ e3, data_ofL, hrem]
    simp only [Option.bind_some]
    rw [same_some _ _ (by simp; omega) (by simp; omega)]
    simp only [decide_true, Option.bind_some, if_true]
    rw [if_pos (by omega), if_pos (by rw [e5]; omega), e4, words_some _ e6, data_ofL, hedge]
    simp only [Option.bind_some]
    rw [same_some _ _ (by simp; omega) (by simp; omega)]
    simp
  | succ d ih =>
    intro k i hi hk
    obtain ⟨k, rfl⟩ : ∃ q, k = q + 1 := ⟨k - 1, by omega⟩
    have hlt : i < L.length := by omega
    have hg := hgood L[i] (List.getElem_mem hlt)
    have hz := hsize L[i] (List.getElem_mem hlt)
    simp only [feluccalaw02_WordsPlain.l0]
    rw [if_pos (by simp; omega)]
    have inner : ∀ (e k j : Nat), j + e = L[i].length → e + d * 400 + 2010 ≤ k →
        feluccalaw02_WordsPlain.l1 k s t true (L.map ofL) (i : Int) (j : Int) = some true := by
      intro e
      induction e with
      | zero =>
        intro k j hj hk
        obtain ⟨k, rfl⟩ : ∃ q, k = q + 1 := ⟨k - 1, by omega⟩
        simp only [feluccalaw02_WordsPlain.l1]
        rw [if_pos (by omega), if_pos (by simp; omega), rd_at _ i (by simpa using hlt)]
        simp only [List.getElem_map]
        rw [if_neg (by rw [ofL_size]; omega), if_neg (by rw [ofL_toList]; exact hg.2), w64 (by omega) (by omega), show (i : Int) + 1 = ((i + 1 : Nat) : Int) by omega]
        exact ih k (i + 1) (by omega) (by omega)
      | succ e ihe =>
        intro k j hj hk
        obtain ⟨k, rfl⟩ : ∃ q, k = q + 1 := ⟨k - 1, by omega⟩
        have hjl : j < L[i].length := by omega
        have hjs : j < (ofL L[i]).size := by rw [ofL_size]; exact hjl
        have hb : bt (ofL L[i]) (j : Int) = ((L[i][j]).toNat : Int) := by rw [bt_get _ j hjs, ofL_get L[i] j hjl hjs]
        have hc := hg.1 L[i][j] (List.getElem_mem hjl)
        have q1 : (((L[i][j]).toNat : Int) = 32) ↔ L[i][j] = 32 := byte_is (n := 32) (by omega)
        have q2 : (((L[i][j]).toNat : Int) = 9) ↔ L[i][j] = 9 := byte_is (n := 9) (by omega)
        have q3 : (((L[i][j]).toNat : Int) = 13) ↔ L[i][j] = 13 := byte_is (n := 13) (by omega)
        have q4 : (((L[i][j]).toNat : Int) = 35) ↔ L[i][j] = 35 := byte_is (n := 35) (by omega)
        have hbk := hc.1
        unfold blk at hbk
        simp only [Bool.or_eq_false_iff, beq_eq_false_iff_ne] at hbk
        simp only [feluccalaw02_WordsPlain.l1]
        rw [if_pos (by omega), if_pos (by simp; omega), rd_at _ i (by simpa using hlt)]
        simp only [List.getElem_map]
        rw [if_pos (by omega), if_pos (by omega), hb, if_neg (fun e => hbk.1.1 (q1.1 e)), if_neg (fun e => hbk.1.2 (q2.1 e)), if_neg (fun e => hbk.2 (q3.1 e)), if_neg (fun e => hc.2 (q4.1 e)),
          w64 (by omega) (by omega), show (j : Int) + 1 = ((j + 1 : Nat) : Int) by omega]
        exact ihe k (j + 1) (by omega) (by omega)
    exact inner L[i].length k 0 (by omega) (by omega)

theorem WordsPlain (s t : ByteArray) : ∃ k, feluccalaw02_WordsPlain.f k s t = some true := by
  obtain ⟨k, hk⟩ : ∃ k : Nat, 200000 ≤ k := ⟨_, Nat.le_refl _⟩
  obtain ⟨k, rfl⟩ : ∃ q, k = q + 1 := ⟨k - 1, by omega⟩
  refine ⟨k + 1, ?_⟩
  unfold feluccalaw02_WordsPlain.f
  rw [small_true (by omega)]
  simp only [Option.bind_some]
  have n1 := words_len s.data.toList
  have n3 : s.data.toList.length = s.size := by simp
  by_cases hs : (s.size : Int) > 300
  · rw [if_pos hs]; simp [feluccalaw02_WordsPlain.j0]
  · rw [if_neg hs]
    simp only [feluccalaw02_WordsPlain.j0]
    by_cases ht : (t.size : Int) > 300
    · rw [if_pos (decide_eq_true ht)]
    · rw [if_neg (by simpa using ht), words_some s (by omega)]
      simp only [Option.bind_some]
      exact plainw_loop s t (by omega) (by omega) (wordsL s.data.toList).length k 0 (by omega) (by omega)
end Go.Proofs.YtacdldlnnnahkaaDoor.PureWordsL
