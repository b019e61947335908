/- The document's answers on lines, words and texts in plain words: ref02, ref05; the laws DirectTells and TextTells. -/
import Derived.Test.YtaknikdbnfmlfaaDoorTg
import Derived.Test.YtaknikdbnfmlfaaDoorTe
namespace Go.Proofs.YtaknikdbnfmlfaaDoor.Ex
open Go Go.RowKit Go.Lib Go.Proofs.YtaknikdbnfmlfaaDoor.Wrd Go.Proofs.YtaknikdbnfmlfaaDoor.Dig
set_option linter.unusedVariables false
set_option linter.unusedSimpArgs false
theorem of_lt_yes {a : Int} {n : Nat} (h : a < (n : Int)) : decide (a < Int.ofNat n) = true := decide_eq_true h
theorem of_le_yes {a : Int} {n : Nat} (h : a ≤ (n : Int)) : decide (a ≤ Int.ofNat n) = true := decide_eq_true h
theorem of_lt_no {a : Int} {n : Nat} (h : ¬ a < (n : Int)) : decide (a < Int.ofNat n) = false := decide_eq_false h
theorem extract_sub (s : ByteArray) (i j : Nat) : s.extract ((i : Int)).toNat ((j : Int)).toNat = ofL (sub s i j) := by
  rw [Int.toNat_natCast, Int.toNat_natCast, ← sub_extract, ofL_data]
theorem sub_snoc (s : ByteArray) (f i : Nat) (hf : f ≤ i) (hlt : i < s.size) : sub s f i ++ [s[i]'hlt] = sub s f (i + 1) := by
  rw [← sub_app s f i (i + 1) hf (by omega)]
  congr 1
  unfold sub
  rw [drop_at s i hlt]
  simp
theorem sub_self (s : ByteArray) (i : Nat) : sub s i i = [] := by unfold sub; simp
theorem byteI_is (s : ByteArray) (i : Nat) (h : i < s.size) (n : Nat) (hn : n < 256) : decide (byteI s (i : Int) = ((n : Nat) : Int)) = decide ((s[i]'h) = UInt8.ofNat n) := by
  rw [byteI_nat s i h]
  exact decide_eq_decide.2 (byte_is (n := n) hn)
/-! ### lines -/
def lend (o : (ByteArray × (List ByteArray) × Int) ⊕ (List ByteArray)) : Option (List ByteArray) :=
    match o with
    | .inl o_2 =>
      bif decide (o_2.2.2 < Int.ofNat (ByteArray.size o_2.1)) then
        bif decide (0 ≤ o_2.2.2) && decide (o_2.2.2 ≤ Int.ofNat (ByteArray.size o_2.1)) then
          bif decide ((List.length o_2.2.1 + List.length [ByteArray.extract o_2.1 (Int.toNat o_2.2.2) (ByteArray.size o_2.1)]) * 16 ≤ 140737488355328) then
            some (o_2.2.1 ++ [ByteArray.extract o_2.1 (Int.toNat o_2.2.2) (ByteArray.size o_2.1)])
          else
            none
        else
          none
      else
        some (o_2.2.1)
    | .inr o_2 =>
      some (o_2)
theorem rlines_L0 (s : ByteArray) (hs : s.size ≤ 1000000) (d : Nat) : ∀ (k i f : Nat) (acc : List ByteArray), i + d = s.size → d < k → f ≤ i → acc.length ≤ i →
    (feluccaref02_Lines_L0 k (s, acc, (f : Int), (i : Int))).bind lend = some (acc ++ (lgo (s.data.toList.drop i) (sub s f i)).map ofL) := by
  induction d with
  | zero =>
    intro k i f acc hi hk hf ha
    obtain ⟨k, rfl⟩ : ∃ q, k = q + 1 := ⟨k - 1, by omega⟩
    obtain rfl : i = s.size := by omega
    rw [feluccaref02_Lines_L0, lt_no (Nat.le_refl _), cond_false, List.drop_of_length_le (by simp)]
    simp only [Option.bind_some, lend]
    unfold lgo
    by_cases hl : f < s.size
    · rw [lt_yes hl, ge0, of_le_yes (by omega), decide_eq_true (by simp; omega), if_neg (sub_ne s f s.size hl (Nat.le_refl _))]
      simp only [cond_true, Bool.and_self, List.map_cons, List.map_nil, Int.toNat_natCast]
      rw [← sub_extract, ofL_data]
    · obtain rfl : f = s.size := by omega
      rw [lt_no (Nat.le_refl _), if_pos (sub_self _ _)]
      simp
  | succ d ih =>
    intro k i f acc hi hk hf ha
    obtain ⟨k, rfl⟩ : ∃ q, k = q + 1 := ⟨k - 1, by omega⟩
    have hlt : i < s.size := by omega
    rw [feluccaref02_Lines_L0, lt_yes hlt, ge0, drop_at s i hlt, w64_succ (by omega), show (10 : Int) = ((10 : Nat) : Int) from rfl, byteI_is s i hlt 10 (by omega)]
    simp only [cond_true, Bool.and_self]
    unfold lgo
    by_cases hc : (s[i]'hlt) = 10
    · rw [decide_eq_true (show (s[i]'hlt) = UInt8.ofNat 10 from hc), if_pos hc, ge0, decide_eq_true (show (f : Int) ≤ (i : Int) by omega), of_le_yes (by omega), extract_sub]
      simp only [cond_true, Bool.and_self]
      rw [decide_eq_true (by simp; omega), cond_true, ih k (i + 1) (i + 1) _ (by omega) (by omega) (by omega) (by simp; omega), sub_self]
      simp
    · rw [decide_eq_false (show ¬ (s[i]'hlt) = UInt8.ofNat 10 from hc), if_neg hc, cond_false, ih k (i + 1) f acc (by omega) (by omega) (by omega) (by omega), sub_snoc s f i hf hlt]
theorem rLines_sp (k : Nat) {s : ByteArray} (hs : s.size ≤ 1000000) (hk : s.size < k) : feluccaref02_Lines k s = some ((linesL s.data.toList).map ofL) := by
  have h := rlines_L0 s hs s.size k 0 0 [] (by omega) hk (by omega) (by simp)
  rw [List.drop_zero, sub_self, lgo_lines, List.nil_append] at h
  exact h
/-! ### words -/
theorem rblank_sp (k : Nat) (s : ByteArray) (i : Nat) (h : i < s.size) : feluccaref02_blank k (byteI s (i : Int)) = some (blk (s[i]'h)) := by
  unfold feluccaref02_blank
  rw [show (32 : Int) = ((32 : Nat) : Int) from rfl, show (9 : Int) = ((9 : Nat) : Int) from rfl, show (13 : Int) = ((13 : Nat) : Int) from rfl, byteI_is s i h 32 (by omega), byteI_is s i h 9 (by omega), byteI_is s i h 13 (by omega)]
  unfold blk
  generalize (s[i]'h) = c
  by_cases h1 : c = 32
  · subst h1; rfl
  · by_cases h2 : c = 9
    · subst h2; rfl
    · by_cases h3 : c = 13
      · subst h3; rfl
      · rw [decide_eq_false (show ¬ c = UInt8.ofNat 32 from h1), decide_eq_false (show ¬ c = UInt8.ofNat 9 from h2), decide_eq_false (show ¬ c = UInt8.ofNat 13 from h3), beq_eq_false_iff_ne.2 h1, beq_eq_false_iff_ne.2 h2, beq_eq_false_iff_ne.2 h3]; rfl
def wend (o : ((List ByteArray) × ByteArray) ⊕ (List ByteArray)) : Option (List ByteArray) :=
    match o with
    | .inl o_2 =>
      bif !o_2.2.data.toList == (⟨#[]⟩ : ByteArray).data.toList then
        bif decide ((List.length o_2.1 + List.length [o_2.2]) * 16 ≤ 140737488355328) then
          some (o_2.1 ++ [o_2.2])
        else
          none
      else
        some (o_2.1)
    | .inr o_2 =>
      some (o_2)
theorem empty_eq (cur : List UInt8) : (!(ofL cur).data.toList == (⟨#[]⟩ : ByteArray).data.toList) = decide (cur ≠ []) := by
  rw [data_ofL, show (⟨#[]⟩ : ByteArray).data.toList = [] from rfl]
  cases cur <;> rfl
theorem wend_fin (acc : List ByteArray) (cur : List UInt8) (ha : acc.length ≤ 1000000) : wend (.inl (acc, ofL cur)) = some (acc ++ (wgo [] cur).map ofL) := by
  unfold wend
  simp only []
  rw [empty_eq]
  unfold wgo
  by_cases hc : cur = []
  · rw [decide_eq_false (by simpa using hc), if_pos hc]; simp
  · rw [decide_eq_true hc, if_neg hc, decide_eq_true (by simp; omega)]; rfl
theorem rwords2_L0 (s : ByteArray) (hs : s.size ≤ 1000000) (d : Nat) : ∀ (k i : Nat) (acc : List ByteArray) (cur : List UInt8), i + d = s.size → d < k → cur.length ≤ i → acc.length ≤ i →
    (feluccaref02_Words_L0 k (s, acc, ofL cur, (i : Int))).bind wend = some (acc ++ (wgo (bare (s.data.toList.drop i)) cur).map ofL) := by
  induction d with
  | zero =>
    intro k i acc cur hi hk hc ha
    obtain ⟨k, rfl⟩ : ∃ q, k = q + 1 := ⟨k - 1, by omega⟩
    rw [feluccaref02_Words_L0, lt_no (by omega), cond_false, Option.bind_some, wend_fin _ _ (by omega), List.drop_of_length_le (by simp; omega)]
    rfl
  | succ d ih =>
    intro k i acc cur hi hk hc ha
    obtain ⟨k, rfl⟩ : ∃ q, k = q + 1 := ⟨k - 1, by omega⟩
    have hlt : i < s.size := by omega
    rw [feluccaref02_Words_L0, lt_yes hlt, ge0, drop_at s i hlt, w64_succ (by omega), show (35 : Int) = ((35 : Nat) : Int) from rfl, byteI_is s i hlt 35 (by omega), rblank_sp k s i hlt]
    simp only [cond_true, Bool.and_self, Option.bind_some]
    by_cases h : (s[i]'hlt) = 35
    · have eb : bare ((s[i]'hlt) :: s.data.toList.drop (i + 1)) = [] := by unfold bare; simp [h]
      rw [decide_eq_true (show (s[i]'hlt) = UInt8.ofNat 35 from h), eb]
      simp only [Bool.not_true, cond_false, Option.bind_some]
      exact wend_fin _ _ (by omega)
    · have eb : bare ((s[i]'hlt) :: s.data.toList.drop (i + 1)) = (s[i]'hlt) :: bare (s.data.toList.drop (i + 1)) := by unfold bare; simp [h]
      rw [decide_eq_false (show ¬ (s[i]'hlt) = UInt8.ofNat 35 from h), eb]
      simp only [Bool.not_false, cond_true]
      cases hb : blk (s[i]'hlt) with
      | true =>
        simp only [cond_true, wgo, hb, if_true]
        rw [empty_eq]
        by_cases hcur : cur = []
        · rw [decide_eq_false (by simpa using hcur), if_pos hcur, cond_false]
          exact ih k (i + 1) acc [] (by omega) (by omega) (by simp) (by omega)
        · rw [decide_eq_true hcur, if_neg hcur, cond_true, decide_eq_true (by simp; omega), cond_true]
          have := ih k (i + 1) (acc ++ [ofL cur]) [] (by omega) (by omega) (by simp) (by simp; omega)
          rw [show (⟨#[]⟩ : ByteArray) = ofL [] from rfl, this]
          simp
      | false =>
        have ex : s.extract (i : Int).toNat ((i + 1 : Nat) : Int).toNat = ofL [s[i]'hlt] := by
          rw [extract_sub, ← sub_snoc s i i (Nat.le_refl _) hlt, sub_self]; rfl
        rw [ex, ofL_append, decide_eq_true (show (i : Int) ≤ ((i + 1 : Nat) : Int) by omega), of_le_yes (by omega), show decide ((ofL cur).size + (ofL [s[i]'hlt]).size ≤ 9223372036854775807) = true from decide_eq_true (by rw [ofL_size, ofL_size]; simp; omega)]
        simp only [wgo, hb, Bool.false_eq_true, if_false, cond_true, cond_false, Bool.and_self]
        exact ih k (i + 1) acc (cur ++ [s[i]'hlt]) (by omega) (by omega) (by simp; omega) (by omega)
theorem rWords_sp (k : Nat) {s : ByteArray} (hs : s.size ≤ 1000000) (hk : s.size < k) : feluccaref02_Words k s = some ((wordsL s.data.toList).map ofL) := by
  have h := rwords2_L0 s hs s.size k 0 [] [] (by omega) hk (by simp) (by simp)
  rw [List.drop_zero, List.nil_append] at h
  exact h
theorem rWords_of (k : Nat) {x : List UInt8} (hs : x.length ≤ 1000000) (hk : x.length < k) : feluccaref02_Words k (ofL x) = some ((wordsL x).map ofL) := by
  rw [rWords_sp k (by rw [ofL_size]; exact hs) (by rw [ofL_size]; exact hk), data_ofL]
/-! ### words as a line -/
theorem rline_L0 (l : List ByteArray) (hl : l.length ≤ 1000) (hx : ∀ x ∈ l, x.size ≤ 1000) (d : Nat) : ∀ (k i : Nat), i + d = l.length → d < k →
    feluccaref02_Line_L0 k (l, ofL (jnB (l.take i)), (i : Int)) = some (.inl (ofL (jnB l))) := by
  have len : ∀ i, (jnB (l.take i)).length ≤ 1001000 := fun i => by
    have h1 := jnB_len (l.take i) 1000 (fun x h => hx x (List.mem_of_mem_take h))
    have h2 : (l.take i).length ≤ 1000 := by rw [List.length_take]; omega
    generalize (l.take i).length = q at h1 h2
    omega
  induction d with
  | zero =>
    intro k i hi hk
    obtain ⟨k, rfl⟩ : ∃ q, k = q + 1 := ⟨k - 1, by omega⟩
    obtain rfl : i = l.length := by omega
    rw [feluccaref02_Line_L0, lt_no (Nat.le_refl _), List.take_length]
    rfl
  | succ d ih =>
    intro k i hi hk
    obtain ⟨k, rfl⟩ : ∃ q, k = q + 1 := ⟨k - 1, by omega⟩
    have hlt : i < l.length := by omega
    have hxi := hx l[i] (List.getElem_mem hlt)
    have et : l.take (i + 1) = l.take i ++ [l[i]] := List.take_succ_eq_append_getElem hlt
    have hli := len i
    rw [feluccaref02_Line_L0, lt_yes hlt, ge0, getD_nat _ _ hlt, w64_succ (by omega)]
    simp only [cond_true]
    by_cases h0 : i = 0
    · subst h0
      have e : ofL (jnB (l.take 0)) ++ l[0] = ofL (jnB (l.take 1)) := by
        rw [et]
        simp only [List.take_zero, List.nil_append]
        rw [jnB_one, ofL_data]
        show ofL [] ++ _ = _
        rw [← ofL_data l[0], ofL_append]; rfl
      rw [show decide ((0 : Int) < ((0 : Nat) : Int)) = false from rfl, cond_false, decide_eq_true (by rw [ofL_size]; omega), cond_true, e]
      exact ih k 1 (by omega) (by omega)
    · have hne : l.take i ≠ [] := by
        intro e
        have h1 : (l.take i).length = 0 := by rw [e]; rfl
        rw [List.length_take] at h1
        omega
      have e : (ofL (jnB (l.take i)) ++ (⟨#[32]⟩ : ByteArray)) ++ l[i] = ofL (jnB (l.take (i + 1))) := by
        rw [et, jnB_snoc _ _ hne, show (⟨#[32]⟩ : ByteArray) = ofL [32] from rfl, ofL_append, ← ofL_append, ← ofL_append, ofL_data, ofL_append]
      have es : (ofL (jnB (l.take i)) ++ (⟨#[32]⟩ : ByteArray)).size = (jnB (l.take i)).length + 1 := by
        rw [show (⟨#[32]⟩ : ByteArray) = ofL [32] from rfl, ofL_append, ofL_size]; simp
      rw [decide_eq_true (show (0 : Int) < (i : Int) by omega), cond_true, decide_eq_true (by rw [ofL_size]; show (jnB (l.take i)).length + 1 ≤ _; omega), cond_true, decide_eq_true (by rw [es]; omega), cond_true, e]
      exact ih k (i + 1) (by omega) (by omega)
theorem rLine_sp (k : Nat) {l : List ByteArray} (hl : l.length ≤ 1000) (hx : ∀ x ∈ l, x.size ≤ 1000) (hk : l.length < k) : feluccaref02_Line k l = some (ofL (jnB l ++ [10])) := by
  unfold feluccaref02_Line
  have h := rline_L0 l hl hx l.length k 0 (by omega) hk
  have hj := jnB_len l 1000 hx
  rw [show ofL (jnB (l.take 0)) = (⟨#[]⟩ : ByteArray) from rfl, show ((0 : Nat) : Int) = 0 from rfl] at h
  rw [h]
  simp only [Option.bind_some]
  rw [decide_eq_true (by rw [ofL_size]; show (jnB l).length + 1 ≤ _; omega), cond_true, show (⟨#[10]⟩ : ByteArray) = ofL [10] from rfl, ofL_append]
end Go.Proofs.YtaknikdbnfmlfaaDoor.Ex
