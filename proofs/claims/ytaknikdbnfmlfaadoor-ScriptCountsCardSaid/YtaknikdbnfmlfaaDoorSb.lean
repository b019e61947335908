/- Layer 25 in plain words: rows of acts, what is the same, and counts. -/
import Derived.Test.YtaknikdbnfmlfaaDoorSa
namespace Go.Proofs.YtaknikdbnfmlfaaDoor.Ex
open Go Go.RowKit Go.Lib Go.Proofs.YtaknikdbnfmlfaaDoor.Wrd Go.Proofs.YtaknikdbnfmlfaaDoor.Dig
set_option linter.unusedVariables false
set_option linter.unusedSimpArgs false
abbrev BL (b : List Int) : Prop := ∀ n ∈ b, B8 n
def actsL : Nat → List Int → List GAct
  | 0, _ => []
  | n + 1, b => actB (tup10 b) :: actsL n (b.drop 10)
theorem actsL_len : ∀ (n : Nat) (b : List Int), (actsL n b).length = n
  | 0, _ => rfl
  | n + 1, b => by rw [actsL, List.length_cons, actsL_len n]
theorem getD_take (b : List Int) {m i : Nat} (h : i < m) : (b.take m).getD i 0 = b.getD i 0 := by
  rw [List.getD_eq_getElem?_getD, List.getD_eq_getElem?_getD, List.getElem?_take, if_pos h]
theorem tup10_take (b : List Int) {m : Nat} (h : 10 ≤ m) : tup10 (b.take m) = tup10 b := by
  unfold tup10
  rw [getD_take b (by omega), getD_take b (by omega), getD_take b (by omega), getD_take b (by omega), getD_take b (by omega), getD_take b (by omega), getD_take b (by omega), getD_take b (by omega), getD_take b (by omega), getD_take b (by omega)]
theorem getD_b8 {b : List Int} (hb : BL b) {i : Nat} (h : i < b.length) : B8 (b.getD i 0) := by
  rw [List.getD_eq_getElem?_getD, List.getElem?_eq_getElem h]
  exact hb _ (List.getElem_mem h)
theorem tup10_x8 {b : List Int} (hb : BL b) (h : 10 ≤ b.length) : X8 (tup10 b) :=
  ⟨getD_b8 hb (by omega), getD_b8 hb (by omega), getD_b8 hb (by omega), getD_b8 hb (by omega), getD_b8 hb (by omega), getD_b8 hb (by omega), getD_b8 hb (by omega), getD_b8 hb (by omega), getD_b8 hb (by omega), getD_b8 hb (by omega)⟩
theorem BL_drop {b : List Int} (hb : BL b) (n : Nat) : BL (b.drop n) := fun x hx => hb x (List.mem_of_mem_drop hx)
theorem BL_take {b : List Int} (hb : BL b) (n : Nat) : BL (b.take n) := fun x hx => hb x (List.mem_of_mem_take hx)
theorem lenge {b : List Int} {m : Nat} (h : m ≤ b.length) : decide (((m : Nat) : Int) ≤ Int.ofNat b.length) = true := decide_eq_true (by show (m : Int) ≤ (b.length : Int); omega)
theorem lengt {b : List Int} {m : Nat} (h : m < b.length) : decide (((m : Nat) : Int) < Int.ofNat b.length) = true := decide_eq_true (by show (m : Int) < (b.length : Int); omega)
theorem acts_L0 : ∀ (n k : Nat) (b : List Int) (l : List GAct), b.length / 10 = n → n + 60 < k → n + l.length ≤ 100000 → BL b → script_Acts_L0 k (b, l) = some (.inl (b.drop (10 * n), l ++ actsL n b))
  | 0, k, b, l, hn, hk, hl, hb => by
    obtain ⟨k, rfl⟩ : ∃ m, k = m + 1 := ⟨k - 1, by omega⟩
    rw [script_Acts_L0, show decide ((10 : Int) ≤ Int.ofNat b.length) = false from decide_eq_false (by show ¬ (10 : Int) ≤ (b.length : Int); omega)]
    simp [actsL]
  | n + 1, k, b, l, hn, hk, hl, hb => by
    obtain ⟨k, rfl⟩ : ∃ m, k = m + 1 := ⟨k - 1, by omega⟩
    have h10 : 10 ≤ b.length := by omega
    have ht : (b.take (Int.toNat 10)).length = 10 := by rw [List.length_take]; show min 10 b.length = 10; omega
    have e : script_act k (tup10 (b.take (Int.toNat 10))) = some (actB (tup10 b)) := by
      rw [tup10_take b (show 10 ≤ Int.toNat 10 from Nat.le_refl _)]
      exact act_sp k (tup10_x8 hb h10) (by omega)
    rw [script_Acts_L0, show decide ((10 : Int) ≤ Int.ofNat b.length) = true from lenge (m := 10) h10, show decide ((10 : Int) ≤ Int.ofNat (b.take (Int.toNat 10)).length) = true from by rw [ht]; rfl]
    simp only [cond_true]
    refine (congrArg (fun o => Option.bind o _) e).trans ?_
    simp only [Option.bind_some]
    rw [decide_eq_true (by simp; omega), cond_true]
    show script_Acts_L0 k (b.drop 10, l ++ [actB (tup10 b)]) = _
    rw [acts_L0 n k (b.drop 10) _ (by rw [List.length_drop]; omega) (by omega) (by simp; omega) (BL_drop hb 10), List.drop_drop, show 10 + 10 * n = 10 * (n + 1) by omega, actsL]
    simp
theorem Acts_sp (k : Nat) {b : List Int} (hb : BL b) (hl : b.length ≤ 100000) (hk : b.length + 61 < k) : script_Acts k b = some (actsL (b.length / 10) b, ((b.length % 10 : Nat) : Int)) := by
  unfold script_Acts
  rw [acts_L0 (b.length / 10) k b [] rfl (by omega) (by simp; omega) hb]
  simp only [Option.bind_some, List.nil_append]
  rw [List.length_drop, show b.length - 10 * (b.length / 10) = b.length % 10 by omega]
  rfl
theorem e51 : w64 (5 + 1) = 6 := by decide
theorem e61 : w64 (6 + 1) = 7 := by decide
theorem e71 : w64 (7 + 1) = 8 := by decide
theorem e81 : w64 (8 + 1) = 9 := by decide
theorem racts_L0 : ∀ (n k : Nat) (b : List Int) (l : List GAct), b.length / 10 = n → n + 60 < k → n + l.length ≤ 100000 → BL b → feluccaref25_Acts_L0 k (b, l) = some (.inl (b.drop (10 * n), l ++ actsL n b))
  | 0, k, b, l, hn, hk, hl, hb => by
    obtain ⟨k, rfl⟩ : ∃ m, k = m + 1 := ⟨k - 1, by omega⟩
    rw [feluccaref25_Acts_L0, show decide ((10 : Int) ≤ Int.ofNat b.length) = false from decide_eq_false (by show ¬ (10 : Int) ≤ (b.length : Int); omega)]
    simp [actsL]
  | n + 1, k, b, l, hn, hk, hl, hb => by
    obtain ⟨k, rfl⟩ : ∃ m, k = m + 1 := ⟨k - 1, by omega⟩
    have h10 : 10 ≤ b.length := by omega
    have e : feluccaref25_act k (tup10 b) = some (actB (tup10 b)) := ract_sp k (tup10_x8 hb h10) (by omega)
    rw [feluccaref25_Acts_L0]
    simp only [e01, e11, e21, e31, e41, e51, e61, e71, e81]
    rw [show decide ((10 : Int) ≤ Int.ofNat b.length) = true from lenge (m := 10) h10, show decide ((0 : Int) < Int.ofNat b.length) = true from lengt (m := 0) (by omega), show decide ((1 : Int) < Int.ofNat b.length) = true from lengt (m := 1) (by omega), show decide ((2 : Int) < Int.ofNat b.length) = true from lengt (m := 2) (by omega), show decide ((3 : Int) < Int.ofNat b.length) = true from lengt (m := 3) (by omega), show decide ((4 : Int) < Int.ofNat b.length) = true from lengt (m := 4) (by omega), show decide ((5 : Int) < Int.ofNat b.length) = true from lengt (m := 5) (by omega), show decide ((6 : Int) < Int.ofNat b.length) = true from lengt (m := 6) (by omega), show decide ((7 : Int) < Int.ofNat b.length) = true from lengt (m := 7) (by omega), show decide ((8 : Int) < Int.ofNat b.length) = true from lengt (m := 8) (by omega), show decide ((9 : Int) < Int.ofNat b.length) = true from lengt (m := 9) (by omega)]
    simp only [cond_true]
    refine (congrArg (fun o => Option.bind o _) e).trans ?_
    simp only [Option.bind_some]
    rw [decide_eq_true (by simp; omega), cond_true]
    show feluccaref25_Acts_L0 k (b.drop 10, l ++ [actB (tup10 b)]) = _
    rw [racts_L0 n k (b.drop 10) _ (by rw [List.length_drop]; omega) (by omega) (by simp; omega) (BL_drop hb 10), List.drop_drop, show 10 + 10 * n = 10 * (n + 1) by omega, actsL]
    simp
theorem rActs_sp (k : Nat) {b : List Int} (hb : BL b) (hl : b.length ≤ 100000) (hk : b.length + 61 < k) : feluccaref25_Acts k b = some (actsL (b.length / 10) b, ((b.length % 10 : Nat) : Int)) := by
  unfold feluccaref25_Acts
  rw [racts_L0 (b.length / 10) k b [] rfl (by omega) (by simp; omega) hb]
  simp only [Option.bind_some, List.nil_append]
  rw [List.length_drop, show b.length - 10 * (b.length / 10) = b.length % 10 by omega]
  rfl
/-- Acts of bytes that are cut at a ten. -/
theorem actsL_cut : ∀ (m n : Nat) (b : List Int), m ≤ n → 10 * n ≤ b.length → actsL n b = actsL m (b.take (10 * m)) ++ actsL (n - m) (b.drop (10 * m))
  | 0, n, b, _, _ => by simp [actsL]
  | m + 1, 0, b, h, _ => by omega
  | m + 1, n + 1, b, h, hl => by
    rw [actsL, actsL, tup10_take b (by omega), actsL_cut m n (b.drop 10) (by omega) (by rw [List.length_drop]; omega), List.cons_append]
    rw [show 10 * (m + 1) = 10 * m + 10 by omega, List.drop_take, show 10 * m + 10 - 10 = 10 * m by omega, List.drop_drop, show n + 1 - (m + 1) = n - m by omega, show 10 + 10 * m = 10 * m + 10 by omega]
/-! ### what is the same -/
def eqDo (x y : GAct) : Bool := decide (x.1 = y.1)
def eqTx (x y : GAct) : Bool := x.2.1.data.toList == y.2.1.data.toList
def eqDi (x y : GAct) : Bool := x.2.2.1 == y.2.2.1 && (x.2.2.2.1 == y.2.2.2.1 && (x.2.2.2.2.1 == y.2.2.2.2.1 && (x.2.2.2.2.2.1 == y.2.2.2.2.2.1 && (x.2.2.2.2.2.2.1 == y.2.2.2.2.2.2.1 && (x.2.2.2.2.2.2.2.1 == y.2.2.2.2.2.2.2.1 && (x.2.2.2.2.2.2.2.2.1 == y.2.2.2.2.2.2.2.2.1 && x.2.2.2.2.2.2.2.2.2.1 == y.2.2.2.2.2.2.2.2.2.1)))) && (x.2.2.2.2.2.2.2.2.2.2.1 == y.2.2.2.2.2.2.2.2.2.2.1 && (x.2.2.2.2.2.2.2.2.2.2.2.1 == y.2.2.2.2.2.2.2.2.2.2.2.1 && (x.2.2.2.2.2.2.2.2.2.2.2.2.1 == y.2.2.2.2.2.2.2.2.2.2.2.2.1 && (x.2.2.2.2.2.2.2.2.2.2.2.2.2.1 == y.2.2.2.2.2.2.2.2.2.2.2.2.2.1 && x.2.2.2.2.2.2.2.2.2.2.2.2.2.2.1 == y.2.2.2.2.2.2.2.2.2.2.2.2.2.2.1))))))
def eqN (x y : GAct) : Bool := decide (x.2.2.2.2.2.2.2.2.2.2.2.2.2.2.2.1 = y.2.2.2.2.2.2.2.2.2.2.2.2.2.2.2.1)
def eqBu (x y : GAct) : Bool := x.2.2.2.2.2.2.2.2.2.2.2.2.2.2.2.2.2.2.2.1 == y.2.2.2.2.2.2.2.2.2.2.2.2.2.2.2.2.2.2.2.1 && (x.2.2.2.2.2.2.2.2.2.2.2.2.2.2.2.2.2.2.2.2.1 == y.2.2.2.2.2.2.2.2.2.2.2.2.2.2.2.2.2.2.2.2.1 && (x.2.2.2.2.2.2.2.2.2.2.2.2.2.2.2.2.2.2.2.2.2.1 == y.2.2.2.2.2.2.2.2.2.2.2.2.2.2.2.2.2.2.2.2.2.1 && (x.2.2.2.2.2.2.2.2.2.2.2.2.2.2.2.2.2.2.2.2.2.2.1 == y.2.2.2.2.2.2.2.2.2.2.2.2.2.2.2.2.2.2.2.2.2.2.1 && x.2.2.2.2.2.2.2.2.2.2.2.2.2.2.2.2.2.2.2.2.2.2.2 == y.2.2.2.2.2.2.2.2.2.2.2.2.2.2.2.2.2.2.2.2.2.2.2)))
def eqCl (x y : GAct) : Bool := decide (x.2.2.2.2.2.2.2.2.2.2.2.2.2.2.2.2.2.1 = y.2.2.2.2.2.2.2.2.2.2.2.2.2.2.2.2.2.1)
def eqSz (x y : GAct) : Bool := decide (x.2.2.2.2.2.2.2.2.2.2.2.2.2.2.2.2.2.2.1 = y.2.2.2.2.2.2.2.2.2.2.2.2.2.2.2.2.2.2.1)
def eqIds (x y : GAct) : Bool := decide (x.2.2.2.2.2.2.2.2.2.2.2.2.2.2.2.2.1 = y.2.2.2.2.2.2.2.2.2.2.2.2.2.2.2.2.1)
abbrev idsA (x : GAct) : List Int := x.2.2.2.2.2.2.2.2.2.2.2.2.2.2.2.2.1
def eqA (x y : GAct) : Bool := eqDo x y && (eqTx x y && (eqDi x y && (eqN x y && (eqBu x y && (eqCl x y && (eqSz x y && eqIds x y))))))
theorem equal_L0 (a b : List Int) (ha : a.length ≤ 1000000) (hl : a.length = b.length) : ∀ (n i k : Nat), i + n = a.length → n < k → slices_Equal_int_int_L0 k (a, b, Int.ofNat a.length, (i : Int)) = some (if a.drop i = b.drop i then .inl () else .inr false)
  | 0, i, k, h, hk => by
    obtain ⟨k, rfl⟩ : ∃ m, k = m + 1 := ⟨k - 1, by omega⟩
    rw [slices_Equal_int_int_L0, lt_no (by omega), List.drop_eq_nil_of_le (by omega), List.drop_eq_nil_of_le (by omega), if_pos rfl]; rfl
  | n + 1, i, k, h, hk => by
    obtain ⟨k, rfl⟩ : ∃ m, k = m + 1 := ⟨k - 1, by omega⟩
    have hi : i < a.length := by omega
    have hj : i < b.length := by omega
    rw [slices_Equal_int_int_L0, lt_yes hi, lt_yes hj, ge0, getD_nat _ _ hi, getD_nat _ _ hj, w64_succ (by omega), List.drop_eq_getElem_cons hi, List.drop_eq_getElem_cons hj]
    simp only [cond_true]
    by_cases he : a[i] = b[i]
    · rw [decide_eq_true he]
      simp only [Bool.not_true, cond_false]
      rw [equal_L0 a b ha hl n (i + 1) k (by omega) (by omega)]
      by_cases ht : a.drop (i + 1) = b.drop (i + 1)
      · rw [if_pos ht, if_pos (by rw [he, ht])]
      · rw [if_neg ht, if_neg (fun e => ht (List.cons.inj e).2)]
    · rw [decide_eq_false he, if_neg (fun e => he (List.cons.inj e).1)]
      rfl
theorem equal_sp (k : Nat) (a b : List Int) (ha : a.length ≤ 1000000) (hk : a.length < k) : slices_Equal_int_int k (a, b) = some (decide (a = b)) := by
  unfold slices_Equal_int_int
  dsimp only
  by_cases hl : a.length = b.length
  · have h := equal_L0 a b ha hl a.length 0 k (by omega) hk
    rw [show ((0 : Nat) : Int) = 0 from rfl, List.drop_zero, List.drop_zero] at h
    rw [h, show decide (Int.ofNat a.length = Int.ofNat b.length) = true from decide_eq_true (by rw [hl])]
    by_cases he : a = b
    · rw [if_pos he, decide_eq_true he]; rfl
    · rw [if_neg he, decide_eq_false he]; rfl
  · rw [show decide (Int.ofNat a.length = Int.ofNat b.length) = false from decide_eq_false (by show ¬ ((a.length : Int) = (b.length : Int)); omega), decide_eq_false (fun e => hl (by rw [e]))]
    rfl
theorem rints_L0 (a b : List Int) (ha : a.length ≤ 1000000) (hl : a.length = b.length) : ∀ (n i k : Nat), i + n = a.length → n < k → feluccaref05_Ints_L0 k (a, b, (i : Int)) = some (if a.drop i = b.drop i then .inl () else .inr false)
  | 0, i, k, h, hk => by
    obtain ⟨k, rfl⟩ : ∃ m, k = m + 1 := ⟨k - 1, by omega⟩
    rw [feluccaref05_Ints_L0, lt_no (by omega), List.drop_eq_nil_of_le (by omega), List.drop_eq_nil_of_le (by omega), if_pos rfl]; rfl
  | n + 1, i, k, h, hk => by
    obtain ⟨k, rfl⟩ : ∃ m, k = m + 1 := ⟨k - 1, by omega⟩
    have hi : i < a.length := by omega
    have hj : i < b.length := by omega
    rw [feluccaref05_Ints_L0, lt_yes hi, lt_yes hj, ge0, getD_nat _ _ hi, getD_nat _ _ hj, w64_succ (by omega), List.drop_eq_getElem_cons hi, List.drop_eq_getElem_cons hj]
    simp only [cond_true]
    by_cases he : a[i] = b[i]
    · rw [decide_eq_true he]
      simp only [Bool.not_true, cond_false]
      rw [rints_L0 a b ha hl n (i + 1) k (by omega) (by omega)]
      by_cases ht : a.drop (i + 1) = b.drop (i + 1)
      · rw [if_pos ht, if_pos (by rw [he, ht])]
      · rw [if_neg ht, if_neg (fun e => ht (List.cons.inj e).2)]
    · rw [decide_eq_false he, if_neg (fun e => he (List.cons.inj e).1)]
      rfl
theorem rints_sp (k : Nat) (a b : List Int) (ha : a.length ≤ 1000000) (hk : a.length < k) : feluccaref05_Ints k (a, b) = some (decide (a = b)) := by
  unfold feluccaref05_Ints
  dsimp only
  by_cases hl : a.length = b.length
  · have h := rints_L0 a b ha hl a.length 0 k (by omega) hk
    rw [show ((0 : Nat) : Int) = 0 from rfl, List.drop_zero, List.drop_zero] at h
    rw [h, show decide (Int.ofNat a.length = Int.ofNat b.length) = true from decide_eq_true (by rw [hl])]
    by_cases he : a = b
    · rw [if_pos he, decide_eq_true he]; rfl
    · rw [if_neg he, decide_eq_false he]; rfl
  · rw [show decide (Int.ofNat a.length = Int.ofNat b.length) = false from decide_eq_false (by show ¬ ((a.length : Int) = (b.length : Int)); omega), decide_eq_false (fun e => hl (by rw [e]))]
    rfl
theorem same1_sp (k : Nat) (x y : GAct) (hi : (idsA x).length ≤ 1000) (hk : 1001 ≤ k) : script_Same_1 k (x, y) = some (eqA x y) := by
  unfold script_Same_1
  simp only [equal_sp k (idsA x) (idsA y) (by omega) (by omega), Option.bind_some, bif_id, bif_and, Bool.and_true]
  rfl
/-- Two rows of acts are the same. -/
def sameB : List GAct → List GAct → Bool
  | [], [] => true
  | x :: r, y :: q => eqA x y && sameB r q
  | _, _ => false
theorem sameB_len : ∀ {a b : List GAct}, sameB a b = true → a.length = b.length
  | [], [], _ => rfl
  | [], _ :: _, h => by cases h
  | _ :: _, [], h => by cases h
  | x :: r, y :: q, h => by
    simp only [sameB, Bool.and_eq_true] at h
    simp [sameB_len h.2]
theorem eqA_refl (x : GAct) : eqA x x = true := by
  simp [eqA, eqDo, eqTx, eqDi, eqN, eqBu, eqCl, eqSz, eqIds]
theorem sameB_refl : ∀ (a : List GAct), sameB a a = true
  | [] => rfl
  | x :: r => by simp [sameB, eqA_refl, sameB_refl r]
abbrev IdsOk (a : List GAct) : Prop := ∀ x ∈ a, (idsA x).length ≤ 1000
theorem eqf_L0 (a b : List GAct) (ha : a.length ≤ 100000) (hl : a.length = b.length) (hi : IdsOk a) : ∀ (n i k : Nat), i + n = a.length → n + 1002 < k → EqualFunc_A_L0 k (b, (), a, Int.ofNat a.length, (i : Int)) = some (bif sameB (a.drop i) (b.drop i) then .inl () else .inr false)
  | 0, i, k, h, hk => by
    obtain ⟨k, rfl⟩ : ∃ m, k = m + 1 := ⟨k - 1, by omega⟩
    rw [EqualFunc_A_L0, lt_no (by omega), List.drop_eq_nil_of_le (by omega), List.drop_eq_nil_of_le (by omega)]; rfl
  | n + 1, i, k, h, hk => by
    obtain ⟨k, rfl⟩ : ∃ m, k = m + 1 := ⟨k - 1, by omega⟩
    have h1 : i < a.length := by omega
    have h2 : i < b.length := by omega
    rw [EqualFunc_A_L0, lt_yes h1, lt_yes h2, ge0, getD_nat _ _ h1, getD_nat _ _ h2, w64_succ (by omega), List.drop_eq_getElem_cons h1, List.drop_eq_getElem_cons h2, same1_sp k _ _ (hi _ (List.getElem_mem h1)) (by omega)]
    simp only [cond_true, Option.bind_some, sameB]
    cases eqA a[i] b[i] with
    | true => simp only [cond_true, Bool.true_and]; exact eqf_L0 a b ha hl hi n (i + 1) k (by omega) (by omega)
    | false => rfl
theorem Same_sp (k : Nat) (a b : List GAct) (ha : a.length ≤ 100000) (hi : IdsOk a) (hk : a.length + 1002 < k) : script_Same k (a, b) = some (sameB a b) := by
  unfold script_Same EqualFunc_A
  by_cases hl : a.length = b.length
  · have h := eqf_L0 a b ha hl hi a.length 0 k (by omega) hk
    rw [show ((0 : Nat) : Int) = 0 from rfl, List.drop_zero, List.drop_zero] at h
    simp only [h, show decide (Int.ofNat a.length = Int.ofNat b.length) = true from decide_eq_true (by rw [hl])]
    cases sameB a b <;> rfl
  · simp only [show decide (Int.ofNat a.length = Int.ofNat b.length) = false from decide_eq_false (by show ¬ ((a.length : Int) = (b.length : Int)); omega)]
    cases hs : sameB a b with
    | true => exact absurd (sameB_len hs) hl
    | false => rfl
theorem rsame_L0 (a b : List GAct) (ha : a.length ≤ 100000) (hl : a.length = b.length) (hi : IdsOk a) : ∀ (n i k : Nat), i + n = a.length → n + 1002 < k → feluccaref25_Same_L0 k (a, b, (i : Int)) = some (bif sameB (a.drop i) (b.drop i) then .inl () else .inr false)
  | 0, i, k, h, hk => by
    obtain ⟨k, rfl⟩ : ∃ m, k = m + 1 := ⟨k - 1, by omega⟩
    rw [feluccaref25_Same_L0, lt_no (by omega), List.drop_eq_nil_of_le (by omega), List.drop_eq_nil_of_le (by omega)]; rfl
  | n + 1, i, k, h, hk => by
    obtain ⟨k, rfl⟩ : ∃ m, k = m + 1 := ⟨k - 1, by omega⟩
    have h1 : i < a.length := by omega
    have h2 : i < b.length := by omega
    have hid := hi _ (List.getElem_mem h1)
    have ih := rsame_L0 a b ha hl hi n (i + 1) k (by omega) (by omega)
    rw [feluccaref25_Same_L0, lt_yes h1, lt_yes h2, ge0, getD_nat _ _ h1, getD_nat _ _ h2, w64_succ (by omega), List.drop_eq_getElem_cons h1, List.drop_eq_getElem_cons h2]
    simp only [cond_true, sameB]
    rw [ih, rints_sp k (idsA a[i]) (idsA b[i]) (by omega) (by omega)]
    generalize hx : a[i] = x at *
    generalize hy : b[i] = y at *
    show (bif !(eqDo x y) then (some (.inr false) : Option (Unit ⊕ Bool)) else bif !(eqTx x y) then some (.inr false) else bif !(eqDi x y) then some (.inr false) else bif !(eqN x y) then some (.inr false) else bif !(eqCl x y) then some (.inr false) else bif !(eqSz x y) then some (.inr false) else bif !(eqBu x y) then some (.inr false) else (some (eqIds x y)).bind fun o_13 => bif o_13 then some (bif sameB (a.drop (i + 1)) (b.drop (i + 1)) then .inl () else .inr false) else some (.inr false)) = some (bif (eqA x y && sameB (a.drop (i + 1)) (b.drop (i + 1))) then .inl () else .inr false)
    unfold eqA
    cases eqDo x y <;> cases eqTx x y <;> cases eqDi x y <;> cases eqN x y <;> cases eqCl x y <;> cases eqSz x y <;> cases eqBu x y <;> cases eqIds x y <;> rfl
theorem rSame_sp (k : Nat) (a b : List GAct) (ha : a.length ≤ 100000) (hi : IdsOk a) (hk : a.length + 1002 < k) : feluccaref25_Same k (a, b) = some (sameB a b) := by
  unfold feluccaref25_Same
  by_cases hl : a.length = b.length
  · have h := rsame_L0 a b ha hl hi a.length 0 k (by omega) hk
    rw [show ((0 : Nat) : Int) = 0 from rfl, List.drop_zero, List.drop_zero] at h
    simp only [h, show decide (Int.ofNat a.length = Int.ofNat b.length) = true from decide_eq_true (by rw [hl])]
    cases sameB a b <;> rfl
  · simp only [show decide (Int.ofNat a.length = Int.ofNat b.length) = false from decide_eq_false (by show ¬ ((a.length : Int) = (b.length : Int)); omega)]
    cases hs : sameB a b with
    | true => exact absurd (sameB_len hs) hl
    | false => rfl
/-! ### counts -/
def cntA (q : Int) : List GAct → Nat
  | [] => 0
  | x :: r => (if x.1 = q then 1 else 0) + cntA q r
theorem cntA_le (q : Int) : ∀ l : List GAct, cntA q l ≤ l.length
  | [] => Nat.le_refl _
  | x :: r => by have := cntA_le q r; simp only [cntA, List.length_cons]; split <;> omega
theorem count_L0 (l : List GAct) (hl : l.length ≤ 100000) (q : Int) : ∀ (n i k c : Nat), i + n = l.length → n < k → c ≤ i → script_Count_L0 k (q, (c : Int), l, Int.ofNat l.length, (i : Int)) = some (.inl ((c + cntA q (l.drop i) : Nat) : Int))
  | 0, i, k, c, h, hk, hc => by
    obtain ⟨k, rfl⟩ : ∃ m, k = m + 1 := ⟨k - 1, by omega⟩
    rw [script_Count_L0, lt_no (by omega), List.drop_eq_nil_of_le (by omega)]; rfl
  | n + 1, i, k, c, h, hk, hc => by
    obtain ⟨k, rfl⟩ : ∃ m, k = m + 1 := ⟨k - 1, by omega⟩
    have h1 : i < l.length := by omega
    rw [script_Count_L0, lt_yes h1, ge0, getD_nat _ _ h1, w64_succ (by omega), w64_succ (by omega), List.drop_eq_getElem_cons h1]
    simp only [cond_true, cntA]
    by_cases he : l[i].1 = q
    · rw [decide_eq_true he, cond_true, if_pos he, count_L0 l hl q n (i + 1) k (c + 1) (by omega) (by omega) (by omega), show c + 1 + cntA q (l.drop (i + 1)) = c + (1 + cntA q (l.drop (i + 1))) by omega]
    · rw [decide_eq_false he, cond_false, if_neg he, count_L0 l hl q n (i + 1) k c (by omega) (by omega) (by omega), Nat.zero_add]
theorem Count_sp (k : Nat) {l : List GAct} (hl : l.length ≤ 100000) (q : Int) (hk : l.length < k) : script_Count k (l, q) = some ((cntA q l : Nat) : Int) := by
  unfold script_Count
  have h := count_L0 l hl q l.length 0 k 0 (by omega) hk (Nat.le_refl _)
  rw [show ((0 : Nat) : Int) = 0 from rfl, List.drop_zero, Nat.zero_add] at h
  simp only [h]
  rfl
theorem rcount_L0 (l : List GAct) (hl : l.length ≤ 100000) (q : Int) : ∀ (n i k c : Nat), i + n = l.length → n < k → c ≤ i → feluccaref25_Count_L0 k (l, q, (c : Int), (i : Int)) = some (.inl ((c + cntA q (l.drop i) : Nat) : Int))
  | 0, i, k, c, h, hk, hc => by
    obtain ⟨k, rfl⟩ : ∃ m, k = m + 1 := ⟨k - 1, by omega⟩
    rw [feluccaref25_Count_L0, lt_no (by omega), List.drop_eq_nil_of_le (by omega)]; rfl
  | n + 1, i, k, c, h, hk, hc => by
    obtain ⟨k, rfl⟩ : ∃ m, k = m + 1 := ⟨k - 1, by omega⟩
    have h1 : i < l.length := by omega
    rw [feluccaref25_Count_L0, lt_yes h1, ge0, getD_nat _ _ h1, w64_succ (by omega), w64_succ (by omega), List.drop_eq_getElem_cons h1]
    simp only [cond_true, cntA]
    by_cases he : l[i].1 = q
    · rw [decide_eq_true he, cond_true, if_pos he, rcount_L0 l hl q n (i + 1) k (c + 1) (by omega) (by omega) (by omega), show c + 1 + cntA q (l.drop (i + 1)) = c + (1 + cntA q (l.drop (i + 1))) by omega]
    · rw [decide_eq_false he, cond_false, if_neg he, rcount_L0 l hl q n (i + 1) k c (by omega) (by omega) (by omega), Nat.zero_add]
theorem rCount_sp (k : Nat) {l : List GAct} (hl : l.length ≤ 100000) (q : Int) (hk : l.length < k) : feluccaref25_Count k (l, q) = some ((cntA q l : Nat) : Int) := by
  unfold feluccaref25_Count
  have h := rcount_L0 l hl q l.length 0 k 0 (by omega) hk (Nat.le_refl _)
  rw [show ((0 : Nat) : Int) = 0 from rfl, List.drop_zero, Nat.zero_add] at h
  simp only [h]
  rfl
end Go.Proofs.YtaknikdbnfmlfaaDoor.Ex
