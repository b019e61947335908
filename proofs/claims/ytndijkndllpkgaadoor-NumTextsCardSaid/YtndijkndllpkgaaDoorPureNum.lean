/- The laws of layer 1 over numbers and lists: quotients upwards, clamps, texts and what they say. -/
import Derived.Test.YtndijkndllpkgaaDoorPfeluccalaw01NumTells
import Derived.Test.YtndijkndllpkgaaDoorPfeluccalaw01NumBack
import Derived.Test.YtndijkndllpkgaaDoorPfeluccalaw01NumCeils
import Derived.Test.YtndijkndllpkgaaDoorPfeluccalaw01NumClamps
import Derived.Test.YtndijkndllpkgaaDoorPfeluccalaw01NumOrder
import Derived.Test.YtndijkndllpkgaaDoorPfeluccalaw01NumTexts
namespace Go.Proofs.YtndijkndllpkgaaDoor.PureNum
open Go.RowKit Go.Lib Go.Proofs.YtndijkndllpkgaaDoorW.PrintWords Go.Proofs.YtndijkndllpkgaaDoorW.PrintLast Go.Proofs.YtndijkndllpkgaaDoorW.PrintMore Go.Proofs.YtndijkndllpkgaaDoor.Pr Go.Proofs.YtndijkndllpkgaaDoor.Dig

abbrev In64 (x : Int) : Prop := -9223372036854775808 ≤ x ∧ x ≤ 9223372036854775807
theorem w64 {x : Int} (h0 : -9223372036854775808 ≤ x) (h1 : x ≤ 9223372036854775807) : wrap64 x = x := by unfold wrap64; omega

def cl (a b : Int) : Int := if a % b = 0 then a / b else a / b + 1

theorem cl_facts {a b : Int} (ha : 0 ≤ a) (hb : 1 ≤ b) : 0 ≤ a / b ∧ a / b ≤ a ∧ 0 ≤ cl a b ∧ cl a b ≤ a ∧ (∀ n : Int, cl a b ≤ n ↔ a ≤ n * b) := by
  have hq : b * (a / b) + a % b = a := Int.mul_ediv_add_emod a b
  have hr0 : 0 ≤ a % b := Int.emod_nonneg a (by omega)
  have hr1 : a % b < b := Int.emod_lt_of_pos a (by omega)
  have hq0 : 0 ≤ a / b := Int.ediv_nonneg ha (by omega)
  have hm : 1 * (a / b) ≤ b * (a / b) := Int.mul_le_mul_of_nonneg_right hb hq0
  unfold cl
  refine ⟨hq0, by omega, by split <;> omega, ?_, fun n => ?_⟩
  · split
    · omega
    · omega
  · have hn : ∀ m : Int, m ≤ n → b * m ≤ n * b := fun m h => by rw [Int.mul_comm]; exact Int.mul_le_mul_of_nonneg_right h (by omega)
    have hn' : ∀ m : Int, n < m → n * b + b ≤ b * m := fun m h => by
      have := Int.mul_le_mul_of_nonneg_right (show n + 1 ≤ m by omega) (show (0 : Int) ≤ b by omega)
      rw [Int.add_mul, Int.one_mul, Int.mul_comm m b] at this
      exact this
    split
    · constructor
      · intro h; have := hn _ h; omega
      · intro h
        rcases Int.lt_or_le n (a / b) with h' | h'
        · have := hn' _ h'; omega
        · exact h'
    · constructor
      · intro h
        have := hn (a / b + 1) h
        rw [Int.mul_add] at this
        omega
      · intro h
        rcases Int.lt_or_le n (a / b + 1) with h' | h'
        · have := hn' _ h'
          rw [Int.mul_add] at this
          omega
        · exact h'

theorem ceil_some {a b : Int} (ha : 0 ≤ a) (ha' : a ≤ 9223372036854775807) (hb : 1 ≤ b) : num_Ceil.f a b = some (cl a b, true) := by
  obtain ⟨h1, h2, h3, h4, _⟩ := cl_facts ha hb
  have hr0 : 0 ≤ a % b := Int.emod_nonneg a (by omega)
  unfold num_Ceil.f
  rw [if_neg (by omega), if_neg (by omega), if_neg (by omega), Int.tdiv_eq_ediv_of_nonneg ha, Int.tmod_eq_emod_of_nonneg ha, w64 (x := a / b) (by omega) (by omega)]
  have e : a / b + mn (a % b) 1 = cl a b := by unfold cl mn; split <;> split <;> omega
  rw [e, w64 (by omega) (by omega)]

theorem ceil_none {a b : Int} (h : a < 0 ∨ b < 1) : num_Ceil.f a b = some (0, false) := by
  unfold num_Ceil.f
  by_cases ha : a < 0
  · rw [if_pos ha]
  · rw [if_neg ha, if_pos (by omega)]

theorem refceil_some {a b : Int} (k : Nat) (ha : 0 ≤ a) (ha' : a ≤ 9223372036854775807) (hb : 1 ≤ b) : feluccaref01_Ceil.f (k + 1) a b = some (cl a b, true) := by
  obtain ⟨h1, h2, h3, h4, _⟩ := cl_facts ha hb
  unfold feluccaref01_Ceil.f
  rw [if_neg (by omega)]
  simp only [feluccaref01_Ceil.j0]
  rw [if_neg (by simp; omega), if_neg (by omega), Int.tdiv_eq_ediv_of_nonneg ha, Int.tmod_eq_emod_of_nonneg ha, w64 (x := a / b) (by omega) (by omega)]
  unfold cl at h4 h3 ⊢
  by_cases h : a % b = 0
  · rw [if_pos h, if_pos h]
  · rw [if_neg h] at h4 h3 ⊢; rw [if_neg h, w64 (by omega) (by omega)]

theorem refceil_none {a b : Int} (k : Nat) (h : a < 0 ∨ b < 1) : feluccaref01_Ceil.f (k + 1) a b = some (0, false) := by
  unfold feluccaref01_Ceil.f
  by_cases ha : a < 0
  · rw [if_pos ha]; simp only [feluccaref01_Ceil.j0]; rfl
  · rw [if_neg ha]; simp only [feluccaref01_Ceil.j0]; rw [if_pos (by simp; omega)]

theorem small_true : feluccalaw01_small.f = some true := by
  have d3 : decDigits 3 = [51] := dec_small (by omega)
  have d30 : decDigits 30 = [51, 48] := by rw [dec_big (by omega), show 30 / 10 = 3 from rfl, d3]; rfl
  have d305 : decDigits 305 = [51, 48, 53] := by rw [dec_big (by omega), show 305 / 10 = 30 from rfl, d30]; rfl
  have t : num_Text.f (-305) = some ⟨#[45, 51, 48, 53]⟩ := by
    unfold num_Text.f itoa
    rw [if_pos (by omega), if_pos (by omega), if_pos (by omega), show (-305 : Int).natAbs = 305 from rfl, d305]
  have p1 : num_Parse.f (⟨#[52, 50]⟩ : ByteArray) 42 = some (42, true) := by decide +kernel
  have p2 : num_Parse.f (⟨#[52, 51]⟩ : ByteArray) 42 = some (0, false) := by decide +kernel
  have p3 : num_Parse.f (⟨#[48, 48, 55]⟩ : ByteArray) 42 = some (0, false) := by decide +kernel
  have p4 : num_Parse.f (⟨#[48]⟩ : ByteArray) 0 = some (0, true) := by decide +kernel
  have p5 : num_Parse.f (⟨#[]⟩ : ByteArray) 42 = some (0, false) := by decide +kernel
  unfold feluccalaw01_small.f
  rw [t, p1, p2, p3, p4, p5]
  decide +kernel

theorem text_some {n : Int} (h : In64 n) : num_Text.f n = some ⟨(itoa n).toArray⟩ := by
  unfold num_Text.f; rw [if_pos h.1, if_pos h.2]

theorem ba_size (l : List UInt8) : (⟨l.toArray⟩ : ByteArray).size = l.length := by simp [ByteArray.size]
theorem ba_data (l : List UInt8) : (⟨l.toArray⟩ : ByteArray).data.toList = l := by simp
theorem ba_toList (l : List UInt8) : (⟨l.toArray⟩ : ByteArray).toList = l := by rw [ByteArray.toList_eq]
theorem ba_append (l m : List UInt8) : (⟨l.toArray⟩ : ByteArray) ++ (⟨m.toArray⟩ : ByteArray) = ⟨(l ++ m).toArray⟩ := by
  apply ByteArray.ext
  simp [ByteArray.data_append]

theorem itoa_nn {n : Int} (h : 0 ≤ n) : itoa n = decDigits n.toNat := by unfold itoa; rw [if_neg (by omega)]
theorem itoa_ng {n : Int} (h : n < 0) : itoa n = 45 :: decDigits n.natAbs := by unfold itoa; rw [if_pos h]

theorem reftext (j : Nat) : ∀ (n : Int) (k : Nat), j ≤ 1000 → In64 n → n.natAbs < 10 ^ (j + 1) → j + 2 ≤ k → feluccaref01_Text.f k n = some ⟨(itoa n).toArray⟩ := by
  -- one digit
  have one : ∀ (m : Int) (k : Nat), 0 ≤ m → m < 10 → 1 ≤ k → feluccaref01_Text.f k m = some ⟨(itoa m).toArray⟩ := by
    intro m k h0 h1 hk
    obtain ⟨k, rfl⟩ : ∃ q, k = q + 1 := ⟨k - 1, by omega⟩
    simp only [feluccaref01_Text.f]
    rw [if_neg (by omega), Option.bind_some, if_pos h1, itoa_nn h0, dec_small (by omega), Int.tmod_eq_emod_of_nonneg h0, w64 (by omega) (by omega)]
    unfold strOfNums
    congr 4
    simp only [List.map_cons, List.map_nil]
    congr 2
    omega
  have len : ∀ (i : Nat) (m : Int), m.natAbs < 10 ^ (i + 1) → (itoa m).length ≤ i + 2 := by
    intro i m h
    by_cases h0 : m < 0
    · rw [itoa_ng h0, List.length_cons]; have := dec_len m.natAbs i h; omega
    · rw [itoa_nn (by omega)]; have := dec_len m.toNat i (by omega); omega
  induction j with
  | zero =>
    intro n k hj hn ha hk
    obtain ⟨k, rfl⟩ : ∃ q, k = q + 1 := ⟨k - 1, by omega⟩
    by_cases h0 : n < 0
    · simp only [feluccaref01_Text.f]
      have e : wrap64 (-n) = -n := w64 (by omega) (by omega)
      rw [if_pos h0, if_pos (by omega), e, one (-n) k (by omega) (by omega) (by omega), Option.bind_some, if_pos ?_, itoa_ng h0, itoa_nn (by omega), show (-n).toNat = n.natAbs by omega]
      · rw [show (⟨#[45]⟩ : ByteArray) = ⟨([45] : List UInt8).toArray⟩ from rfl, ba_append]; rfl
      · rw [ba_size]; have := len 0 (-n) (by omega); omega
    · exact one n (k + 1) (by omega) (by omega) (by omega)
  | succ j ih =>
    intro n k hj hn ha hk
    obtain ⟨k, rfl⟩ : ∃ q, k = q + 1 := ⟨k - 1, by omega⟩
    have hp : 10 ^ (j + 1 + 1) = 10 ^ (j + 1) * 10 := Nat.pow_succ ..
    by_cases h0 : n < 0
    · by_cases h1 : -10 < n
      · simp only [feluccaref01_Text.f]
        have e : wrap64 (-n) = -n := w64 (by omega) (by omega)
        rw [if_pos h0, if_pos (by omega), e, one (-n) k (by omega) (by omega) (by omega), Option.bind_some, if_pos ?_, itoa_ng h0, itoa_nn (by omega), show (-n).toNat = n.natAbs by omega]
        · rw [show (⟨#[45]⟩ : ByteArray) = ⟨([45] : List UInt8).toArray⟩ from rfl, ba_append]; rfl
        · rw [ba_size]; have := len 0 (-n) (by omega); omega
      · simp only [feluccaref01_Text.f]
        have en : n = -((n.natAbs : Nat) : Int) := by omega
        have ed : Int.tdiv n 10 = -(((n.natAbs / 10 : Nat) : Int)) := by
          rw [en, Int.neg_tdiv, Int.tdiv_eq_ediv_of_nonneg (by omega)]; omega
        have em : Int.tmod n 10 = -(((n.natAbs % 10 : Nat) : Int)) := by
          rw [en, Int.neg_tmod, Int.tmod_eq_emod_of_nonneg (by omega)]; omega
        have hd := ih (-(((n.natAbs / 10 : Nat) : Int))) k (by omega) (by omega) (by omega) (by omega)
        have hm := one (((n.natAbs % 10 : Nat) : Int)) k (by omega) (by omega) (by omega)
        rw [if_pos h0, if_neg (by omega), ed, em, w64 (by omega) (by omega), w64 (by omega) (by omega), Int.neg_neg, hd, hm]
        simp only [Option.bind_some]
        have l1 := len j (-(((n.natAbs / 10 : Nat) : Int))) (by omega)
        have l2 := len 0 (((n.natAbs % 10 : Nat) : Int)) (by omega)
        rw [if_pos (by rw [ba_size, ba_size]; omega), ba_append, itoa_ng h0, itoa_ng (by omega), itoa_nn (by omega), dec_big (u := n.natAbs) (by omega)]
        rw [show (-(((n.natAbs / 10 : Nat) : Int))).natAbs = n.natAbs / 10 by omega, show (((n.natAbs % 10 : Nat) : Int)).toNat = n.natAbs % 10 by omega, dec_small (u := n.natAbs % 10) (by omega)]
        rfl
    · by_cases h1 : n < 10
      · exact one n (k + 1) (by omega) h1 (by omega)
      · simp only [feluccaref01_Text.f]
        have hd := ih (n / 10) k (by omega) (by omega) (by omega) (by omega)
        rw [if_neg h0, Option.bind_some, if_neg h1, Int.tdiv_eq_ediv_of_nonneg (by omega), Int.tmod_eq_emod_of_nonneg (by omega), w64 (x := n / 10) (by omega) (by omega), w64 (x := 48 + n % 10) (by omega) (by omega), hd]
        simp only [Option.bind_some]
        have l1 := len j (n / 10) (by omega)
        have es : strOfNums [(48 + n % 10) % 256] = ⟨([UInt8.ofNat (48 + n.toNat % 10)] : List UInt8).toArray⟩ := by
          unfold strOfNums
          simp only [List.map_cons, List.map_nil]
          congr 4
          omega
        rw [es, if_pos (by rw [ba_size, ba_size]; simp; omega), ba_append, itoa_nn (n := n) (by omega), itoa_nn (by omega), dec_big (u := n.toNat) (by omega), show (n / 10).toNat = n.toNat / 10 by omega]

theorem reftext_some {n : Int} {k : Nat} (h : In64 n) (hk : 20 ≤ k) : feluccaref01_Text.f k n = some ⟨(itoa n).toArray⟩ :=
  reftext 18 n k (by omega) h (by omega) (by omega)

/-- The document's reading: signs, then one look at what was written. -/
def rgo (s : List UInt8) (high : Int) : List UInt8 → Int → Int × Bool
  | [], n => if high < n then (0, false) else if itoa n = s then (n, true) else (0, false)
  | c :: l, n => if (c.toNat : Int) < 48 then (0, false) else if 57 < (c.toNat : Int) then (0, false) else
      if (9223372036854775807 - ((c.toNat : Int) - 48)) / 10 < n then (0, false) else rgo s high l (n * 10 + ((c.toNat : Int) - 48))

theorem rgo_true (s : List UInt8) (high : Int) : ∀ (l : List UInt8) (n m : Int), 0 ≤ n → n ≤ 9223372036854775807 → rgo s high l n = (m, true) → 0 ≤ m ∧ m ≤ 9223372036854775807 ∧ m ≤ high ∧ itoa m = s
  | [], n, m, h0, h1, h => by
    unfold rgo at h
    split at h
    · simp at h
    · split at h
      · rename_i h2 h3
        obtain rfl : n = m := (Prod.mk.inj h).1
        exact ⟨h0, h1, by omega, h3⟩
      · simp at h
  | c :: l, n, m, h0, h1, h => by
    unfold rgo at h
    split at h
    · simp at h
    · split at h
      · simp at h
      · split at h
        · simp at h
        · exact rgo_true s high l _ m (by omega) (by omega) h
theorem rgo_false (s : List UInt8) (high : Int) : ∀ (l : List UInt8) (n m : Int), rgo s high l n = (m, false) → m = 0
  | [], n, m, h => by
    unfold rgo at h
    split at h
    · exact (Prod.mk.inj h).1.symm
    · split at h
      · simp at h
      · exact (Prod.mk.inj h).1.symm
  | c :: l, n, m, h => by
    unfold rgo at h
    split at h
    · exact (Prod.mk.inj h).1.symm
    · split at h
      · exact (Prod.mk.inj h).1.symm
      · split at h
        · exact (Prod.mk.inj h).1.symm
        · exact rgo_false s high l _ m h
theorem rgo_of_pgo (s : List UInt8) (high : Int) : ∀ (l : List UInt8) (b : Bool) (n m : Int), pgo l b n = some m → m ≤ high → itoa m = s → rgo s high l n = (m, true)
  | [], b, n, m, h, h1, h2 => by
    simp only [pgo, Option.some.injEq] at h
    subst h
    unfold rgo
    rw [if_neg (by omega), if_pos h2]
  | c :: l, b, n, m, h, h1, h2 => by
    rw [pgo_cons] at h
    cases hs : stepI c b n with
    | none => rw [hs] at h; simp at h
    | some q =>
      rw [hs] at h
      obtain ⟨a1, a2, a3, a4, rfl⟩ := stepI_some hs
      unfold rgo
      rw [if_neg (by omega), if_neg (by omega), if_neg (by omega)]
      exact rgo_of_pgo s high l false _ m h h1 h2

theorem rgo_parse (s : List UInt8) (high : Int) : rgo s high s 0 = parseI s high := by
  cases hp : parseI s high with
  | mk n b =>
    cases b with
    | true =>
      obtain ⟨h0, h1, h2, h3⟩ := parse_true hp
      have hg : pgo s true 0 = some n := by rw [← h3, itoa_nn h0]; rw [pgo_dec n.toNat (by omega)]; congr 1; omega
      exact rgo_of_pgo s high s true 0 n hg h1 h3
    | false =>
      have hn := parse_false hp
      subst hn
      cases hr : rgo s high s 0 with
      | mk m b =>
        cases b with
        | true =>
          obtain ⟨h0, h1, h2, h3⟩ := rgo_true s high s 0 m (by omega) (by omega) hr
          rw [← h3, parse_of h0 h2 h1] at hp
          simp at hp
        | false => rw [rgo_false s high s 0 m hr]

theorem bt_get (s : ByteArray) (i : Nat) (h : i < s.size) : bt s (i : Int) = ((s[i]'h).toNat : Int) := by
  have := bt_at s (i : Int) (by simpa using h)
  rw [← this]; rfl

theorem drop_at (s : ByteArray) (i : Nat) (h : i < s.size) : s.data.toList.drop i = (s[i]'h) :: s.data.toList.drop (i + 1) := by
  rw [List.drop_eq_getElem_cons (by simpa using h)]; rfl

theorem refparse (s : ByteArray) (high : Int) (hs : s.size ≤ 200) (d : Nat) : ∀ (k i : Nat) (n : Int), i + d = s.size → d + 22 ≤ k → 0 ≤ n → n ≤ 9223372036854775807 →
    feluccaref01_Parse.l0 k s high n (i : Int) = some (rgo s.data.toList high (s.data.toList.drop i) n) := by
  induction d with
  | zero =>
    intro k i n hi hk h0 h1
    obtain ⟨k, rfl⟩ : ∃ q, k = q + 1 := ⟨k - 1, by omega⟩
    simp only [feluccaref01_Parse.l0]
    rw [if_neg (by omega), List.drop_of_length_le (by simp; omega)]
    unfold rgo
    by_cases hh : high < n
    · rw [if_pos hh, if_pos hh]
    · rw [if_neg hh, if_neg hh, reftext_some ⟨by omega, h1⟩ (by omega)]
      simp only [Option.bind_some]
      rw [ba_toList, ByteArray.toList_eq]
      split <;> rfl
  | succ d ih =>
    intro k i n hi hk h0 h1
    obtain ⟨k, rfl⟩ : ∃ q, k = q + 1 := ⟨k - 1, by omega⟩
    have hlt : i < s.size := by omega
    rw [drop_at s i hlt]
    simp only [feluccaref01_Parse.l0]
    have hb : bt s (i : Int) = ((s[i]'hlt).toNat : Int) := bt_get s i hlt
    have h8 : (s[i]'hlt).toNat < 256 := (s[i]'hlt).toNat_lt
    unfold rgo
    rw [if_pos (by omega), if_pos (by omega), hb, w64 (x := (((s[i]'hlt).toNat : Int))) (by omega) (by omega), w64 (x := (((s[i]'hlt).toNat : Int)) - 48) (by omega) (by omega)]
    by_cases c1 : ((s[i]'hlt).toNat : Int) < 48
    · rw [if_pos (by omega), if_pos c1]
    · rw [if_neg (by omega), if_neg c1]
      by_cases c2 : 57 < ((s[i]'hlt).toNat : Int)
      · rw [if_pos (by omega), if_pos c2]
      · rw [if_neg (by omega), if_neg c2, w64 (x := 9223372036854775807 - (((s[i]'hlt).toNat : Int) - 48)) (by omega) (by omega), Int.tdiv_eq_ediv_of_nonneg (by omega),
          w64 (x := (9223372036854775807 - (((s[i]'hlt).toNat : Int) - 48)) / 10) (by omega) (by omega)]
        by_cases c3 : (9223372036854775807 - (((s[i]'hlt).toNat : Int) - 48)) / 10 < n
        · rw [if_pos (by omega), if_pos c3]
        · rw [if_neg (by omega), if_neg c3, w64 (x := 10 * n) (by omega) (by omega), w64 (x := 10 * n + _) (by omega) (by omega), w64 (x := (i : Int) + 1) (by omega) (by omega),
            show 10 * n + (((s[i]'hlt).toNat : Int) - 48) = n * 10 + (((s[i]'hlt).toNat : Int) - 48) by omega]
          exact ih k (i + 1) _ (by omega) (by omega) (by omega) (by omega)

theorem refparse_some (s : ByteArray) (high : Int) (hs : s.size ≤ 200) {k : Nat} (hk : 222 ≤ k) : feluccaref01_Parse.f k s high = some (parseI s.data.toList high) := by
  unfold feluccaref01_Parse.f
  have := refparse s high hs s.size k 0 0 (by omega) (by omega) (by omega) (by omega)
  rw [List.drop_zero, rgo_parse] at this
  exact this

theorem numparse_some (s : ByteArray) (high : Int) (hs : s.size ≤ 9223372036854775807) : num_Parse.f s high = some (parseI s.data.toList high) := by unfold num_Parse.f; rw [if_pos hs]

theorem NumTells (a b c : Int) (s : ByteArray) (ha : In64 a) : feluccalaw01_NumTells.f 300 a b c s = some true := by
  unfold feluccalaw01_NumTells.f
  rw [small_true]
  simp only [Option.bind_some]
  by_cases hs : (s.size : Int) > 200
  · rw [if_pos hs]
  · rw [if_neg hs, numparse_some s a (by omega), refparse_some s a (by omega) (by omega), text_some ha, reftext_some ha (by omega)]
    have hc : ∃ r, num_Ceil.f a b = some r ∧ feluccaref01_Ceil.f 300 a b = some r := by
      by_cases h : a < 0 ∨ b < 1
      · exact ⟨_, ceil_none h, refceil_none 299 h⟩
      · exact ⟨_, ceil_some (by omega) ha.2 (by omega), refceil_some 299 (by omega) ha.2 (by omega)⟩
    obtain ⟨r, e1, e2⟩ := hc
    have hi : ∃ q, num_In.f a b c = some q ∧ feluccaref01_In.f a b c = some q := by
      unfold num_In.f feluccaref01_In.f
      by_cases h : b ≤ a
      · exact ⟨_, if_pos h, if_pos (by omega)⟩
      · exact ⟨_, if_neg h, if_neg (by omega)⟩
    obtain ⟨q, e3, e4⟩ := hi
    have hk : ∃ q, num_Clamp.f a b c = some q ∧ feluccaref01_Clamp.f a b c = some q := by
      unfold num_Clamp.f feluccaref01_Clamp.f
      by_cases h : a < b
      · exact ⟨_, if_pos h, if_pos h⟩
      · by_cases h2 : a > c
        · exact ⟨_, by rw [if_neg h, if_pos h2], by rw [if_neg h, if_pos h2]⟩
        · exact ⟨_, by rw [if_neg h, if_neg h2], by rw [if_neg h, if_neg h2]⟩
    obtain ⟨z, e5, e6⟩ := hk
    rw [e1, e2, e3, e4, e5, e6]
    simp

theorem parse_text {n high : Int} (hn : In64 n) : parseI (itoa n) high = if 0 ≤ n ∧ n ≤ high then (n, true) else (0, false) := by
  by_cases h : 0 ≤ n ∧ n ≤ high
  · rw [if_pos h, parse_of h.1 h.2 hn.2]
  · rw [if_neg h]
    exact parse_no fun m h0 h1 h2 e => h (by rw [itoa_inj e] at h0 h1; exact ⟨h0, h1⟩)

theorem text_len {n : Int} (h : In64 n) : 1 ≤ (itoa n).length ∧ (itoa n).length ≤ 20 := by
  by_cases h0 : n < 0
  · rw [itoa_ng h0, List.length_cons]; have := dec_len n.natAbs 18 (by omega); omega
  · rw [itoa_nn (by omega)]
    have := dec_len n.toNat 18 (by omega)
    have h1 : (decDigits n.toNat).length ≠ 0 := fun e => dec_ne n.toNat (List.length_eq_zero_iff.1 e)
    omega

theorem NumBack (n : Int) (s : ByteArray) (high : Int) (hn : In64 n) : feluccalaw01_NumBack.f 1 n s high = some true := by
  unfold feluccalaw01_NumBack.f
  rw [small_true]
  simp only [Option.bind_some]
  by_cases hs : (s.size : Int) > 200
  · rw [if_pos hs]
  · have hl := text_len hn
    rw [if_neg hs, text_some hn]
    simp only [Option.bind_some]
    rw [numparse_some _ high (by rw [ba_size]; omega), ba_data, parse_text hn]
    simp only [Option.bind_some]
    have last : feluccalaw01_NumBack.j0 1 s high true false = some true := by
      simp only [feluccalaw01_NumBack.j0]
      rw [if_neg (by simp), numparse_some s high (by omega)]
      simp only [Option.bind_some, if_true]
      cases hp : parseI s.data.toList high with
      | mk m b =>
        cases b with
        | true =>
          obtain ⟨h0, h1, h2, h3⟩ := parse_true hp
          simp only [if_true]
          rw [text_some ⟨by omega, h2⟩]
          simp only [Option.bind_some]
          rw [ba_toList, h3, ByteArray.toList_eq, if_pos rfl, if_pos (by omega), decide_eq_true h1]
        | false => simp [parse_false hp]
    by_cases h : 0 ≤ n ∧ n ≤ high
    · rw [if_pos h, if_pos h.1]; simp [h.2, last]
    · rw [if_neg h]
      by_cases h0 : n ≥ 0
      · rw [if_pos h0]
        have : ¬ n ≤ high := fun e => h ⟨h0, e⟩
        simp [this, last]
      · rw [if_neg h0]; simp [last]

theorem NumCeils (a b : Int) (ha : In64 a) : feluccalaw01_NumCeils.f 1 a b = some true := by
  unfold feluccalaw01_NumCeils.f
  rw [small_true]
  simp only [Option.bind_some]
  by_cases h : a < 0 ∨ b < 1
  · rw [ceil_none h]
    simp only [Option.bind_some]
    by_cases h0 : a < 0
    · rw [if_pos h0]; simp [feluccalaw01_NumCeils.j0]
    · rw [if_neg h0]
      have : b < 1 := by omega
      simp [feluccalaw01_NumCeils.j0, this]
  · have h0 : 0 ≤ a := by omega
    have h1 : 1 ≤ b := by omega
    obtain ⟨f1, f2, f3, f4, _⟩ := cl_facts h0 h1
    rw [ceil_some h0 ha.2 h1]
    simp only [Option.bind_some]
    rw [if_neg (by omega)]
    simp only [feluccalaw01_NumCeils.j0]
    rw [if_neg (by simp; omega), if_neg (by omega), Int.tdiv_eq_ediv_of_nonneg h0, Int.tmod_eq_emod_of_nonneg h0, w64 (x := a / b) (by omega) (by omega)]
    unfold cl at f3 f4 ⊢
    by_cases h2 : a % b = 0
    · rw [if_pos h2, if_pos h2]; simp
    · rw [if_neg h2] at f3 f4; rw [if_neg h2, if_neg h2, w64 (by omega) (by omega)]; simp

theorem NumClamps (n low high : Int) : feluccalaw01_NumClamps.f n low high = some true := by
  unfold feluccalaw01_NumClamps.f
  rw [small_true]
  simp only [Option.bind_some]
  by_cases h : low > high
  · rw [if_pos h]
    unfold num_In.f
    by_cases h1 : low ≤ n
    · rw [if_pos trivial, if_pos h1]; simp; omega
    · rw [if_pos trivial, if_neg h1]; simp
  · rw [if_neg h]
    by_cases h1 : n < low
    · have e1 : num_Clamp.f n low high = some low := by unfold num_Clamp.f; rw [if_pos h1]
      have e2 : num_In.f low low high = some true := by unfold num_In.f; rw [if_pos (by omega)]; simp; omega
      have e3 : num_In.f n low high = some false := by unfold num_In.f; rw [if_neg (by omega)]
      have e4 : num_Clamp.f low low high = some low := by unfold num_Clamp.f; rw [if_neg (by omega), if_neg (by omega)]
      rw [e1]; simp only [Option.bind_some, if_true]; rw [e2, e3, e4]
      have : ¬ low = n := by omega
      have h5 : ¬ low ≤ n := by omega
      have h6 : n ≤ high := by omega
      simp [this, h5, h6]
    · by_cases h2 : n > high
      · have e1 : num_Clamp.f n low high = some high := by unfold num_Clamp.f; rw [if_neg h1, if_pos h2]
        have e2 : num_In.f high low high = some true := by unfold num_In.f; rw [if_pos (by omega)]; simp
        have e3 : num_In.f n low high = some false := by unfold num_In.f; rw [if_pos (by omega)]; simp; omega
        have e4 : num_Clamp.f high low high = some high := by unfold num_Clamp.f; rw [if_neg (by omega), if_neg (by omega)]
        rw [e1]; simp only [Option.bind_some, if_true]; rw [e2, e3, e4]
        have : ¬ high = n := by omega
        have h5 : low ≤ n := by omega
        have h6 : ¬ n ≤ high := by omega
        simp [this, h5, h6]
      · have e1 : num_Clamp.f n low high = some n := by unfold num_Clamp.f; rw [if_neg h1, if_neg h2]
        have e3 : num_In.f n low high = some true := by unfold num_In.f; rw [if_pos (by omega)]; simp; omega
        rw [e1]; simp only [Option.bind_some, if_true]; rw [e3, e1]
        have h5 : low ≤ n := by omega
        have h6 : n ≤ high := by omega
        simp [h5, h6]

theorem NumOrder (a b c d : Int) (ha : In64 a) (hb : In64 b) : feluccalaw01_NumOrder.f 1 a b c d = some true := by
  unfold feluccalaw01_NumOrder.f
  rw [small_true]
  simp only [Option.bind_some]
  have no : feluccalaw01_NumOrder.j0 1 a b c d true true = some true := by simp [feluccalaw01_NumOrder.j0]
  by_cases h1 : a < 0
  · rw [if_pos h1, no]
  · rw [if_neg h1]
    by_cases h2 : b < a
    · rw [if_pos h2, no]
    · rw [if_neg h2]
      by_cases h3 : c < 1
      · rw [if_pos h3, no]
      · rw [if_neg h3]
        by_cases h4 : d < c
        · rw [decide_eq_true h4, no]
        · rw [decide_eq_false h4]
          simp only [feluccalaw01_NumOrder.j0]
          obtain ⟨_, _, p3, p4, p5⟩ := cl_facts (a := a) (b := c) (by omega) (by omega)
          obtain ⟨_, _, q3, q4, q5⟩ := cl_facts (a := b) (b := c) (by omega) (by omega)
          obtain ⟨_, _, r3, r4, r5⟩ := cl_facts (a := a) (b := d) (by omega) (by omega)
          have x1 : cl a c ≤ cl b c := (p5 _).2 (by have := (q5 (cl b c)).1 (Int.le_refl _); omega)
          have x2 : cl a d ≤ cl a c := (r5 _).2 (by
            have := (p5 (cl a c)).1 (Int.le_refl _)
            have hm := Int.mul_le_mul_of_nonneg_left (show c ≤ d by omega) p3
            omega)
          have x3 : cl a c = 0 → a = 0 := fun e => by have := (p5 0).1 (by omega); omega
          rw [if_neg (by simp), ceil_some (by omega) ha.2 (by omega), ceil_some (by omega) hb.2 (by omega), ceil_some (by omega) ha.2 (by omega)]
          simp only [Option.bind_some, if_true]
          rw [if_pos x1, if_pos x2]
          by_cases h5 : a = 0
          · have : cl a c = 0 := by omega
            simp [h5] at this ⊢
            simp [this]
          · have : ¬ cl a c = 0 := fun e => h5 (x3 e)
            rw [beq_eq_false_iff_ne.2 h5, beq_eq_false_iff_ne.2 this]; rfl

theorem parse_never {l : List UInt8} {high : Int} (h : ∀ n : Int, 0 ≤ n → itoa n ≠ l) : (parseI l high).2 = false := by
  rw [parse_no fun n h0 _ _ => h n h0]

theorem NumTexts (a b : Int) (ha : In64 a) (hb : In64 b) : feluccalaw01_NumTexts.f a b = some true := by
  have la := text_len ha
  have p1 : (parseI (48 :: itoa a) 9223372036854775807).2 = false := parse_never fun n h0 e => by
    rw [itoa_nn h0] at e
    by_cases hz : n = 0
    · subst hz
      rw [show (0 : Int).toNat = 0 from rfl, dec_small (by omega)] at e
      have := congrArg List.length e
      simp only [List.length_cons, List.length_nil] at this
      omega
    · exact dec_head (u := n.toNat) (by omega) 48 (itoa a) e rfl
  have p2 : (parseI (43 :: itoa a) 9223372036854775807).2 = false := parse_never fun n h0 e => by
    rw [itoa_nn h0] at e
    have := (dec_digit n.toNat 43 (by rw [e]; exact List.mem_cons_self)).1
    exact absurd this (by decide)
  have p3 : (parseI (itoa a ++ [120]) 9223372036854775807).2 = false := parse_never fun n h0 e => by
    rw [itoa_nn h0] at e
    have := (dec_digit n.toNat 120 (by rw [e]; simp)).2
    exact absurd this (by decide)
  unfold feluccalaw01_NumTexts.f
  rw [small_true, text_some ha, text_some hb]
  simp only [Option.bind_some]
  rw [if_pos (by rw [ba_size]; omega), show (⟨#[48]⟩ : ByteArray) = ⟨([48] : List UInt8).toArray⟩ from rfl, show (⟨#[43]⟩ : ByteArray) = ⟨([43] : List UInt8).toArray⟩ from rfl, show (⟨#[120]⟩ : ByteArray) = ⟨([120] : List UInt8).toArray⟩ from rfl, ba_append, ba_append, ba_append,
    numparse_some _ _ (by rw [ba_size]; simp; omega), numparse_some _ _ (by rw [ba_size]; simp; omega), numparse_some _ _ (by rw [ba_size]; simp; omega), ba_data, ba_data, ba_data]
  simp only [Option.bind_some, if_true]
  rw [if_pos (by rw [ba_size]; omega)]
  have e : ((⟨(itoa a).toArray⟩ : ByteArray).toList == (⟨(itoa b).toArray⟩ : ByteArray).toList) = (a == b) := by
    rw [ba_toList, ba_toList]
    by_cases h : a = b
    · rw [h, beq_self_eq_true, beq_self_eq_true]
    · rw [beq_eq_false_iff_ne.2 h, beq_eq_false_iff_ne.2 (fun e => h (itoa_inj e))]
  rw [e]
  have p1' : (parseI ([48] ++ itoa a) 9223372036854775807).2 = false := p1
  have p2' : (parseI ([43] ++ itoa a) 9223372036854775807).2 = false := p2
  simp only [p1', p2', p3, ba_size]
  have l1 : ((itoa a).length : Int) ≥ 1 := by omega
  have l2 : ((itoa a).length : Int) ≤ 20 := by omega
  simp [l1, l2]
end Go.Proofs.YtndijkndllpkgaaDoor.PureNum
