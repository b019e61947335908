/- Layer 4 over numbers and lists (printed by gen_puredir.py). -/
import Derived.Test.YtndijkndllpkgaaDoorNumF
import Derived.Test.YtndijkndllpkgaaDoorWalkAC
namespace Go.Proofs.YtndijkndllpkgaaDoor.PureDir
open Go.RowKit Go.Lib Go.Proofs.YtndijkndllpkgaaDoorW.PrintWords Go.Proofs.YtndijkndllpkgaaDoorW.PrintLast Go.Proofs.YtndijkndllpkgaaDoorW.PrintMore Go.Proofs.YtndijkndllpkgaaDoor.Pr Go.Proofs.YtndijkndllpkgaaDoor.Dig Go.Proofs.YtndijkndllpkgaaDoor.NumF Go.Proofs.YtndijkndllpkgaaDoor.Frm Go.Proofs.YtndijkndllpkgaaDoor.X
set_option linter.unusedVariables false
set_option linter.unusedSimpArgs false
def cOk (i f t s e r : Int) : Bool := decide ((1 ≤ f ∧ f ≤ 255) ∧ (1 ≤ t ∧ t ≤ 255) ∧ f ≠ t ∧ 0 ≤ s ∧ s < e ∧ e ≤ 2147483647 ∧ 1 ≤ i ∧ i ≤ 1048576 ∧ 1 ≤ r ∧ r ≤ 2147483647)
def rOk (f t s e y : Int) : Bool := decide ((1 ≤ f ∧ f ≤ 255) ∧ (1 ≤ t ∧ t ≤ 255) ∧ f ≠ t ∧ 0 ≤ s ∧ s < e ∧ e ≤ 2147483647 ∧ 0 ≤ y ∧ y ≤ 2147483647)
theorem bif_and (a b : Bool) : (bif a then some b else some false) = some (a && b) := by cases a <;> rfl
theorem bif_same {α : Type} (a : Bool) (z : α) : (bif a then z else z) = z := by cases a <;> rfl
theorem in_f (n l h : Int) : num_In.f n l h = some (decide (l ≤ n ∧ n ≤ h)) := by
  unfold num_In.f
  by_cases h1 : l ≤ n <;> by_cases h2 : n ≤ h <;> simp [h1, h2]
theorem contact_f {i f t s e r : Int} (he : In64 e) : check_Contact.f i f t s e r = some (cOk i f t s e r) := by
  unfold check_Contact.f check_way.f check_Node.f check_span.f
  simp only [in_f, Option.bind_some, bif_and]
  congr 1
  rw [Bool.eq_iff_iff]
  simp only [Bool.and_eq_true, decide_eq_true_eq, Bool.not_eq_true', decide_eq_false_iff_not, cOk]
  unfold wrap64
  omega
theorem range_f {f t s e y : Int} (he : In64 e) : check_Range.f f t s e y = some (rOk f t s e y) := by
  unfold check_Range.f check_way.f check_Node.f check_span.f
  simp only [in_f, Option.bind_some, bif_and]
  congr 1
  rw [Bool.eq_iff_iff]
  simp only [Bool.and_eq_true, decide_eq_true_eq, Bool.not_eq_true', decide_eq_false_iff_not, rOk]
  unfold wrap64
  omega
def zR (p u v x y : Int) : Bool := decide (p = 0 ∧ u = 0 ∧ v = 0 ∧ x = 0 ∧ y = 0)
def zC (i f t s e r : Int) : Bool := decide (i = 0 ∧ f = 0 ∧ t = 0 ∧ s = 0 ∧ e = 0 ∧ r = 0)
def rightB (o q i f t s e r p u v x y : Int) : Bool :=
  if q = 1 then (zR p u v x y && (if o = 1 then cOk i f t s e r else if o = 2 then (decide (f = 0 ∧ t = 0 ∧ s = 0 ∧ e = 0 ∧ r = 0) && cOk i 1 2 0 1 1) else if o = 3 then (decide (f = 0 ∧ t = 0 ∧ s = 0 ∧ e = 0) && cOk i 1 2 0 1 r) else false))
  else if q = 2 then (zC i f t s e r && (if o = 1 then rOk p u v x y else if o = 2 then (decide (x = 0 ∧ y = 0) && rOk p u v 2147483647 0) else if o = 3 then (decide (x = 0) && rOk p u v 2147483647 y) else false))
  else false
theorem one64 : In64 1 := by constructor <;> decide
theorem max64 : In64 2147483647 := by constructor <;> decide
theorem ite_some {c : Prop} [Decidable c] (b : Bool) : (if c then some b else some false) = some (decide c && b) := by by_cases h : c <;> simp [h]
theorem right_f {o q i f t s e r p u v x y : Int} (he : In64 e) (hx : In64 x) : direct_Right.f o q i f t s e r p u v x y = some (rightB o q i f t s e r p u v x y) := by
  unfold direct_Right.f
  by_cases hp : (o, q) ∈ pairs
  · rw [if_pos hp]
    simp only [pairs, List.mem_cons, List.not_mem_nil, or_false, Prod.mk.injEq] at hp
    rcases hp with ⟨rfl, rfl⟩ | ⟨rfl, rfl⟩ | ⟨rfl, rfl⟩ | ⟨rfl, rfl⟩ | ⟨rfl, rfl⟩ | ⟨rfl, rfl⟩
    · rw [show direct_may.f 1 1 i f t s e r p u v x y = some (cOk i f t s e r) from by unfold direct_may.f; simp; exact contact_f he, ite_some]
      congr 1
      rw [Bool.eq_iff_iff]
      simp [offs, copyO, rightB, zR, @eq_comm Int 0]
    · rw [show direct_may.f 2 1 i f t s e r p u v x y = some (cOk i 1 2 0 1 (max r 1)) from by unfold direct_may.f; simp; exact contact_f one64, ite_some]
      congr 1
      rw [Bool.eq_iff_iff]
      simp [offs, copyO, rightB, zR]
      constructor
      · rintro ⟨⟨rfl, rfl, rfl, rfl, rfl, rfl, rfl, rfl, rfl, rfl⟩, h2⟩; exact ⟨⟨rfl, rfl, rfl, rfl, rfl⟩, ⟨rfl, rfl, rfl, rfl, rfl⟩, h2⟩
      · rintro ⟨⟨rfl, rfl, rfl, rfl, rfl⟩, ⟨rfl, rfl, rfl, rfl, rfl⟩, h2⟩; exact ⟨⟨rfl, rfl, rfl, rfl, rfl, rfl, rfl, rfl, rfl, rfl⟩, h2⟩
    · rw [show direct_may.f 3 1 i f t s e r p u v x y = some (cOk i 1 2 0 1 r) from by unfold direct_may.f; simp; exact contact_f one64, ite_some]
      congr 1
      rw [Bool.eq_iff_iff]
      simp [offs, copyO, rightB, zR]
      constructor
      · rintro ⟨⟨rfl, rfl, rfl, rfl, rfl, rfl, rfl, rfl, rfl⟩, h2⟩; simpa using h2
      · rintro ⟨⟨rfl, rfl, rfl, rfl, rfl⟩, ⟨rfl, rfl, rfl, rfl⟩, h2⟩; simpa using h2
    · rw [show direct_may.f 1 2 i f t s e r p u v x y = some (rOk p u v x y) from by unfold direct_may.f; simp; exact range_f hx, ite_some]
      congr 1
      rw [Bool.eq_iff_iff]
      simp [offs, copyO, rightB, zC, @eq_comm Int 0]
    · rw [show direct_may.f 2 2 i f t s e r p u v x y = some (rOk p u v 2147483647 y) from by unfold direct_may.f; simp; exact range_f max64, ite_some]
      congr 1
      rw [Bool.eq_iff_iff]
      simp [offs, copyO, rightB, zC]
      constructor
      · rintro ⟨⟨rfl, rfl, rfl, rfl, rfl, rfl, rfl, rfl⟩, h2⟩; simpa using h2
      · rintro ⟨⟨rfl, rfl, rfl, rfl, rfl, rfl⟩, ⟨rfl, rfl⟩, h2⟩; simpa using h2
    · rw [show direct_may.f 3 2 i f t s e r p u v x y = some (rOk p u v 2147483647 y) from by unfold direct_may.f; simp; exact range_f max64, ite_some]
      congr 1
      rw [Bool.eq_iff_iff]
      simp [offs, copyO, rightB, zC]
      constructor
      · rintro ⟨⟨rfl, rfl, rfl, rfl, rfl, rfl, rfl⟩, h2⟩; simpa using h2
      · rintro ⟨⟨rfl, rfl, rfl, rfl, rfl, rfl⟩, rfl, h2⟩; simpa using h2
  · rw [if_neg hp]
    simp only [pairs, List.mem_cons, List.not_mem_nil, or_false, Prod.mk.injEq, not_or, not_and] at hp
    congr 1
    unfold rightB
    by_cases q1 : q = 1
    · have h1 : o ≠ 1 := fun h => hp.1 h q1
      have h2 : o ≠ 2 := fun h => hp.2.1 h q1
      have h3 : o ≠ 3 := fun h => hp.2.2.1 h q1
      simp [q1, h1, h2, h3]
    · by_cases q2 : q = 2
      · have h1 : o ≠ 1 := fun h => hp.2.2.2.1 h q2
        have h2 : o ≠ 2 := fun h => hp.2.2.2.2.1 h q2
        have h3 : o ≠ 3 := fun h => hp.2.2.2.2.2 h q2
        simp [q2, h1, h2, h3]
      · simp [q1, q2]
def tB (n : Int) : ByteArray := ⟨(itoa n).toArray⟩
theorem tB_data (n : Int) : (tB n).data.toList = itoa n := by simp [tB]
abbrev D64 (l : List Int) : Prop := ∀ z ∈ l, In64 z
theorem d64_get {l : List Int} (h : D64 l) (c : Nat) : In64 (l.getD c 0) := by
  rw [List.getD_eq_getElem?_getD]
  cases hc : l[c]? with
  | none => constructor <;> decide
  | some z => exact h z (List.mem_of_getElem? hc)
def wordsB (o q i f t s e r p u v x y : Int) : List ByteArray := opS o :: kdS q :: (offs o q).map fun c => tB ([o, q, i, f, t, s, e, r, p, u, v, x, y].getD c 0)
theorem drop_cons {α : Type} {l r : List α} {c : α} {j : Nat} (h : l.drop j = c :: r) : j < l.length ∧ l[j]? = some c ∧ l.drop (j + 1) = r := by
  have h1 : j < l.length := by
    rcases Nat.lt_or_ge j l.length with h1 | h1
    · exact h1
    · rw [List.drop_eq_nil_of_le h1] at h; cases h
  have h2 := List.drop_eq_getElem_cons h1
  rw [h] at h2
  injection h2 with h3 h4
  exact ⟨h1, by rw [List.getElem?_eq_getElem h1, h3], h4.symm⟩
theorem getD_of {α : Type} {l : List α} {c z : α} {j : Nat} (h : l[j]? = some c) : l.getD ((j : Int)).toNat z = c := by
  rw [Int.toNat_natCast, List.getD_eq_getElem?_getD, h]; rfl
theorem words_loop {o q i f t s e r p u v x y : Int} (H : D64 [o, q, i, f, t, s, e, r, p, u, v, x, y]) : ∀ (rem : List Nat) (j : Nat) (acc : List ByteArray) (k : Nat), (offs o q).drop j = rem → j ≤ (offs o q).length → rem.length < k → acc.length + rem.length < 8000 →
    direct_Words.l0 k o q i f t s e r p u v x y acc (j : Int) = some (acc ++ rem.map (fun c => tB ([o, q, i, f, t, s, e, r, p, u, v, x, y].getD c 0)), true)
  | [], j, acc, k, hd, hj, hk, ha => by
    obtain ⟨k, rfl⟩ : ∃ m, k = m + 1 := ⟨k - 1, by simp at hk; omega⟩
    have hl : (offs o q).length ≤ j := by have := congrArg List.length hd; simp at this; omega
    rw [direct_Words.l0, decide_eq_false (by omega)]
    simp
  | c :: r, j, acc, k, hd, hj, hk, ha => by
    obtain ⟨k, rfl⟩ : ∃ m, k = m + 1 := ⟨k - 1, by simp at hk; omega⟩
    obtain ⟨h1, h2, h3⟩ := drop_cons hd
    have h6 := offs_le o q
    rw [direct_Words.l0, decide_eq_true (by omega : (j : Int) < ((offs o q).length : Int)), decide_eq_true (by omega : (0 : Int) ≤ (j : Int)), getD_of h2, text_some (d64_get H c)]
    simp only [List.length_cons] at hk ha
    simp only [cond_true, Option.bind_some]
    rw [decide_eq_true (by omega), cond_true, w64 (by omega) (by omega), show (j : Int) + 1 = ((j + 1 : Nat) : Int) by omega, words_loop H r (j + 1) _ k h3 h1 (by omega) (by simp; omega)]
    simp [tB]
theorem right_pairs' {o q i f t s e r p u v x y : Int} (h : rightB o q i f t s e r p u v x y = true) : (o, q) ∈ pairs := by
  unfold rightB at h
  simp only [pairs, List.mem_cons, List.not_mem_nil, or_false, Prod.mk.injEq]
  by_cases q1 : q = 1
  · by_cases o1 : o = 1
    · omega
    · by_cases o2 : o = 2
      · omega
      · by_cases o3 : o = 3
        · omega
        · simp [q1, o1, o2, o3] at h
  · by_cases q2 : q = 2
    · by_cases o1 : o = 1
      · omega
      · by_cases o2 : o = 2
        · omega
        · by_cases o3 : o = 3
          · omega
          · simp [q2, o1, o2, o3] at h
    · simp [q1, q2] at h
theorem words_f {o q i f t s e r p u v x y : Int} (H : D64 [o, q, i, f, t, s, e, r, p, u, v, x, y]) {k : Nat} (hk : 8 ≤ k) : direct_Words.f k o q i f t s e r p u v x y = some (if rightB o q i f t s e r p u v x y = true then (wordsB o q i f t s e r p u v x y, true) else ([], false)) := by
  unfold direct_Words.f
  rw [right_f (H e (by simp)) (H x (by simp)), Option.bind_some]
  cases hr : rightB o q i f t s e r p u v x y with
  | false => simp
  | true =>
    have hp : (o, q) ∈ pairs := right_pairs' hr
    have h6 := offs_le o q
    simp only [Bool.not_true, cond_false, decide_eq_true hp, cond_true]
    rw [show (0 : Int) = ((0 : Nat) : Int) from rfl, words_loop H (offs o q) 0 _ k rfl (by omega) (by omega) (by simp; omega)]
    simp [wordsB]

abbrev T14 := Int × Int × Int × Int × Int × Int × Int × Int × Int × Int × Int × Int × Int × Int
def e1 : T14 := (0, 0, 0, 0, 0, 0, 0, 0, 0, 0, 0, 0, 0, 1)
def e2 : T14 := (0, 0, 0, 0, 0, 0, 0, 0, 0, 0, 0, 0, 0, 2)
def pn : List ByteArray → Option (List Int)
  | [] => some []
  | s :: r => match parseI s.data.toList 2147483647 with
    | (n, true) => (pn r).map (n :: ·)
    | (_, false) => none
def place : List Nat → List Int → List Int → List Int
  | c :: cs, n :: ns, xs => place cs ns (xs.set c n)
  | _, _, xs => xs
def out (xs : List Int) : T14 := if rightB (xs.getD 0 0) (xs.getD 1 0) (xs.getD 2 0) (xs.getD 3 0) (xs.getD 4 0) (xs.getD 5 0) (xs.getD 6 0) (xs.getD 7 0) (xs.getD 8 0) (xs.getD 9 0) (xs.getD 10 0) (xs.getD 11 0) (xs.getD 12 0) = true then (xs.getD 0 0, xs.getD 1 0, xs.getD 2 0, xs.getD 3 0, xs.getD 4 0, xs.getD 5 0, xs.getD 6 0, xs.getD 7 0, xs.getD 8 0, xs.getD 9 0, xs.getD 10 0, xs.getD 11 0, xs.getD 12 0, 0) else e1
def parseB (l : List ByteArray) : T14 := match findP l with
  | none => e2
  | some (o, q) => if l.length = 2 + (offs o q).length then (match pn (l.drop 2) with | none => e2 | some ns => out (place (offs o q) ns [o, q, 0, 0, 0, 0, 0, 0, 0, 0, 0, 0, 0])) else e2
theorem getset {xs : List Int} {c : Nat} {n : Int} (hc : c < xs.length) (i : Nat) : (xs.set c n).getD i 0 = bif Nat.beq c i then n else xs.getD i 0 := by
  rw [List.getD_eq_getElem?_getD, List.getD_eq_getElem?_getD, List.getElem?_set]
  cases hb : Nat.beq c i with
  | true =>
    have : c = i := Nat.eq_of_beq_eq_true hb
    subst this
    simp [hc]
  | false =>
    have : c ≠ i := Nat.ne_of_beq_eq_false hb
    simp [this]
theorem d64_set {xs : List Int} (h : D64 xs) {n : Int} (hn : In64 n) (c : Nat) : D64 (xs.set c n) := fun z hz => by
  rcases List.mem_or_eq_of_mem_set hz with h1 | rfl
  · exact h z h1
  · exact hn
theorem parse_loop {l : List ByteArray} {o q : Int} (hs : ∀ a ∈ l, a.size ≤ 9223372036854775807) (hlen : l.length = 2 + (offs o q).length) : ∀ (rem : List Nat) (j : Nat) (xs : List Int) (k : Nat), (offs o q).drop j = rem → j ≤ (offs o q).length → rem.length < k → xs.length = 13 → D64 xs →
    direct_Parse.l0 k l o q (j : Int) (xs.getD 0 0) (xs.getD 1 0) (xs.getD 2 0) (xs.getD 3 0) (xs.getD 4 0) (xs.getD 5 0) (xs.getD 6 0) (xs.getD 7 0) (xs.getD 8 0) (xs.getD 9 0) (xs.getD 10 0) (xs.getD 11 0) (xs.getD 12 0) = some (match pn (l.drop (2 + j)) with | none => e2 | some ns => out (place rem ns xs))
  | [], j, xs, k, hd, hj, hk, hx, H => by
    obtain ⟨k, rfl⟩ : ∃ m, k = m + 1 := ⟨k - 1, by simp at hk; omega⟩
    have hl : (offs o q).length ≤ j := by have := congrArg List.length hd; simp at this; omega
    rw [direct_Parse.l0, decide_eq_false (by omega), cond_false, right_f (d64_get H 6) (d64_get H 11), Option.bind_some, List.drop_eq_nil_of_le (by omega)]
    have hpl : place [] [] xs = xs := rfl
    simp only [pn, hpl, out]
    by_cases hb : rightB (xs.getD 0 0) (xs.getD 1 0) (xs.getD 2 0) (xs.getD 3 0) (xs.getD 4 0) (xs.getD 5 0) (xs.getD 6 0) (xs.getD 7 0) (xs.getD 8 0) (xs.getD 9 0) (xs.getD 10 0) (xs.getD 11 0) (xs.getD 12 0) = true
    · rw [if_pos hb, hb]; rfl
    · rw [if_neg hb, (Bool.not_eq_true _).mp hb]; rfl
  | c :: r, j, xs, k, hd, hj, hk, hx, H => by
    obtain ⟨k, rfl⟩ : ∃ m, k = m + 1 := ⟨k - 1, by simp at hk; omega⟩
    obtain ⟨h1, h2, h3⟩ := drop_cons hd
    have h6 := offs_le o q
    have hc : c < 13 := offs_lt o q c (List.mem_of_getElem? h2)
    simp only [List.length_cons] at hk
    have hjl : 2 + j < l.length := by omega
    have hw : l[2 + j]? = some l[2 + j] := List.getElem?_eq_getElem hjl
    rw [List.drop_eq_getElem_cons hjl, direct_Parse.l0, decide_eq_true (by omega : (j : Int) < ((offs o q).length : Int)), decide_eq_true (by omega : (0 : Int) ≤ (j : Int)), w64 (by omega) (by omega), decide_eq_true (by omega : (0 : Int) ≤ 2 + (j : Int)), decide_eq_true (by omega : 2 + (j : Int) < (l.length : Int)),
      show 2 + (j : Int) = ((2 + j : Nat) : Int) by omega, getD_of hw, numparse_some _ _ (hs _ (List.getElem_mem hjl)), getD_of h2]
    simp only [cond_true, Option.bind_some, pn]
    cases hp : parseI l[2 + j].data.toList 2147483647 with
    | mk n b =>
      cases b with
      | false => simp [e2]
      | true =>
        obtain ⟨g1, g2, g3, _⟩ := parse_true hp
        simp only [Bool.not_true, cond_false]
        simp only [← getset (xs := xs) (c := c) (n := n) (by omega)]
        rw [w64 (by omega) (by omega), show (j : Int) + 1 = ((j + 1 : Nat) : Int) by omega, parse_loop hs hlen r (j + 1) (xs.set c n) k h3 h1 (by omega) (by simp [hx]) (d64_set H ⟨by omega, by omega⟩ c), show 2 + (j + 1) = 2 + j + 1 by omega]
        cases pn (l.drop (2 + j + 1)) with
        | none => simp
        | some ns => simp [place]
theorem findP_pair {l : List ByteArray} {p : Int × Int} (h : findP l = some p) : p ∈ pairs ∧ findT l p.1 p.2 := by
  unfold findP at h
  exact ⟨List.mem_of_find?_eq_some h, by simpa using List.find?_some h⟩
theorem parse_of_find {l : List ByteArray} {k : Nat} {y1 y2 y3 y4 y5 y6 y7 y8 y9 y10 y11 y12 y13 : Int} {b : Bool} (h : direct_find.f l = some (y1, y2, y3, y4, y5, y6, y7, y8, y9, y10, y11, y12, y13, b)) : direct_Parse.f k l = bif !b then some (0, 0, 0, 0, 0, 0, 0, 0, 0, 0, 0, 0, 0, 2) else bif decide ((y1, y2) ∈ pairs) then direct_Parse.l0 k l y1 y2 0 y1 y2 y3 y4 y5 y6 y7 y8 y9 y10 y11 y12 y13 else none := by
  unfold direct_Parse.f
  rw [h]
  rfl
theorem find_none {l : List ByteArray} (h : findP l = none) : direct_find.f l = some (0, 0, 0, 0, 0, 0, 0, 0, 0, 0, 0, 0, 0, false) := by
  unfold direct_find.f
  rw [h]
theorem parse_f {l : List ByteArray} (hs : ∀ a ∈ l, a.size ≤ 9223372036854775807) {k : Nat} (hk : 8 ≤ k) : direct_Parse.f k l = some (parseB l) := by
  unfold parseB
  cases hf : findP l with
  | none => rw [parse_of_find (find_none hf)]; rfl
  | some p =>
    obtain ⟨o, q⟩ := p
    obtain ⟨hp, ht⟩ := findP_pair hf
    have h6 := offs_le o q
    rw [parse_of_find (find_hit hp ht), w64 (by omega) (by omega)]
    by_cases hl : l.length = 2 + (offs o q).length
    · rw [decide_eq_true (by omega : (l.length : Int) = 2 + ((offs o q).length : Int)), Bool.not_true, cond_false, decide_eq_true hp, cond_true]
      have ho : In64 o ∧ In64 q := by
        simp only [pairs, List.mem_cons, List.not_mem_nil, or_false, Prod.mk.injEq] at hp
        unfold In64
        omega
      have h := parse_loop hs hl (offs o q) 0 [o, q, 0, 0, 0, 0, 0, 0, 0, 0, 0, 0, 0] k rfl (by omega) (by omega) rfl (by intro z hz; simp at hz; rcases hz with rfl | rfl | rfl; exact ho.1; exact ho.2; constructor <;> decide)
      simp only [List.getD_cons_zero, List.getD_cons_succ, Int.natCast_zero, Nat.add_zero] at h
      rw [h]
      simp only [if_pos hl]
    · rw [decide_eq_false (by omega : ¬ (l.length : Int) = 2 + ((offs o q).length : Int)), Bool.not_false, cond_true]
      simp only [if_neg hl, e2]


def vals (o q i f t s e r p u v x y : Int) : List Int := (offs o q).map fun c => [o, q, i, f, t, s, e, r, p, u, v, x, y].getD c 0
theorem wordsB_eq (o q i f t s e r p u v x y : Int) : wordsB o q i f t s e r p u v x y = opS o :: kdS q :: (vals o q i f t s e r p u v x y).map tB := by simp [wordsB, vals, Function.comp_def]
theorem findP_words {o q : Int} (hp : (o, q) ∈ pairs) {rest : List ByteArray} (h : rest ≠ []) : findP (opS o :: kdS q :: rest) = some (o, q) := by
  refine findP_hit hp ⟨decide_eq_true ?_, beq_self_eq_true (opS o).toList, beq_self_eq_true (kdS q).toList⟩
  have : 0 < rest.length := List.length_pos_iff.2 h
  simp only [List.length_cons]
  omega
theorem pn_map : ∀ ns : List Int, (∀ n ∈ ns, 0 ≤ n ∧ n ≤ 2147483647) → pn (ns.map tB) = some ns
  | [], _ => rfl
  | n :: r, h => by
    obtain ⟨h0, h1⟩ := h n List.mem_cons_self
    rw [List.map_cons, pn, tB_data, parse_of h0 h1 (by omega)]
    simp only [pn_map r (fun m hm => h m (List.mem_cons_of_mem _ hm)), Option.map_some]
theorem pn_text : ∀ {l : List ByteArray} {ns : List Int}, pn l = some ns → l = ns.map tB ∧ ∀ n ∈ ns, 0 ≤ n ∧ n ≤ 2147483647
  | [], ns, h => by
    obtain rfl : [] = ns := Option.some.inj h
    exact ⟨rfl, fun n hn => by cases hn⟩
  | s :: r, ns, h => by
    rw [pn] at h
    cases hp : parseI s.data.toList 2147483647 with
    | mk n b =>
      rw [hp] at h
      cases b with
      | false => cases h
      | true =>
        obtain ⟨ms, h1, rfl⟩ := Option.map_eq_some_iff.1 h
        obtain ⟨g1, g2, g3, g4⟩ := parse_true hp
        obtain ⟨e1, e2⟩ := pn_text h1
        refine ⟨?_, fun m hm => ?_⟩
        · rw [List.map_cons, ← e1, show tB n = s from Go.WideShapes.bytes_inj (by rw [tB_data, g4])]
        · rcases List.mem_cons.1 hm with rfl | hm
          · exact ⟨g1, g2⟩
          · exact e2 m hm
theorem right_shape {o q i f t s e r p u v x y : Int} (h : rightB o q i f t s e r p u v x y = true) : place (offs o q) (vals o q i f t s e r p u v x y) [o, q, 0, 0, 0, 0, 0, 0, 0, 0, 0, 0, 0] = [o, q, i, f, t, s, e, r, p, u, v, x, y] ∧ ∀ n ∈ vals o q i f t s e r p u v x y, 0 ≤ n ∧ n ≤ 2147483647 := by
  have hp := right_pairs' h
  simp only [pairs, List.mem_cons, List.not_mem_nil, or_false, Prod.mk.injEq] at hp
  rcases hp with ⟨rfl, rfl⟩ | ⟨rfl, rfl⟩ | ⟨rfl, rfl⟩ | ⟨rfl, rfl⟩ | ⟨rfl, rfl⟩ | ⟨rfl, rfl⟩
  · simp [rightB, zR] at h
    obtain ⟨⟨rfl, rfl, rfl, rfl, rfl⟩, h⟩ := h
    simp only [cOk, decide_eq_true_eq] at h
    refine ⟨rfl, ?_⟩
    simp [vals, offs]
    omega
  · simp [rightB, zR] at h
    obtain ⟨⟨rfl, rfl, rfl, rfl, rfl⟩, ⟨rfl, rfl, rfl, rfl, rfl⟩, h⟩ := h
    simp only [cOk, decide_eq_true_eq] at h
    refine ⟨rfl, ?_⟩
    simp [vals, offs]
    omega
  · simp [rightB, zR] at h
    obtain ⟨⟨rfl, rfl, rfl, rfl, rfl⟩, ⟨rfl, rfl, rfl, rfl⟩, h⟩ := h
    simp only [cOk, decide_eq_true_eq] at h
    refine ⟨rfl, ?_⟩
    simp [vals, offs]
    omega
  · simp [rightB, zC] at h
    obtain ⟨⟨rfl, rfl, rfl, rfl, rfl, rfl⟩, h⟩ := h
    simp only [rOk, decide_eq_true_eq] at h
    refine ⟨rfl, ?_⟩
    simp [vals, offs]
    omega
  · simp [rightB, zC] at h
    obtain ⟨⟨rfl, rfl, rfl, rfl, rfl, rfl⟩, ⟨rfl, rfl⟩, h⟩ := h
    simp only [rOk, decide_eq_true_eq] at h
    refine ⟨rfl, ?_⟩
    simp [vals, offs]
    omega
  · simp [rightB, zC] at h
    obtain ⟨⟨rfl, rfl, rfl, rfl, rfl, rfl⟩, rfl, h⟩ := h
    simp only [rOk, decide_eq_true_eq] at h
    refine ⟨rfl, ?_⟩
    simp [vals, offs]
    omega
theorem vals_len (o q i f t s e r p u v x y : Int) : (vals o q i f t s e r p u v x y).length = (offs o q).length := by simp [vals]
theorem parseB_words {o q : Int} (hp : (o, q) ∈ pairs) (rest : List ByteArray) : parseB (opS o :: kdS q :: rest) = if rest.length = (offs o q).length then (match pn rest with | none => e2 | some ns => out (place (offs o q) ns [o, q, 0, 0, 0, 0, 0, 0, 0, 0, 0, 0, 0])) else e2 := by
  have hpos := offs_pos o q
  by_cases hr : rest = []
  · subst hr
    have hm : findP [opS o, kdS q] = none := findP_miss fun p _ h => by simp [findT] at h
    rw [if_neg (by simp only [List.length_nil]; omega)]
    unfold parseB
    rw [hm]
  · unfold parseB
    rw [findP_words hp hr]
    simp only [List.length_cons, List.drop_succ_cons, List.drop_zero]
    by_cases hl : rest.length = (offs o q).length
    · rw [if_pos hl, if_pos (by omega)]
      try rfl
    · rw [if_neg hl, if_neg (by omega)]
theorem parseB_short {l : List ByteArray} (h : l.length ≤ 2) : parseB l = e2 := by
  have hm : findP l = none := findP_miss fun p _ ht => by have := of_decide_eq_true ht.1; omega
  unfold parseB
  rw [hm]
theorem back1 {o q i f t s e r p u v x y : Int} (h : rightB o q i f t s e r p u v x y = true) : parseB (wordsB o q i f t s e r p u v x y) = (o, q, i, f, t, s, e, r, p, u, v, x, y, 0) := by
  obtain ⟨h1, h2⟩ := right_shape h
  rw [wordsB_eq, parseB_words (right_pairs' h), if_pos (by rw [List.length_map, vals_len]), pn_map _ h2]
  show out (place (offs o q) (vals o q i f t s e r p u v x y) [o, q, 0, 0, 0, 0, 0, 0, 0, 0, 0, 0, 0]) = _
  rw [h1]
  exact if_pos h
theorem pn_len {l : List ByteArray} {ns : List Int} (h : pn l = some ns) : ns.length = l.length := by rw [(pn_text h).1]; simp
theorem vals_place {o q : Int} (hp : (o, q) ∈ pairs) {ns : List Int} (h : ns.length = (offs o q).length) : ∃ a0 a1 a2 a3 a4 a5 a6 a7 a8 a9 a10 : Int, place (offs o q) ns [o, q, 0, 0, 0, 0, 0, 0, 0, 0, 0, 0, 0] = [o, q, a0, a1, a2, a3, a4, a5, a6, a7, a8, a9, a10] ∧ vals o q a0 a1 a2 a3 a4 a5 a6 a7 a8 a9 a10 = ns := by
  simp only [pairs, List.mem_cons, List.not_mem_nil, or_false, Prod.mk.injEq] at hp
  rcases hp with ⟨rfl, rfl⟩ | ⟨rfl, rfl⟩ | ⟨rfl, rfl⟩ | ⟨rfl, rfl⟩ | ⟨rfl, rfl⟩ | ⟨rfl, rfl⟩
  · match ns, (show ns.length = 6 from h) with
    | [a, b, c, d, e, f], _ => exact ⟨a, b, c, d, e, f, 0, 0, 0, 0, 0, rfl, rfl⟩
  · match ns, (show ns.length = 1 from h) with
    | [a], _ => exact ⟨a, 0, 0, 0, 0, 0, 0, 0, 0, 0, 0, rfl, rfl⟩
  · match ns, (show ns.length = 2 from h) with
    | [a, b], _ => exact ⟨a, 0, 0, 0, 0, b, 0, 0, 0, 0, 0, rfl, rfl⟩
  · match ns, (show ns.length = 5 from h) with
    | [a, b, c, d, e], _ => exact ⟨0, 0, 0, 0, 0, 0, a, b, c, d, e, rfl, rfl⟩
  · match ns, (show ns.length = 3 from h) with
    | [a, b, c], _ => exact ⟨0, 0, 0, 0, 0, 0, a, b, c, 0, 0, rfl, rfl⟩
  · match ns, (show ns.length = 4 from h) with
    | [a, b, c, d], _ => exact ⟨0, 0, 0, 0, 0, 0, a, b, c, 0, d, rfl, rfl⟩
theorem out_ok {o q i f t s e r p u v x y : Int} (h : rightB o q i f t s e r p u v x y = true) : out [o, q, i, f, t, s, e, r, p, u, v, x, y] = (o, q, i, f, t, s, e, r, p, u, v, x, y, 0) := if_pos h
theorem out_no {o q i f t s e r p u v x y : Int} (h : rightB o q i f t s e r p u v x y = false) : out [o, q, i, f, t, s, e, r, p, u, v, x, y] = e1 := if_neg (by rw [show rightB ([o, q, i, f, t, s, e, r, p, u, v, x, y].getD 0 0) ([o, q, i, f, t, s, e, r, p, u, v, x, y].getD 1 0) ([o, q, i, f, t, s, e, r, p, u, v, x, y].getD 2 0) ([o, q, i, f, t, s, e, r, p, u, v, x, y].getD 3 0) ([o, q, i, f, t, s, e, r, p, u, v, x, y].getD 4 0) ([o, q, i, f, t, s, e, r, p, u, v, x, y].getD 5 0) ([o, q, i, f, t, s, e, r, p, u, v, x, y].getD 6 0) ([o, q, i, f, t, s, e, r, p, u, v, x, y].getD 7 0) ([o, q, i, f, t, s, e, r, p, u, v, x, y].getD 8 0) ([o, q, i, f, t, s, e, r, p, u, v, x, y].getD 9 0) ([o, q, i, f, t, s, e, r, p, u, v, x, y].getD 10 0) ([o, q, i, f, t, s, e, r, p, u, v, x, y].getD 11 0) ([o, q, i, f, t, s, e, r, p, u, v, x, y].getD 12 0) = rightB o q i f t s e r p u v x y from rfl, h]; simp)
theorem back2 (l : List ByteArray) : parseB l = e2 ∨ parseB l = e1 ∨ ∃ o q i f t s e r p u v x y : Int, parseB l = (o, q, i, f, t, s, e, r, p, u, v, x, y, 0) ∧ rightB o q i f t s e r p u v x y = true ∧ wordsB o q i f t s e r p u v x y = l := by
  cases hf : findP l with
  | none => left; unfold parseB; rw [hf]
  | some r =>
    obtain ⟨o, q⟩ := r
    obtain ⟨hp, ht⟩ := findP_pair hf
    have hlen : (2 : Int) < (l.length : Int) := of_decide_eq_true ht.1
    match l, hlen, ht with
    | a :: b :: rest, hlen, ht =>
      have ha : a = opS o := Go.WideShapes.bytes_inj (by rw [← ByteArray.toList_eq, ← ByteArray.toList_eq]; exact eq_of_beq ht.2.1)
      have hb : b = kdS q := Go.WideShapes.bytes_inj (by rw [← ByteArray.toList_eq, ← ByteArray.toList_eq]; exact eq_of_beq ht.2.2)
      subst ha
      subst hb
      rw [parseB_words hp]
      by_cases hl : rest.length = (offs o q).length
      · rw [if_pos hl]
        cases hn : pn rest with
        | none => left; rfl
        | some ns =>
          obtain ⟨h1, h2⟩ := pn_text hn
          obtain ⟨a0, a1, a2, a3, a4, a5, a6, a7, a8, a9, a10, h3, h4⟩ := vals_place hp ((pn_len hn).trans hl)
          show out _ = e2 ∨ out _ = e1 ∨ ∃ o q i f t s e r p u v x y : Int, out _ = (o, q, i, f, t, s, e, r, p, u, v, x, y, 0) ∧ rightB o q i f t s e r p u v x y = true ∧ wordsB o q i f t s e r p u v x y = _
          rw [h3]
          cases hr : rightB o q a0 a1 a2 a3 a4 a5 a6 a7 a8 a9 a10 with
          | false => right; left; exact out_no hr
          | true => right; right; exact ⟨o, q, a0, a1, a2, a3, a4, a5, a6, a7, a8, a9, a10, out_ok hr, hr, by rw [wordsB_eq, h4, h1]⟩
      · left; rw [if_neg hl]


theorem same_loop (a b : List ByteArray) (hl : a.length = b.length) (hb : a.length ≤ 1000000) : ∀ (d j k : Nat), d + j = a.length → d < k → feluccaref02_Same.l0 k a b (j : Int) = some (decide (a.drop j = b.drop j))
  | 0, j, k, hd, hk => by
    obtain ⟨k, rfl⟩ : ∃ m, k = m + 1 := ⟨k - 1, by omega⟩
    rw [feluccaref02_Same.l0, decide_eq_false (by omega), cond_false, List.drop_eq_nil_of_le (by omega), List.drop_eq_nil_of_le (by omega)]
    simp
  | d + 1, j, k, hd, hk => by
    obtain ⟨k, rfl⟩ : ∃ m, k = m + 1 := ⟨k - 1, by omega⟩
    have h1 : j < a.length := by omega
    have h2 : j < b.length := by omega
    rw [feluccaref02_Same.l0, decide_eq_true (by omega : (j : Int) < (a.length : Int)), decide_eq_true (by omega : (0 : Int) ≤ (j : Int)), decide_eq_true (by omega : (j : Int) < (b.length : Int)), cond_true, cond_true, cond_true, getD_of (List.getElem?_eq_getElem h1), getD_of (List.getElem?_eq_getElem h2),
      w64 (by omega) (by omega), show (j : Int) + 1 = ((j + 1 : Nat) : Int) by omega, same_loop a b hl hb d (j + 1) k (by omega) (by omega), List.drop_eq_getElem_cons h1, List.drop_eq_getElem_cons h2]
    by_cases he : a[j] = b[j]
    · rw [he, beq_self_eq_true, Bool.not_true, cond_false]
      exact congrArg some (decide_eq_decide.2 ⟨fun h => by rw [h], fun h => (List.cons.inj h).2⟩)
    · have : ((a[j]).toList == (b[j]).toList) = false := beq_eq_false_iff_ne.2 fun h => he (Go.WideShapes.bytes_inj (by rw [← ByteArray.toList_eq, ← ByteArray.toList_eq]; exact h))
      rw [this, Bool.not_false, cond_true]
      exact congrArg some (decide_eq_false fun h => he (List.cons.inj h).1).symm
theorem same_f {a b : List ByteArray} (hb : a.length ≤ 1000000) {k : Nat} (hk : a.length < k) : feluccaref02_Same.f k a b = some (decide (a = b)) := by
  unfold feluccaref02_Same.f
  by_cases hl : a.length = b.length
  · rw [decide_eq_true (by omega : (a.length : Int) = (b.length : Int)), Bool.not_true, cond_false]
    exact same_loop a b hl hb a.length 0 k (by omega) hk
  · rw [decide_eq_false (by omega : ¬ (a.length : Int) = (b.length : Int)), Bool.not_false, cond_true, decide_eq_false (fun h => hl (congrArg List.length h))]
theorem d64_place : ∀ (cs : List Nat) (ns xs : List Int), D64 xs → (∀ n ∈ ns, 0 ≤ n ∧ n ≤ 2147483647) → D64 (place cs ns xs)
  | [], _, xs, h, _ => h
  | _ :: _, [], xs, h, _ => h
  | c :: cs, n :: ns, xs, h, hn => by
    obtain ⟨h0, h1⟩ := hn n List.mem_cons_self
    exact d64_place cs ns _ (d64_set h ⟨by omega, by omega⟩ c) (fun m hm => hn m (List.mem_cons_of_mem _ hm))
theorem right_64 {o q i f t s e r p u v x y : Int} (h : rightB o q i f t s e r p u v x y = true) : D64 [o, q, i, f, t, s, e, r, p, u, v, x, y] := by
  obtain ⟨h1, h2⟩ := right_shape h
  have hp := right_pairs' h
  rw [← h1]
  refine d64_place _ _ _ ?_ h2
  have ho : In64 o ∧ In64 q := by
    simp only [pairs, List.mem_cons, List.not_mem_nil, or_false, Prod.mk.injEq] at hp
    unfold In64
    omega
  intro z hz
  simp at hz
  rcases hz with rfl | rfl | rfl
  · exact ho.1
  · exact ho.2
  · constructor <;> decide
theorem wordsB_len (o q i f t s e r p u v x y : Int) : (wordsB o q i f t s e r p u v x y).length = 2 + (offs o q).length := by rw [wordsB_eq]; simp only [List.length_cons, List.length_map, vals_len]; omega
theorem opS_size (o : Int) : (opS o).size ≤ 100 := by unfold opS; split; decide; split <;> decide
theorem kdS_size (q : Int) : (kdS q).size ≤ 100 := by unfold kdS; split <;> decide
theorem words_size {o q i f t s e r p u v x y : Int} (h : rightB o q i f t s e r p u v x y = true) : ∀ a ∈ wordsB o q i f t s e r p u v x y, a.size ≤ 9223372036854775807 := by
  intro a ha
  rw [wordsB_eq] at ha
  rcases List.mem_cons.1 ha with rfl | ha
  · have := opS_size o; omega
  rcases List.mem_cons.1 ha with rfl | ha
  · have := kdS_size q; omega
  obtain ⟨n, hn, rfl⟩ := List.mem_map.1 ha
  obtain ⟨h0, h1⟩ := (right_shape h).2 n hn
  have := (text_len (n := n) ⟨by omega, by omega⟩).2
  show (⟨(itoa n).toArray⟩ : ByteArray).size ≤ _
  rw [ba_size]
  omega


theorem small_true {k : Nat} (hk : 300 ≤ k) : feluccalaw04_small.f k = some true := by
  have t7 : tB 7 = ⟨#[55]⟩ := by unfold tB itoa; rw [if_neg (by omega), show (7 : Int).toNat = 7 from rfl, dec_small (by omega)]; rfl
  have t1 : tB 1 = ⟨#[49]⟩ := by unfold tB itoa; rw [if_neg (by omega), show (1 : Int).toNat = 1 from rfl, dec_small (by omega)]; rfl
  have t2 : tB 2 = ⟨#[50]⟩ := by unfold tB itoa; rw [if_neg (by omega), show (2 : Int).toNat = 2 from rfl, dec_small (by omega)]; rfl
  have t3 : tB 3 = ⟨#[51]⟩ := by unfold tB itoa; rw [if_neg (by omega), show (3 : Int).toNat = 3 from rfl, dec_small (by omega)]; rfl
  have t10 : tB 10 = ⟨#[49, 48]⟩ := by unfold tB itoa; rw [if_neg (by omega), show (10 : Int).toNat = 10 from rfl, dec_big (by omega), show 10 / 10 = 1 from rfl, dec_small (by omega)]; rfl
  have t20 : tB 20 = ⟨#[50, 48]⟩ := by unfold tB itoa; rw [if_neg (by omega), show (20 : Int).toNat = 20 from rfl, dec_big (by omega), show 20 / 10 = 2 from rfl, dec_small (by omega)]; rfl
  have w1 : wordsB 1 1 7 1 2 10 20 3 0 0 0 0 0 = [⟨#[97]⟩, ⟨#[99, 111, 110, 116, 97, 99, 116]⟩, ⟨#[55]⟩, ⟨#[49]⟩, ⟨#[50]⟩, ⟨#[49, 48]⟩, ⟨#[50, 48]⟩, ⟨#[51]⟩] := by
    show [opS 1, kdS 1, tB 7, tB 1, tB 2, tB 10, tB 20, tB 3] = _
    rw [t7, t1, t2, t3, t10, t20]
    rfl
  have r1 : rightB 1 1 7 1 2 10 20 3 0 0 0 0 0 = true := by decide
  have r2 : rightB 0 0 0 0 0 0 0 0 0 0 0 0 0 = false := by decide
  have p1 : parseB [⟨#[100]⟩, ⟨#[99, 111, 110, 116, 97, 99, 116]⟩, ⟨#[55]⟩] = (2, 1, 7, 0, 0, 0, 0, 0, 0, 0, 0, 0, 0, 0) := (parseB_words (o := 2) (q := 1) (by decide) [⟨#[55]⟩]).trans (by kernel_rfl)
  have p2 : parseB [⟨#[97]⟩, ⟨#[114, 97, 110, 103, 101]⟩, ⟨#[49]⟩, ⟨#[50]⟩, ⟨#[48]⟩, ⟨#[57]⟩, ⟨#[52]⟩] = (1, 2, 0, 0, 0, 0, 0, 0, 1, 2, 0, 9, 4, 0) := (parseB_words (o := 1) (q := 2) (by decide) [⟨#[49]⟩, ⟨#[50]⟩, ⟨#[48]⟩, ⟨#[57]⟩, ⟨#[52]⟩]).trans (by kernel_rfl)
  have p3 : parseB [⟨#[97]⟩, ⟨#[114, 97, 110, 103, 101]⟩, ⟨#[49]⟩, ⟨#[50]⟩, ⟨#[57]⟩, ⟨#[57]⟩, ⟨#[52]⟩] = e1 := (parseB_words (o := 1) (q := 2) (by decide) [⟨#[49]⟩, ⟨#[50]⟩, ⟨#[57]⟩, ⟨#[57]⟩, ⟨#[52]⟩]).trans (by kernel_rfl)
  have p4 : parseB [⟨#[97]⟩, ⟨#[114, 97, 110, 103, 101]⟩, ⟨#[49]⟩, ⟨#[50]⟩, ⟨#[48, 57]⟩, ⟨#[57]⟩, ⟨#[52]⟩] = e2 := (parseB_words (o := 1) (q := 2) (by decide) [⟨#[49]⟩, ⟨#[50]⟩, ⟨#[48, 57]⟩, ⟨#[57]⟩, ⟨#[52]⟩]).trans (by kernel_rfl)
  have p5 : parseB [⟨#[100]⟩, ⟨#[99, 111, 110, 116, 97, 99, 116]⟩, ⟨#[55]⟩, ⟨#[56]⟩] = e2 := (parseB_words (o := 2) (q := 1) (by decide) [⟨#[55]⟩, ⟨#[56]⟩]).trans (by kernel_rfl)
  have p6 : parseB [] = e2 := parseB_short (by simp)
  have p7 : parseB [⟨#[99]⟩, ⟨#[114, 97, 110, 103, 101]⟩, ⟨#[49]⟩, ⟨#[50]⟩, ⟨#[48]⟩, ⟨#[53]⟩] = (3, 2, 0, 0, 0, 0, 0, 0, 1, 2, 0, 0, 5, 0) := (parseB_words (o := 3) (q := 2) (by decide) [⟨#[49]⟩, ⟨#[50]⟩, ⟨#[48]⟩, ⟨#[53]⟩]).trans (by kernel_rfl)
  have hz : ∀ (l : List ByteArray), (l.all fun a => decide (a.size ≤ 100)) = true → ∀ a ∈ l, a.size ≤ 9223372036854775807 := fun l h a ha => by have := of_decide_eq_true (List.all_eq_true.1 h a ha); omega
  unfold feluccalaw04_small.f
  rw [words_f (right_64 r1) (by omega), r1, if_pos rfl, w1]
  simp only [Option.bind_some]
  rw [parse_f (hz _ (by decide)) (by omega), parse_f (hz _ (by decide)) (by omega), parse_f (hz _ (by decide)) (by omega), parse_f (hz _ (by decide)) (by omega), parse_f (hz _ (by decide)) (by omega), parse_f (hz _ (by decide)) (by omega), parse_f (hz _ (by decide)) (by omega), p1, p2, p3, p4, p5, p6, p7]
  unfold e1 e2
  simp only [Option.bind_some]
  rw [same_f (by decide) (by simp; omega), right_f (by constructor <;> decide) (by constructor <;> decide), right_f (by constructor <;> decide) (by constructor <;> decide), r1, r2]
  simp


end Go.Proofs.YtndijkndllpkgaaDoor.PureDir
