/- Directives in plain words: which are right, their words, what words say; the program's functions do so. -/
import Derived.Test.YtaknikdbnfmlfaaDoorF1
namespace Go.Proofs.YtaknikdbnfmlfaaDoor.Ex
open Go Go.RowKit Go.Lib Go.Proofs.YtaknikdbnfmlfaaDoor.Dig
set_option linter.unusedVariables false
set_option linter.unusedSimpArgs false
abbrev In64 (n : Int) : Prop := -9223372036854775808 ≤ n ∧ n ≤ 9223372036854775807
def cOk (i f t s e r : Int) : Bool := decide ((1 ≤ f ∧ f ≤ 255) ∧ (1 ≤ t ∧ t ≤ 255) ∧ f ≠ t ∧ 0 ≤ s ∧ s < e ∧ e ≤ 2147483647 ∧ 1 ≤ i ∧ i ≤ 1048576 ∧ 1 ≤ r ∧ r ≤ 2147483647)
def rOk (f t s e y : Int) : Bool := decide ((1 ≤ f ∧ f ≤ 255) ∧ (1 ≤ t ∧ t ≤ 255) ∧ f ≠ t ∧ 0 ≤ s ∧ s < e ∧ e ≤ 2147483647 ∧ 0 ≤ y ∧ y ≤ 2147483647)
def zR (p u v x y : Int) : Bool := decide (p = 0 ∧ u = 0 ∧ v = 0 ∧ x = 0 ∧ y = 0)
def zC (i f t s e r : Int) : Bool := decide (i = 0 ∧ f = 0 ∧ t = 0 ∧ s = 0 ∧ e = 0 ∧ r = 0)
def rightB (o q i f t s e r p u v x y : Int) : Bool :=
  if q = 1 then (zR p u v x y && (if o = 1 then cOk i f t s e r else if o = 2 then (decide (f = 0 ∧ t = 0 ∧ s = 0 ∧ e = 0 ∧ r = 0) && cOk i 1 2 0 1 1) else if o = 3 then (decide (f = 0 ∧ t = 0 ∧ s = 0 ∧ e = 0) && cOk i 1 2 0 1 r) else false))
  else if q = 2 then (zC i f t s e r && (if o = 1 then rOk p u v x y else if o = 2 then (decide (x = 0 ∧ y = 0) && rOk p u v 2147483647 0) else if o = 3 then (decide (x = 0) && rOk p u v 2147483647 y) else false))
  else false
/-- Is a directive right? -/
def dR : GDirective → Bool := fun (o, q, i, f, t, s, e, r, p, u, v, x, y) => rightB o q i f t s e r p u v x y
theorem w64' {n : Int} (h : In64 n) : w64 n = n := by
  have h1 := h.1
  have h2 := h.2
  unfold w64 IntKind.wrap
  simp [IntKind.signed, IntKind.bits, Int.bmod]
  omega
theorem zb (x : Int) : ((0 : Int) == x) = decide (x = 0) := by
  by_cases h : x = 0
  · subst h; rfl
  · rw [decide_eq_false h]; exact beq_eq_false_iff_ne.2 (Ne.symm h)
theorem bif_id (a : Bool) : (bif a then some true else some false) = some a := by cases a <;> rfl
theorem bif_and (a b : Bool) : (bif a then some b else some false) = some (a && b) := by cases a <;> rfl
theorem num_In_sp (k : Nat) (n lo hi : Int) : num_In k (n, lo, hi) = some (decide (lo ≤ n ∧ n ≤ hi)) := by
  unfold num_In
  by_cases h1 : lo ≤ n <;> by_cases h2 : n ≤ hi <;> simp [h1, h2]
theorem contact_sp (k : Nat) {i f t s e r : Int} (he : In64 e) : check_Contact k (i, f, t, s, e, r) = some (cOk i f t s e r) := by
  unfold check_Contact check_way check_Node check_span
  simp only [num_In_sp, Option.bind_some, bif_id, bif_and]
  have e1 : w64 (e - 1) = e - 1 ∨ e = -9223372036854775808 ∧ w64 (e - 1) = 9223372036854775807 := by
    by_cases h : e = -9223372036854775808
    · subst h; exact .inr ⟨rfl, by decide⟩
    · exact .inl (w64' ⟨by have := he.1; omega, by have := he.2; omega⟩)
  rcases e1 with e1 | ⟨rfl, e1⟩
  · rw [e1]
    congr 1
    rw [Bool.eq_iff_iff]
    simp only [Bool.and_eq_true, decide_eq_true_eq, Bool.not_eq_true', decide_eq_false_iff_not, cOk, and_true]
    omega
  · rw [e1]
    congr 1
    rw [Bool.eq_iff_iff]
    simp only [Bool.and_eq_true, decide_eq_true_eq, Bool.not_eq_true', decide_eq_false_iff_not, cOk, and_true]
    omega
theorem range_sp (k : Nat) {f t s e y : Int} (he : In64 e) : check_Range k (f, t, s, e, y) = some (rOk f t s e y) := by
  unfold check_Range check_way check_Node check_span
  simp only [num_In_sp, Option.bind_some, bif_id, bif_and]
  have e1 : w64 (e - 1) = e - 1 ∨ e = -9223372036854775808 ∧ w64 (e - 1) = 9223372036854775807 := by
    by_cases h : e = -9223372036854775808
    · subst h; exact .inr ⟨rfl, by decide⟩
    · exact .inl (w64' ⟨by have := he.1; omega, by have := he.2; omega⟩)
  rcases e1 with e1 | ⟨rfl, e1⟩
  · rw [e1]
    congr 1
    rw [Bool.eq_iff_iff]
    simp only [Bool.and_eq_true, decide_eq_true_eq, Bool.not_eq_true', decide_eq_false_iff_not, rOk, and_true]
    omega
  · rw [e1]
    congr 1
    rw [Bool.eq_iff_iff]
    simp only [Bool.and_eq_true, decide_eq_true_eq, Bool.not_eq_true', decide_eq_false_iff_not, rOk, and_true]
    omega
theorem one64 : In64 1 := by constructor <;> decide
theorem max64 : In64 2147483647 := by constructor <;> decide
theorem mx_one (r : Int) : mx r 1 = max r 1 := by
  unfold mx
  split <;> omega
theorem right_sp (k : Nat) {d : GDirective} (he : In64 d.2.2.2.2.2.2.1) (hx : In64 d.2.2.2.2.2.2.2.2.2.2.2.1) : direct_Right k d = some (dR d) := by
  obtain ⟨o, q, i, f, t, s, e, r, p, u, v, x, y⟩ := d
  simp only at he hx
  simp only [dR]
  unfold direct_Right direct_may
  simp only [contact_sp k he, contact_sp k one64, range_sp k hx, range_sp k max64, Option.bind_some, bif_id, bif_and]
  by_cases hp : (o, q) ∈ fKsG
  · simp only [fKsG, List.mem_cons, List.not_mem_nil, or_false, Prod.mk.injEq] at hp
    rcases hp with ⟨rfl, rfl⟩ | ⟨rfl, rfl⟩ | ⟨rfl, rfl⟩ | ⟨rfl, rfl⟩ | ⟨rfl, rfl⟩ | ⟨rfl, rfl⟩
    · simp [rightB, zR, bif_and, zb]
    · simp [rightB, zR, bif_and, mx_one, zb]
      rw [Bool.eq_iff_iff]
      simp only [Bool.and_eq_true, decide_eq_true_eq]
      constructor
      · rintro ⟨⟨⟨rfl, rfl, rfl, rfl, rfl⟩, ⟨rfl, rfl, rfl, rfl, rfl⟩⟩, h2⟩; exact ⟨⟨rfl, rfl, rfl, rfl, rfl⟩, ⟨rfl, rfl, rfl, rfl, rfl⟩, h2⟩
      · rintro ⟨⟨rfl, rfl, rfl, rfl, rfl⟩, ⟨rfl, rfl, rfl, rfl, rfl⟩, h2⟩; exact ⟨⟨⟨rfl, rfl, rfl, rfl, rfl⟩, ⟨rfl, rfl, rfl, rfl, rfl⟩⟩, h2⟩
    · simp [rightB, zR, bif_and, zb]
      rw [Bool.eq_iff_iff]
      simp only [Bool.and_eq_true, decide_eq_true_eq]
      constructor
      · rintro ⟨⟨h1, h3⟩, h2⟩; exact ⟨h3, h1, h2⟩
      · rintro ⟨h1, h3, h2⟩; exact ⟨⟨h3, h1⟩, h2⟩
    · simp [rightB, zC, bif_and, zb]
    · simp [rightB, zC, bif_and, zb]
      rw [Bool.eq_iff_iff]
      simp only [Bool.and_eq_true, decide_eq_true_eq]
      constructor
      · rintro ⟨⟨h1, rfl, rfl⟩, h2⟩; exact ⟨h1, ⟨rfl, rfl⟩, h2⟩
      · rintro ⟨h1, ⟨rfl, rfl⟩, h2⟩; exact ⟨⟨h1, rfl, rfl⟩, h2⟩
    · simp [rightB, zC, bif_and, zb, Bool.and_assoc]
  · simp only [fKsG, List.mem_cons, List.not_mem_nil, or_false, Prod.mk.injEq, not_or, not_and] at hp
    have hb : rightB o q i f t s e r p u v x y = false := by
      unfold rightB
      by_cases q1 : q = 1
      · have h1 : o ≠ 1 := fun h => hp.1 h q1
        have h2 : o ≠ 2 := fun h => hp.2.1 h q1
        have h3 : o ≠ 3 := fun h => hp.2.2.1 h q1
        simp [q1, h1, h2, h3]
      · by_cases q2 : q = 2
        · have h1 : o ≠ 1 := fun h => hp.2.2.2.1 h q2
          have h2 : o ≠ 2 := fun h => hp.2.2.2.2.1 h q2
          have h3 : o ≠ 3 := fun h => hp.2.2.2.2.2 h q2
          simp [q2, h1, h2, h3]
        · simp [q1, q2]
    rw [hb]
    have n1 : (decide (o = 1) && decide (q = 1)) = false := by rw [← Bool.decide_and]; exact decide_eq_false fun h => hp.1 h.1 h.2
    have n2 : (decide (o = 2) && decide (q = 1)) = false := by rw [← Bool.decide_and]; exact decide_eq_false fun h => hp.2.1 h.1 h.2
    have n3 : (decide (o = 3) && decide (q = 1)) = false := by rw [← Bool.decide_and]; exact decide_eq_false fun h => hp.2.2.1 h.1 h.2
    have n4 : (decide (o = 1) && decide (q = 2)) = false := by rw [← Bool.decide_and]; exact decide_eq_false fun h => hp.2.2.2.1 h.1 h.2
    have n5 : (decide (o = 2) && decide (q = 2)) = false := by rw [← Bool.decide_and]; exact decide_eq_false fun h => hp.2.2.2.2.1 h.1 h.2
    have n6 : (decide (o = 3) && decide (q = 2)) = false := by rw [← Bool.decide_and]; exact decide_eq_false fun h => hp.2.2.2.2.2 h.1 h.2
    simp only [n1, n2, n3, n4, n5, n6, cond_false]
/-- A directive's numbers, in order. -/
def vals : GDirective → List Int := fun (o, q, i, f, t, s, e, r, p, u, v, x, y) =>
  if q = 1 then (if o = 1 then [i, f, t, s, e, r] else if o = 2 then [i] else [i, r]) else if o = 1 then [p, u, v, x, y] else if o = 2 then [p, u, v] else [p, u, v, y]
def tB (n : Int) : ByteArray := ofL (itoaK n)
def wordsB (d : GDirective) : List ByteArray := ofL (opB d.1) :: ofL (kdB d.2.1) :: (vals d).map tB
/-- A directive of numbers. -/
def mkD : Int × Int → List Int → GDirective
  | (1, 1), [a, b, c, d, e, f] => (1, 1, a, b, c, d, e, f, 0, 0, 0, 0, 0)
  | (2, 1), [a] => (2, 1, a, 0, 0, 0, 0, 0, 0, 0, 0, 0, 0)
  | (3, 1), [a, b] => (3, 1, a, 0, 0, 0, 0, b, 0, 0, 0, 0, 0)
  | (1, 2), [a, b, c, d, e] => (1, 2, 0, 0, 0, 0, 0, 0, a, b, c, d, e)
  | (2, 2), [a, b, c] => (2, 2, 0, 0, 0, 0, 0, 0, a, b, c, 0, 0)
  | (3, 2), [a, b, c, d] => (3, 2, 0, 0, 0, 0, 0, 0, a, b, c, 0, d)
  | _, _ => (0, 0, 0, 0, 0, 0, 0, 0, 0, 0, 0, 0, 0)
abbrev d0 : GDirective := (0, 0, 0, 0, 0, 0, 0, 0, 0, 0, 0, 0, 0)
/-- The numbers that texts say. -/
def pn : List ByteArray → Option (List Int)
  | [] => some []
  | s :: r => match parseI s.data.toList 2147483647 with
    | (n, true) => (pn r).map (n :: ·)
    | (_, false) => none
def outD (d : GDirective) : GDirective × Int := bif dR d then (d, 0) else (d0, 1)
/-- What words say. -/
def parseB (l : List ByteArray) : GDirective × Int := match fKsG.find? (hit l) with
  | none => (d0, 2)
  | some p => bif decide ((l.length : Int) = 2 + nOf p) then (match pn (l.drop 2) with
    | none => (d0, 2)
    | some ns => outD (mkD p ns)) else (d0, 2)
theorem dR_pair {d : GDirective} (h : dR d = true) : (d.1, d.2.1) ∈ fKsG := by
  obtain ⟨o, q, i, f, t, s, e, r, p, u, v, x, y⟩ := d
  simp only [dR] at h
  refine Classical.byContradiction fun hp => ?_
  simp only [fKsG, List.mem_cons, List.not_mem_nil, or_false, Prod.mk.injEq, not_or, not_and] at hp
  unfold rightB at h
  by_cases q1 : q = 1
  · have h1 : o ≠ 1 := fun h => hp.1 h q1
    have h2 : o ≠ 2 := fun h => hp.2.1 h q1
    have h3 : o ≠ 3 := fun h => hp.2.2.1 h q1
    simp [q1, h1, h2, h3] at h
  · by_cases q2 : q = 2
    · have h1 : o ≠ 1 := fun h => hp.2.2.2.1 h q2
      have h2 : o ≠ 2 := fun h => hp.2.2.2.2.1 h q2
      have h3 : o ≠ 3 := fun h => hp.2.2.2.2.2 h q2
      simp [q2, h1, h2, h3] at h
    · simp [q1, q2] at h
/-- A right directive is that of its numbers, which are from 0 on. -/
theorem dR_shape {d : GDirective} (h : dR d = true) : mkD (d.1, d.2.1) (vals d) = d ∧ (∀ n ∈ vals d, 0 ≤ n ∧ n ≤ 2147483647) ∧ ((vals d).length : Int) = nOf (d.1, d.2.1) := by
  have hp := dR_pair h
  obtain ⟨o, q, i, f, t, s, e, r, p, u, v, x, y⟩ := d
  simp only [dR] at h
  simp only [fKsG, List.mem_cons, List.not_mem_nil, or_false, Prod.mk.injEq] at hp
  rcases hp with ⟨rfl, rfl⟩ | ⟨rfl, rfl⟩ | ⟨rfl, rfl⟩ | ⟨rfl, rfl⟩ | ⟨rfl, rfl⟩ | ⟨rfl, rfl⟩
  · simp [rightB, zR] at h
    obtain ⟨⟨rfl, rfl, rfl, rfl, rfl⟩, h⟩ := h
    simp only [cOk, decide_eq_true_eq] at h
    refine ⟨rfl, ?_, rfl⟩
    simp [vals]
    omega
  · simp [rightB, zR] at h
    obtain ⟨⟨rfl, rfl, rfl, rfl, rfl⟩, ⟨rfl, rfl, rfl, rfl, rfl⟩, h⟩ := h
    simp only [cOk, decide_eq_true_eq] at h
    refine ⟨rfl, ?_, rfl⟩
    simp [vals]
    omega
  · simp [rightB, zR] at h
    obtain ⟨⟨rfl, rfl, rfl, rfl, rfl⟩, ⟨rfl, rfl, rfl, rfl⟩, h⟩ := h
    simp only [cOk, decide_eq_true_eq] at h
    refine ⟨rfl, ?_, rfl⟩
    simp [vals]
    omega
  · simp [rightB, zC] at h
    obtain ⟨⟨rfl, rfl, rfl, rfl, rfl, rfl⟩, h⟩ := h
    simp only [rOk, decide_eq_true_eq] at h
    refine ⟨rfl, ?_, rfl⟩
    simp [vals]
    omega
  · simp [rightB, zC] at h
    obtain ⟨⟨rfl, rfl, rfl, rfl, rfl, rfl⟩, ⟨rfl, rfl⟩, h⟩ := h
    simp only [rOk, decide_eq_true_eq] at h
    refine ⟨rfl, ?_, rfl⟩
    simp [vals]
    omega
  · simp [rightB, zC] at h
    obtain ⟨⟨rfl, rfl, rfl, rfl, rfl, rfl⟩, rfl, h⟩ := h
    simp only [rOk, decide_eq_true_eq] at h
    refine ⟨rfl, ?_, rfl⟩
    simp [vals]
    omega
theorem tB_data {n : Int} (h0 : 0 ≤ n) (h1 : n ≤ 2147483647) : (tB n).data.toList = itoa n := by
  unfold tB
  rw [data_ofL, itoaK_eq (by omega) (by omega)]
theorem pn_map : ∀ ns : List Int, (∀ n ∈ ns, 0 ≤ n ∧ n ≤ 2147483647) → pn (ns.map tB) = some ns
  | [], _ => rfl
  | n :: r, h => by
    obtain ⟨h0, h1⟩ := h n List.mem_cons_self
    rw [List.map_cons, pn, tB_data h0 h1, parse_of h0 h1 (by omega)]
    simp only [pn_map r (fun m hm => h m (List.mem_cons_of_mem _ hm)), Option.map_some]
theorem bytes_eq {a b : ByteArray} (h : a.data.toList = b.data.toList) : a = b := by rw [← ofL_data a, ← ofL_data b, h]
theorem pn_text : ∀ {l : List ByteArray} {ns : List Int}, pn l = some ns → l = ns.map tB ∧ ∀ n ∈ ns, 0 ≤ n ∧ n ≤ 2147483647
  | [], ns, h => by
    obtain rfl : [] = ns := Option.some.inj h
    exact ⟨rfl, fun n hn => by cases hn⟩
  | s :: r, ns, h => by
    rw [pn] at h
    cases hp : parseI s.data.toList 2147483647 with
    | mk n b =>
      rw [hp] at h
      cases b with
      | false => cases h
      | true =>
        obtain ⟨ms, h1, rfl⟩ := Option.map_eq_some_iff.1 h
        obtain ⟨g1, g2, g3, g4⟩ := parse_true hp
        obtain ⟨e1, e2⟩ := pn_text h1
        refine ⟨?_, fun m hm => ?_⟩
        · rw [List.map_cons, ← e1, show tB n = s from bytes_eq (by rw [tB_data g1 g2, g4])]
        · rcases List.mem_cons.1 hm with rfl | hm
          · exact ⟨g1, g2⟩
          · exact e2 m hm
theorem pn_len {l : List ByteArray} {ns : List Int} (h : pn l = some ns) : ns.length = l.length := by rw [(pn_text h).1]; simp
theorem hit_words {p : Int × Int} {rest : List ByteArray} (h : rest ≠ []) : hit (ofL (opB p.1) :: ofL (kdB p.2) :: rest) p = true := by
  have : 0 < rest.length := List.length_pos_iff.2 h
  simp only [hit, List.length_cons, List.getD_cons_zero, List.getD_cons_succ, data_ofL, beq_self_eq_true, Bool.and_true]
  exact decide_eq_true (by omega)
theorem nOf_pos (p : Int × Int) : 1 ≤ nOf p ∧ nOf p ≤ 6 := by unfold nOf; split <;> omega
/-- What a right directive's words say is the directive. -/
theorem parse_words {d : GDirective} (h : dR d = true) : parseB (wordsB d) = (d, 0) := by
  obtain ⟨h1, h2, h3⟩ := dR_shape h
  have hne : (vals d).map tB ≠ [] := fun e => by
    have := congrArg List.length e
    have := (nOf_pos (d.1, d.2.1)).1
    simp at *
    simp [*] at h3
    omega
  unfold parseB wordsB
  rw [find_hit (dR_pair h) (hit_words (p := (d.1, d.2.1)) hne)]
  dsimp only
  rw [decide_eq_true (by simp only [List.length_cons, List.length_map]; omega)]
  simp only [cond_true, List.drop_succ_cons, List.drop_zero, pn_map _ h2, h1, outD, h]
theorem mkD_vals {p : Int × Int} (hp : p ∈ fKsG) {ns : List Int} (h : (ns.length : Int) = nOf p) : vals (mkD p ns) = ns ∧ (mkD p ns).1 = p.1 ∧ (mkD p ns).2.1 = p.2 := by
  simp only [fKsG, List.mem_cons, List.not_mem_nil, or_false] at hp
  rcases hp with rfl | rfl | rfl | rfl | rfl | rfl
  · match ns, (show ns.length = 6 from by simpa [nOf] using (by omega : (ns.length : Int) = 6 → ns.length = 6) h) with
    | [a, b, c, d, e, f], _ => exact ⟨rfl, rfl, rfl⟩
  · match ns, (show ns.length = 1 from by simpa [nOf] using (by omega : (ns.length : Int) = 1 → ns.length = 1) h) with
    | [a], _ => exact ⟨rfl, rfl, rfl⟩
  · match ns, (show ns.length = 2 from by simpa [nOf] using (by omega : (ns.length : Int) = 2 → ns.length = 2) h) with
    | [a, b], _ => exact ⟨rfl, rfl, rfl⟩
  · match ns, (show ns.length = 5 from by simpa [nOf] using (by omega : (ns.length : Int) = 5 → ns.length = 5) h) with
    | [a, b, c, d, e], _ => exact ⟨rfl, rfl, rfl⟩
  · match ns, (show ns.length = 3 from by simpa [nOf] using (by omega : (ns.length : Int) = 3 → ns.length = 3) h) with
    | [a, b, c], _ => exact ⟨rfl, rfl, rfl⟩
  · match ns, (show ns.length = 4 from by simpa [nOf] using (by omega : (ns.length : Int) = 4 → ns.length = 4) h) with
    | [a, b, c, d], _ => exact ⟨rfl, rfl, rfl⟩
/-- What words say: nothing, nothing right, or a right directive whose words they are. -/
theorem parse_cases (l : List ByteArray) : parseB l = (d0, 2) ∨ parseB l = (d0, 1) ∨ ∃ d, parseB l = (d, 0) ∧ dR d = true ∧ wordsB d = l := by
  cases hf : fKsG.find? (hit l) with
  | none => left; unfold parseB; rw [hf]
  | some p =>
    have hp := List.mem_of_find?_eq_some hf
    have hh := List.find?_some hf
    by_cases hl : (l.length : Int) = 2 + nOf p
    · cases hn : pn (l.drop 2) with
      | none => left; unfold parseB; rw [hf]; simp only [hn, decide_eq_true hl, cond_true]
      | some ns =>
        have hpos := nOf_pos p
        have hlen : (ns.length : Int) = nOf p := by rw [pn_len hn, List.length_drop]; omega
        obtain ⟨v1, v2, v3⟩ := mkD_vals hp hlen
        have he : parseB l = outD (mkD p ns) := by unfold parseB; rw [hf]; simp only [hn, decide_eq_true hl, cond_true]
        rw [he]
        unfold outD
        cases hr : dR (mkD p ns) with
        | false => right; left; rfl
        | true =>
          right; right
          refine ⟨mkD p ns, rfl, hr, ?_⟩
          simp only [hit, Bool.and_eq_true, beq_iff_eq] at hh
          obtain ⟨_, g1, g2⟩ := hh
          match l, hl, hn, g1, g2 with
          | [], hl, _, _, _ => simp at hl; omega
          | [a], hl, _, _, _ => simp at hl; omega
          | a :: b :: rest, hl, hn, g1, g2 =>
            simp only [List.drop_succ_cons, List.drop_zero] at hn
            simp only [List.getD_cons_zero, List.getD_cons_succ] at g1 g2
            unfold wordsB
            rw [v1, v2, v3, ← g1, ← g2, ofL_data, ofL_data, (pn_text hn).1]
    · left; unfold parseB; rw [hf]; simp only [decide_eq_false hl, cond_false]
end Go.Proofs.YtaknikdbnfmlfaaDoor.Ex
