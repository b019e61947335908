/- The program's directive functions, and the document's, are those of plain words. -/
import Derived.Test.YtaknikdbnfmlfaaDoorTa
namespace Go.Proofs.YtaknikdbnfmlfaaDoor.Ex
open Go Go.RowKit Go.Lib Go.Proofs.YtaknikdbnfmlfaaDoor.Dig
set_option linter.unusedVariables false
set_option linter.unusedSimpArgs false
theorem num_Text_sp (k : Nat) {n : Int} (h : In64 n) : num_Text k n = some (tB n) := by
  unfold num_Text
  rw [decide_eq_true h.1, decide_eq_true h.2]
  rfl
theorem num_Parse_sp (k : Nat) {s : ByteArray} (hs : s.size ≤ 9223372036854775807) : num_Parse k (s, 2147483647) = some (parseI s.data.toList 2147483647) := by
  unfold num_Parse
  rw [decide_eq_true hs]
  rfl
theorem words_sp (k : Nat) {d : GDirective} (he : In64 d.2.2.2.2.2.2.1) (hx : In64 d.2.2.2.2.2.2.2.2.2.2.2.1) : direct_Words k d = some (bif dR d then (wordsB d, true) else ([], false)) := by
  unfold direct_Words
  rw [right_sp k he hx]
  cases hr : dR d with
  | false => rfl
  | true =>
    obtain ⟨_, hv, _⟩ := dR_shape hr
    have hp := dR_pair hr
    have nt : ∀ n ∈ vals d, num_Text k n = some (tB n) := fun n hn => num_Text_sp k ⟨by have := hv n hn; omega, by have := hv n hn; omega⟩
    clear hv hr he hx
    obtain ⟨o, q, i, f, t, s, e, r, p, u, v, x, y⟩ := d
    simp only [fKsG, List.mem_cons, List.not_mem_nil, or_false, Prod.mk.injEq] at hp
    rcases hp with ⟨rfl, rfl⟩ | ⟨rfl, rfl⟩ | ⟨rfl, rfl⟩ | ⟨rfl, rfl⟩ | ⟨rfl, rfl⟩ | ⟨rfl, rfl⟩
    · simp only [Option.bind_some, cond_true, nt i (by simp [vals]), nt f (by simp [vals]), nt t (by simp [vals]), nt s (by simp [vals]), nt e (by simp [vals]), nt r (by simp [vals])]
      rfl
    · simp only [Option.bind_some, cond_true, nt i (by simp [vals])]
      rfl
    · simp only [Option.bind_some, cond_true, nt i (by simp [vals]), nt r (by simp [vals])]
      rfl
    · simp only [Option.bind_some, cond_true, nt p (by simp [vals]), nt u (by simp [vals]), nt v (by simp [vals]), nt x (by simp [vals]), nt y (by simp [vals])]
      rfl
    · simp only [Option.bind_some, cond_true, nt p (by simp [vals]), nt u (by simp [vals]), nt v (by simp [vals])]
      rfl
    · simp only [Option.bind_some, cond_true, nt p (by simp [vals]), nt u (by simp [vals]), nt v (by simp [vals]), nt y (by simp [vals])]
      rfl
theorem e01 : w64 (0 + 1) = 1 := by decide
theorem e11 : w64 (1 + 1) = 2 := by decide
theorem e21 : w64 (2 + 1) = 3 := by decide
theorem e31 : w64 (3 + 1) = 4 := by decide
theorem e41 : w64 (4 + 1) = 5 := by decide
theorem e20 : w64 (2 + 0) = 2 := by decide
theorem e22 : w64 (2 + 2) = 4 := by decide
theorem e23 : w64 (2 + 3) = 5 := by decide
theorem e24 : w64 (2 + 4) = 6 := by decide
theorem e25 : w64 (2 + 5) = 7 := by decide
theorem pn_nil : pn [] = some [] := rfl
theorem pn_cons (s : ByteArray) (r : List ByteArray) : pn (s :: r) = bif (parseI s.data.toList 2147483647).2 then (pn r).map ((parseI s.data.toList 2147483647).1 :: ·) else none := by
  rw [pn]
  cases parseI s.data.toList 2147483647 with | mk n b => cases b <;> rfl
theorem parseI_64 {s : ByteArray} (h : (parseI s.data.toList 2147483647).2 = true) : In64 (parseI s.data.toList 2147483647).1 := by
  obtain ⟨h1, h2, _, _⟩ := parse_true (l := s.data.toList) (high := 2147483647) (n := (parseI s.data.toList 2147483647).1) (Prod.ext rfl h)
  exact ⟨by omega, by omega⟩
theorem zero64 : In64 0 := by constructor <;> decide
theorem outD_eq (k : Nat) {d : GDirective} (he : In64 d.2.2.2.2.2.2.1) (hx : In64 d.2.2.2.2.2.2.2.2.2.2.2.1) : ((direct_Right k d).bind fun b => bif b then some (d, (0 : Int)) else some (d0, 1)) = some (outD d) := by
  rw [right_sp k he hx]
  unfold outD
  cases dR d <;> rfl
theorem parse_sp (k : Nat) {l : List ByteArray} (hs : ∀ a ∈ l, a.size ≤ 9223372036854775807) : direct_Parse k l = some (parseB l) := by
  unfold direct_Parse direct_find parseB
  cases hf : fKsG.find? (hit l) with
  | none => rfl
  | some p =>
    have hp := List.mem_of_find?_eq_some hf
    clear hf
    simp only [Option.bind_some]
    by_cases hl : (l.length : Int) = 2 + nOf p
    · rw [decide_eq_true hl]
      simp only [fKsG, List.mem_cons, List.not_mem_nil, or_false] at hp
      rcases hp with rfl | rfl | rfl | rfl | rfl | rfl
      · match l, (show l.length = 8 from by simp only [nOf] at hl; omega), hs with
        | [a, b, c0, c1, c2, c3, c4, c5], _, hs =>
          have lens : ∀ z ∈ [c0, c1, c2, c3, c4, c5], ∀ h : Int, num_Parse k (z, 2147483647) = some (parseI z.data.toList 2147483647) := fun z hz _ => num_Parse_sp k (hs z (by simp at hz ⊢; right; right; exact hz))
          simp only [(by decide : decide ((2 : Int) < ((8 : Nat) : Int)) = true), (by decide : decide ((3 : Int) < ((8 : Nat) : Int)) = true), (by decide : decide ((4 : Int) < ((8 : Nat) : Int)) = true), (by decide : decide ((5 : Int) < ((8 : Nat) : Int)) = true), (by decide : decide ((6 : Int) < ((8 : Nat) : Int)) = true), (by decide : decide ((7 : Int) < ((8 : Nat) : Int)) = true), e01, e11, e21, e31, e41, e20, e22, e23, e24, e25, Int.ofNat_eq_natCast, List.length_cons, List.length_nil, cond_true, Option.bind_some, List.getD_cons_succ, List.getD_cons_zero, List.drop_succ_cons, List.drop_zero, Int.reduceToNat, Nat.reduceAdd, decide_true, decide_false, Int.reduceLT, Int.reduceEq, Bool.and_self, Bool.and_true, Bool.and_false, cond_false, lens c0 (by simp) 0, lens c1 (by simp) 0, lens c2 (by simp) 0, lens c3 (by simp) 0, lens c4 (by simp) 0, lens c5 (by simp) 0, pn_cons, pn_nil]
          cases h0 : (parseI c0.data.toList 2147483647).2 with
          | false => simp only [h0, cond_false, cond_true, Option.map_none, Option.map_some]
          | true =>
            cases h1 : (parseI c1.data.toList 2147483647).2 with
            | false => simp only [h0, h1, cond_false, cond_true, Option.map_none, Option.map_some]
            | true =>
              cases h2 : (parseI c2.data.toList 2147483647).2 with
              | false => simp only [h0, h1, h2, cond_false, cond_true, Option.map_none, Option.map_some]
              | true =>
                cases h3 : (parseI c3.data.toList 2147483647).2 with
                | false => simp only [h0, h1, h2, h3, cond_false, cond_true, Option.map_none, Option.map_some]
                | true =>
                  cases h4 : (parseI c4.data.toList 2147483647).2 with
                  | false => simp only [h0, h1, h2, h3, h4, cond_false, cond_true, Option.map_none, Option.map_some]
                  | true =>
                    cases h5 : (parseI c5.data.toList 2147483647).2 with
                    | false => simp only [h0, h1, h2, h3, h4, h5, cond_false, cond_true, Option.map_none, Option.map_some]
                    | true =>
                      simp only [cond_true, Option.map_some]
                      exact outD_eq k (parseI_64 h4) zero64
      · match l, (show l.length = 3 from by simp only [nOf] at hl; omega), hs with
        | [a, b, c0], _, hs =>
          have lens : ∀ z ∈ [c0], ∀ h : Int, num_Parse k (z, 2147483647) = some (parseI z.data.toList 2147483647) := fun z hz _ => num_Parse_sp k (hs z (by simp at hz ⊢; right; right; exact hz))
          simp only [(by decide : decide ((2 : Int) < ((3 : Nat) : Int)) = true), e01, e11, e21, e31, e41, e20, e22, e23, e24, e25, Int.ofNat_eq_natCast, List.length_cons, List.length_nil, cond_true, Option.bind_some, List.getD_cons_succ, List.getD_cons_zero, List.drop_succ_cons, List.drop_zero, Int.reduceToNat, Nat.reduceAdd, decide_true, decide_false, Int.reduceLT, Int.reduceEq, Bool.and_self, Bool.and_true, Bool.and_false, cond_false, lens c0 (by simp) 0, pn_cons, pn_nil]
          cases h0 : (parseI c0.data.toList 2147483647).2 with
          | false => simp only [h0, cond_false, cond_true, Option.map_none, Option.map_some]
          | true =>
            simp only [cond_true, Option.map_some]
            exact outD_eq k zero64 zero64
      · match l, (show l.length = 4 from by simp only [nOf] at hl; omega), hs with
        | [a, b, c0, c1], _, hs =>
          have lens : ∀ z ∈ [c0, c1], ∀ h : Int, num_Parse k (z, 2147483647) = some (parseI z.data.toList 2147483647) := fun z hz _ => num_Parse_sp k (hs z (by simp at hz ⊢; right; right; exact hz))
          simp only [(by decide : decide ((2 : Int) < ((4 : Nat) : Int)) = true), (by decide : decide ((3 : Int) < ((4 : Nat) : Int)) = true), e01, e11, e21, e31, e41, e20, e22, e23, e24, e25, Int.ofNat_eq_natCast, List.length_cons, List.length_nil, cond_true, Option.bind_some, List.getD_cons_succ, List.getD_cons_zero, List.drop_succ_cons, List.drop_zero, Int.reduceToNat, Nat.reduceAdd, decide_true, decide_false, Int.reduceLT, Int.reduceEq, Bool.and_self, Bool.and_true, Bool.and_false, cond_false, lens c0 (by simp) 0, lens c1 (by simp) 0, pn_cons, pn_nil]
          cases h0 : (parseI c0.data.toList 2147483647).2 with
          | false => simp only [h0, cond_false, cond_true, Option.map_none, Option.map_some]
          | true =>
            cases h1 : (parseI c1.data.toList 2147483647).2 with
            | false => simp only [h0, h1, cond_false, cond_true, Option.map_none, Option.map_some]
            | true =>
              simp only [cond_true, Option.map_some]
              exact outD_eq k zero64 zero64
      · match l, (show l.length = 7 from by simp only [nOf] at hl; omega), hs with
        | [a, b, c0, c1, c2, c3, c4], _, hs =>
          have lens : ∀ z ∈ [c0, c1, c2, c3, c4], ∀ h : Int, num_Parse k (z, 2147483647) = some (parseI z.data.toList 2147483647) := fun z hz _ => num_Parse_sp k (hs z (by simp at hz ⊢; right; right; exact hz))
          simp only [(by decide : decide ((2 : Int) < ((7 : Nat) : Int)) = true), (by decide : decide ((3 : Int) < ((7 : Nat) : Int)) = true), (by decide : decide ((4 : Int) < ((7 : Nat) : Int)) = true), (by decide : decide ((5 : Int) < ((7 : Nat) : Int)) = true), (by decide : decide ((6 : Int) < ((7 : Nat) : Int)) = true), e01, e11, e21, e31, e41, e20, e22, e23, e24, e25, Int.ofNat_eq_natCast, List.length_cons, List.length_nil, cond_true, Option.bind_some, List.getD_cons_succ, List.getD_cons_zero, List.drop_succ_cons, List.drop_zero, Int.reduceToNat, Nat.reduceAdd, decide_true, decide_false, Int.reduceLT, Int.reduceEq, Bool.and_self, Bool.and_true, Bool.and_false, cond_false, lens c0 (by simp) 0, lens c1 (by simp) 0, lens c2 (by simp) 0, lens c3 (by simp) 0, lens c4 (by simp) 0, pn_cons, pn_nil]
          cases h0 : (parseI c0.data.toList 2147483647).2 with
          | false => simp only [h0, cond_false, cond_true, Option.map_none, Option.map_some]
          | true =>
            cases h1 : (parseI c1.data.toList 2147483647).2 with
            | false => simp only [h0, h1, cond_false, cond_true, Option.map_none, Option.map_some]
            | true =>
              cases h2 : (parseI c2.data.toList 2147483647).2 with
              | false => simp only [h0, h1, h2, cond_false, cond_true, Option.map_none, Option.map_some]
              | true =>
                cases h3 : (parseI c3.data.toList 2147483647).2 with
                | false => simp only [h0, h1, h2, h3, cond_false, cond_true, Option.map_none, Option.map_some]
                | true =>
                  cases h4 : (parseI c4.data.toList 2147483647).2 with
                  | false => simp only [h0, h1, h2, h3, h4, cond_false, cond_true, Option.map_none, Option.map_some]
                  | true =>
                    simp only [cond_true, Option.map_some]
                    exact outD_eq k zero64 (parseI_64 h3)
      · match l, (show l.length = 5 from by simp only [nOf] at hl; omega), hs with
        | [a, b, c0, c1, c2], _, hs =>
          have lens : ∀ z ∈ [c0, c1, c2], ∀ h : Int, num_Parse k (z, 2147483647) = some (parseI z.data.toList 2147483647) := fun z hz _ => num_Parse_sp k (hs z (by simp at hz ⊢; right; right; exact hz))
          simp only [(by decide : decide ((2 : Int) < ((5 : Nat) : Int)) = true), (by decide : decide ((3 : Int) < ((5 : Nat) : Int)) = true), (by decide : decide ((4 : Int) < ((5 : Nat) : Int)) = true), e01, e11, e21, e31, e41, e20, e22, e23, e24, e25, Int.ofNat_eq_natCast, List.length_cons, List.length_nil, cond_true, Option.bind_some, List.getD_cons_succ, List.getD_cons_zero, List.drop_succ_cons, List.drop_zero, Int.reduceToNat, Nat.reduceAdd, decide_true, decide_false, Int.reduceLT, Int.reduceEq, Bool.and_self, Bool.and_true, Bool.and_false, cond_false, lens c0 (by simp) 0, lens c1 (by simp) 0, lens c2 (by simp) 0, pn_cons, pn_nil]
          cases h0 : (parseI c0.data.toList 2147483647).2 with
          | false => simp only [h0, cond_false, cond_true, Option.map_none, Option.map_some]
          | true =>
            cases h1 : (parseI c1.data.toList 2147483647).2 with
            | false => simp only [h0, h1, cond_false, cond_true, Option.map_none, Option.map_some]
            | true =>
              cases h2 : (parseI c2.data.toList 2147483647).2 with
              | false => simp only [h0, h1, h2, cond_false, cond_true, Option.map_none, Option.map_some]
              | true =>
                simp only [cond_true, Option.map_some]
                exact outD_eq k zero64 zero64
      · match l, (show l.length = 6 from by simp only [nOf] at hl; omega), hs with
        | [a, b, c0, c1, c2, c3], _, hs =>
          have lens : ∀ z ∈ [c0, c1, c2, c3], ∀ h : Int, num_Parse k (z, 2147483647) = some (parseI z.data.toList 2147483647) := fun z hz _ => num_Parse_sp k (hs z (by simp at hz ⊢; right; right; exact hz))
          simp only [(by decide : decide ((2 : Int) < ((6 : Nat) : Int)) = true), (by decide : decide ((3 : Int) < ((6 : Nat) : Int)) = true), (by decide : decide ((4 : Int) < ((6 : Nat) : Int)) = true), (by decide : decide ((5 : Int) < ((6 : Nat) : Int)) = true), e01, e11, e21, e31, e41, e20, e22, e23, e24, e25, Int.ofNat_eq_natCast, List.length_cons, List.length_nil, cond_true, Option.bind_some, List.getD_cons_succ, List.getD_cons_zero, List.drop_succ_cons, List.drop_zero, Int.reduceToNat, Nat.reduceAdd, decide_true, decide_false, Int.reduceLT, Int.reduceEq, Bool.and_self, Bool.and_true, Bool.and_false, cond_false, lens c0 (by simp) 0, lens c1 (by simp) 0, lens c2 (by simp) 0, lens c3 (by simp) 0, pn_cons, pn_nil]
          cases h0 : (parseI c0.data.toList 2147483647).2 with
          | false => simp only [h0, cond_false, cond_true, Option.map_none, Option.map_some]
          | true =>
            cases h1 : (parseI c1.data.toList 2147483647).2 with
            | false => simp only [h0, h1, cond_false, cond_true, Option.map_none, Option.map_some]
            | true =>
              cases h2 : (parseI c2.data.toList 2147483647).2 with
              | false => simp only [h0, h1, h2, cond_false, cond_true, Option.map_none, Option.map_some]
              | true =>
                cases h3 : (parseI c3.data.toList 2147483647).2 with
                | false => simp only [h0, h1, h2, h3, cond_false, cond_true, Option.map_none, Option.map_some]
                | true =>
                  simp only [cond_true, Option.map_some]
                  exact outD_eq k zero64 zero64
    · rw [decide_eq_false hl]
      rfl
end Go.Proofs.YtaknikdbnfmlfaaDoor.Ex
