/- Layer 4 over numbers and lists (printed by gen_puredir.py). -/
import Derived.Test.YtndijkndllpkgaaDoorPureDir
import Derived.Test.YtndijkndllpkgaaDoorPfeluccalaw04DirectBack
namespace Go.Proofs.YtndijkndllpkgaaDoor.PureDir
open Go.RowKit Go.Lib Go.Proofs.YtndijkndllpkgaaDoorW.PrintWords Go.Proofs.YtndijkndllpkgaaDoorW.PrintLast Go.Proofs.YtndijkndllpkgaaDoorW.PrintMore Go.Proofs.YtndijkndllpkgaaDoor.Pr Go.Proofs.YtndijkndllpkgaaDoor.Dig Go.Proofs.YtndijkndllpkgaaDoor.NumF Go.Proofs.YtndijkndllpkgaaDoor.Frm Go.Proofs.YtndijkndllpkgaaDoor.X
set_option linter.unusedVariables false
set_option linter.unusedSimpArgs false
theorem back_tail (l : List ByteArray) (hs : ∀ a ∈ l, a.size ≤ 9223372036854775807) (hl : l.length ≤ 50) : ∀ z : T14, parseB l = z → z = e2 ∨ z = e1 ∨ ∃ o q i f t s e r p u v x y : Int, z = (o, q, i, f, t, s, e, r, p, u, v, x, y, 0) ∧ rightB o q i f t s e r p u v x y = true ∧ wordsB o q i f t s e r p u v x y = l ∧ D64 [o, q, i, f, t, s, e, r, p, u, v, x, y] := fun z hz => by
  subst hz
  rcases back2 l with h | h | ⟨o, q, i, f, t, s, e, r, p, u, v, x, y, h1, h2, h3⟩
  · exact .inl h
  · exact .inr (.inl h)
  · exact .inr (.inr ⟨o, q, i, f, t, s, e, r, p, u, v, x, y, h1, h2, h3, right_64 h2⟩)
theorem DirectBack (o q i f t s e r p u v x y : Int) (l : List ByteArray) (H : D64 [o, q, i, f, t, s, e, r, p, u, v, x, y]) (hs : ∀ a ∈ l, a.size ≤ 9223372036854775807) : feluccalaw04_DirectBack.f 1000 o q i f t s e r p u v x y l = some true := by
  unfold feluccalaw04_DirectBack.f
  rw [small_true (by omega), Option.bind_some]
  by_cases h : (50 : Int) < (l.length : Int)
  · rw [decide_eq_true h, cond_true]
  rw [decide_eq_false h, cond_false, words_f H (by omega), right_f (H e (by simp)) (H x (by simp)), parse_f hs (by omega)]
  have hl : l.length ≤ 50 := by omega
  have hb := back_tail l hs hl _ rfl
  generalize parseB l = z at hb
  cases hr : rightB o q i f t s e r p u v x y with
  | false =>
    rw [if_neg (by simp)]
    simp only [Option.bind_some]
    rcases hb with rfl | rfl | ⟨o1, q1, i1, f1, t1, s1, g1, r1, p1, u1, v1, x1, y1, rfl, h2, h3, h4⟩
    · simp [e2]
    · simp [e1]
    · simp only [Option.bind_some]
      rw [words_f h4 (by omega), h2, if_pos rfl, h3, right_f (h4 g1 (by simp)) (h4 x1 (by simp)), h2]
      simp only [Option.bind_some]
      rw [same_f (by omega) (by omega)]
      simp
  | true =>
    rw [if_pos rfl]
    simp only [Option.bind_some]
    rw [parse_f (words_size hr) (by omega), back1 hr]
    rcases hb with rfl | rfl | ⟨o1, q1, i1, f1, t1, s1, g1, r1, p1, u1, v1, x1, y1, rfl, h2, h3, h4⟩
    · simp [e2]
    · simp [e1]
    · simp only [Option.bind_some]
      rw [words_f h4 (by omega), h2, if_pos rfl, h3, right_f (h4 g1 (by simp)) (h4 x1 (by simp)), h2]
      simp only [Option.bind_some]
      rw [same_f (by omega) (by omega)]
      simp
end Go.Proofs.YtndijkndllpkgaaDoor.PureDir
