/- Layer 4 over numbers and lists (printed by gen_puredir.py). -/
import Derived.Test.YtndijkndllpkgaaDoorPureDir
import Derived.Test.YtndijkndllpkgaaDoorPfeluccalaw04DirectApart
namespace Go.Proofs.YtndijkndllpkgaaDoor.PureDir
open Go.RowKit Go.Lib Go.Proofs.YtndijkndllpkgaaDoorW.PrintWords Go.Proofs.YtndijkndllpkgaaDoorW.PrintLast Go.Proofs.YtndijkndllpkgaaDoorW.PrintMore Go.Proofs.YtndijkndllpkgaaDoor.Pr Go.Proofs.YtndijkndllpkgaaDoor.Dig Go.Proofs.YtndijkndllpkgaaDoor.NumF Go.Proofs.YtndijkndllpkgaaDoor.Frm Go.Proofs.YtndijkndllpkgaaDoor.X
set_option linter.unusedVariables false
set_option linter.unusedSimpArgs false
theorem DirectApart (o q i f t s e r p u v x y : Int) (o' q' i' f' t' s' e' r' p' u' v' x' y' : Int) (H : D64 [o, q, i, f, t, s, e, r, p, u, v, x, y]) (H' : D64 [o', q', i', f', t', s', e', r', p', u', v', x', y']) : feluccalaw04_DirectApart.f 1000 o q i f t s e r p u v x y o' q' i' f' t' s' e' r' p' u' v' x' y' = some true := by
  unfold feluccalaw04_DirectApart.f
  rw [small_true (by omega), words_f H (by omega), words_f H' (by omega)]
  have hw := wordsB_len o q i f t s e r p u v x y
  have h6 := offs_le o q
  cases hr : rightB o q i f t s e r p u v x y with
  | false => simp
  | true =>
    cases hr' : rightB o' q' i' f' t' s' e' r' p' u' v' x' y' with
    | false => simp
    | true =>
      rw [if_pos rfl, if_pos rfl]
      simp only [Option.bind_some, cond_true, Bool.not_true, cond_false]
      rw [same_f (by omega) (by omega), Option.bind_some]
      congr 1
      rw [beq_iff_eq, Bool.eq_iff_iff, decide_eq_true_eq]
      constructor
      · intro h
        have h1 := back1 hr
        rw [h, back1 hr'] at h1
        simp only [Prod.mk.injEq] at h1
        simp [h1]
      · intro h
        simp only [Bool.and_eq_true, beq_iff_eq] at h
        simp [h]
end Go.Proofs.YtndijkndllpkgaaDoor.PureDir
