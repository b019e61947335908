/- Layer 4 over numbers and lists (printed by gen_puredir.py). -/
import Derived.Test.YtndijkndllpkgaaDoorPureDir
import Derived.Test.YtndijkndllpkgaaDoorPfeluccalaw04DirectKinds
namespace Go.Proofs.YtndijkndllpkgaaDoor.PureDir
open Go.RowKit Go.Lib Go.Proofs.YtndijkndllpkgaaDoorW.PrintWords Go.Proofs.YtndijkndllpkgaaDoorW.PrintLast Go.Proofs.YtndijkndllpkgaaDoorW.PrintMore Go.Proofs.YtndijkndllpkgaaDoor.Pr Go.Proofs.YtndijkndllpkgaaDoor.Dig Go.Proofs.YtndijkndllpkgaaDoor.NumF Go.Proofs.YtndijkndllpkgaaDoor.Frm Go.Proofs.YtndijkndllpkgaaDoor.X
set_option linter.unusedVariables false
set_option linter.unusedSimpArgs false
theorem DirectKinds (i f t s e r p u v x y : Int) (he : In64 e) (hx : In64 x) : feluccalaw04_DirectKinds.f 1000 i f t s e r p u v x y = some true := by
  unfold feluccalaw04_DirectKinds.f
  have z0 : In64 0 := by constructor <;> decide
  rw [small_true (by omega), contact_f he, range_f hx, right_f he z0, right_f z0 z0, right_f z0 z0, right_f z0 hx, right_f z0 z0, right_f z0 z0, right_f he z0]
  have e4 : rightB 1 1 i f t s e r 0 0 0 0 0 = cOk i f t s e r := by simp [rightB, zR]
  have e5 : rightB 2 1 i 0 0 0 0 0 0 0 0 0 0 = cOk i 1 2 0 1 1 := by simp [rightB, zR]
  have e6 : rightB 3 1 i 0 0 0 0 r 0 0 0 0 0 = cOk i 1 2 0 1 r := by simp [rightB, zR]
  have e7 : rightB 1 2 0 0 0 0 0 0 p u v x y = rOk p u v x y := by simp [rightB, zC]
  have e8 : rightB 2 2 0 0 0 0 0 0 p u v 0 0 = rOk p u v 2147483647 0 := by simp [rightB, zC]
  have e9 : rightB 3 2 0 0 0 0 0 0 p u v 0 y = rOk p u v 2147483647 y := by simp [rightB, zC]
  have e10 : rightB 1 1 i f t s e r 1 0 0 0 0 = false := by simp [rightB, zR]
  have c1 : cOk i f t s e r = true → cOk i 1 2 0 1 1 = true ∧ cOk i 1 2 0 1 r = true := by simp only [cOk, decide_eq_true_eq]; omega
  have c2 : cOk i 1 2 0 1 r = true → cOk i 1 2 0 1 1 = true := by simp only [cOk, decide_eq_true_eq]; omega
  have c3 : rOk p u v x y = true → rOk p u v 2147483647 0 = true ∧ rOk p u v 2147483647 y = true := by simp only [rOk, decide_eq_true_eq]; omega
  have c4 : rOk p u v 2147483647 y = true → rOk p u v 2147483647 0 = true := by simp only [rOk, decide_eq_true_eq]; omega
  rw [e4, e5, e6, e7, e8, e9, e10]
  generalize cOk i f t s e r = b1 at *
  generalize cOk i 1 2 0 1 1 = b2 at *
  generalize cOk i 1 2 0 1 r = b3 at *
  generalize rOk p u v x y = b4 at *
  generalize rOk p u v 2147483647 0 = b5 at *
  generalize rOk p u v 2147483647 y = b6 at *
  cases b1 <;> cases b2 <;> cases b3 <;> cases b4 <;> cases b5 <;> cases b6 <;> simp_all
end Go.Proofs.YtndijkndllpkgaaDoor.PureDir
