/- A function's plain form and the walk that shows it: written by a program of this session (wip/mkprint.py) out of the translation; Lean checks it. -/
import Derived.Test.YtndijkndllpkgaaDoorProg
import Derived.Below
import Derived.Deep.Draws
import Derived.Deep.AppendLies
import Derived.Maps.AppendAt
import Derived.OwnWalk
import Derived.Laws.BytesArg
import Derived.Laws.MakeOwn
import Derived.Laws.OwnMore
import Derived.Deep.OwnRows
import Derived.Tactics
import Derived.Lib.ConvBytes
import Derived.Laws.Slices
import Derived.WalkKit
import Derived.KernelRfl
import Derived.RowKit3
import Derived.Deep.LoopGhost
import Derived.Deep.QuietTactic
import Derived.BigQuiet
import Derived.WideLaws
import Derived.Deep.DeepCutAuto
import Derived.Deep.CutBlock
import Derived.Deep.RegionHeld3
import Derived.Laws.Rows
import Derived.Lib.AppendStr
import Derived.ArgAppend
import Derived.Laws.IdiomCopy
import Derived.OrdersHeld
import Derived.Laws.BitsLemmas
import Derived.RowKit
import Derived.Test.YtndijkndllpkgaaDoorWWords
import Derived.Test.YtndijkndllpkgaaDoorWLast
import Derived.Test.YtndijkndllpkgaaDoorWTab
import Derived.Test.YtndijkndllpkgaaDoorWFour
import Derived.Test.YtndijkndllpkgaaDoorWQPut
import Derived.Test.YtndijkndllpkgaaDoorWApart
import Derived.Test.YtndijkndllpkgaaDoorWArr
import Derived.Test.YtndijkndllpkgaaDoorWZeros
import Derived.Test.YtndijkndllpkgaaDoorWFoot
import Derived.Test.YtndijkndllpkgaaDoorWKept
import Derived.Test.YtndijkndllpkgaaDoorWShare
import Derived.Test.YtndijkndllpkgaaDoorWN
import Derived.Test.YtndijkndllpkgaaDoorWFootNe
import Derived.Test.YtndijkndllpkgaaDoorWAt
import Derived.Test.YtndijkndllpkgaaDoorWEqStruct
import Derived.Test.YtndijkndllpkgaaDoorWRepsOne
import Derived.Test.YtndijkndllpkgaaDoorWInv
import Derived.Test.YtndijkndllpkgaaDoorWInvWords
import Derived.Test.YtndijkndllpkgaaDoorWGuard
import Derived.Test.YtndijkndllpkgaaDoorWNEv
import Derived.Test.YtndijkndllpkgaaDoorWMore
import Derived.Test.YtndijkndllpkgaaDoorTab
namespace Go.Proofs.YtndijkndllpkgaaDoor.Pr
open Go.RowKit Go.Proofs.YtndijkndllpkgaaDoorW.PrintWords Go.Proofs.YtndijkndllpkgaaDoorW.PrintLast Go.Proofs.YtndijkndllpkgaaDoorW.PrintMore
attribute [local go_sem] max2_int min2_int max_two min_two max_three min_three max_four min_four   -- for this text's walks alone
set_option linter.unusedVariables false
set_option linter.unusedSimpArgs false

def errW : Option Int → Value
  | none => .nilIface
  | some c => .iface 0 (.int .i64 c)
theorem errW_none : errW none = .nilIface := rfl
theorem errW_some (c : Int) : errW (some c) = .iface 0 (.int .i64 c) := rfl

theorem info5 : (Tryd.prog.info? 5).map (fun i => (i.zero, i.size, i.bytes)) = some (some (.int .u8 0), 1, 1) := by kernel_rfl
-- the values' own types

end Go.Proofs.YtndijkndllpkgaaDoor.Pr
