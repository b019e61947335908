/- The table of the powers of ten stands in memory as the program's text lays it; what lies below stays. -/
import Derived.Test.YtaknikdbnfmlfaaDoorProg
import Derived.Below
import Derived.KernelRfl
import Derived.WalkSmall
import Derived.Shelf.Strconv.Itoa3
namespace Go.Proofs.YtaknikdbnfmlfaaDoor.Pr
open Go.RowKit
def TabP (w : World) : Prop := Lib.TabIs Tryd.prog w "internal/strconv.uint64pow10" .u64 Lib.pow10Tab
theorem TabP.below {w w' : World} (h : TabP w) (hb : Below w.heap.size w w') : TabP w' := by
  have hg : Tryd.prog.globalNamed "internal/strconv.uint64pow10" = some 1 := by kernel_rfl
  have h2 : w.var? Tryd.prog "internal/strconv.uint64pow10" = some _ := h
  refine var?_below (g := 1) hb hg ?_ h2
  rcases Nat.lt_or_ge 1 w.heap.size with h' | h'
  · exact h'
  · unfold World.var? at h2
    rw [hg] at h2
    simp only [Option.bind_some] at h2
    rw [Array.getElem?_eq_none h'] at h2
    cases h2
end Go.Proofs.YtaknikdbnfmlfaaDoor.Pr
