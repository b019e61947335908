/- The library's variable on how long a text may be that is looked for holds some number; what lies below stays. -/
import Derived.Test.YtaknikdbnfmlfaaDoorProg
import Derived.Below
namespace Go.Proofs.YtaknikdbnfmlfaaDoor.Pr
open Go.RowKit
def MaxP (w : World) : Prop := ∃ m, w.cell? ⟨0, 0, none⟩ = some (.int .i64 m)
theorem MaxP.below {w w' : World} (h : MaxP w) (hb : Below w.heap.size w w') : MaxP w' := by
  obtain ⟨m, hm⟩ := h
  exact ⟨m, (hb.cell (World.block_lt_of_cell? w _ hm)).trans hm⟩
end Go.Proofs.YtaknikdbnfmlfaaDoor.Pr
