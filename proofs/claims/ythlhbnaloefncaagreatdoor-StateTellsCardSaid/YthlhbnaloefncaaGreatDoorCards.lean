/-
  DERIVED. GIVEN WITH THE SEED: THE CARDS: each row of YthlhbnaloefncaaGreatDoorRows.lean that lists a variable, with what it lists TIED to the program's text (the seventh form; the later family's looks); each row that meets fmt, with fmt's text TOLD by the authors' own Lean function (tested against real Go, not proved from fmt's source: count such statements apart). THE CARD IS WHAT COUNTS. Prove the row's statement (the work); the ties are given (YthlhbnaloefncaaGreatDoorTie.lean); close each card by the builder's one call (the guide's Derived/Test/ToyasCard.lean, 'card_holds'). Laid BY PROGRAM, IN A SANDBOX (cutbox-door.mjs). By AI agents, Wed Nov 11 2026. No macro, syntax, notation, axiom, sorry.
-/
import Derived.Test.YthlhbnaloefncaaGreatDoorRows
import GoSem.ClaimSeven
namespace Go.Proofs.YthlhbnaloefncaaGreatDoor
namespace Rows

/-- THE TIED CARD OF 'feluccalaw21.StateTells'. -/
def stateTellsCard : Claim7 := { stood := { row := stateTellsRow, standIns := [], harness := (true, "bfc70092d3948fb94f16409883d01212acbc66b924c0288c8ac01d770b3d87a3"), looks := false }, kinds := [], alts := [], laidByText := true, laidKinds := [.data, .pinned], laidTests := true, laidLooks := .later }
def StateTellsCardSaid : Prop := Claim7.holds Tryz.pinned (.plain (OpenSpec.ofChange stateTellsSpec)) stateTellsCard

/-- THE TIED CARD OF 'feluccalaw21.StateRight'. -/
def stateRightCard : Claim7 := { stood := { row := stateRightRow, standIns := [], harness := (true, "bfc70092d3948fb94f16409883d01212acbc66b924c0288c8ac01d770b3d87a3"), looks := false }, kinds := [], alts := [], laidByText := true, laidKinds := [.data, .pinned], laidTests := true, laidLooks := .later }
def StateRightCardSaid : Prop := Claim7.holds Tryz.pinned (.plain (OpenSpec.ofChange stateRightSpec)) stateRightCard

/-- THE TIED CARD OF 'feluccalaw21.StateBack'. -/
def stateBackCard : Claim7 := { stood := { row := stateBackRow, standIns := [], harness := (true, "bfc70092d3948fb94f16409883d01212acbc66b924c0288c8ac01d770b3d87a3"), looks := false }, kinds := [], alts := [], laidByText := true, laidKinds := [.data, .pinned], laidTests := true, laidLooks := .later }
def StateBackCardSaid : Prop := Claim7.holds Tryz.pinned (.plain (OpenSpec.ofChange stateBackSpec)) stateBackCard

/-- THE TIED CARD OF 'feluccalaw21.StateLoads'. -/
def stateLoadsCard : Claim7 := { stood := { row := stateLoadsRow, standIns := [], harness := (true, "bfc70092d3948fb94f16409883d01212acbc66b924c0288c8ac01d770b3d87a3"), looks := false }, kinds := [], alts := [], laidByText := true, laidKinds := [.data, .pinned], laidTests := true, laidLooks := .later }
def StateLoadsCardSaid : Prop := Claim7.holds Tryz.pinned (.plain (OpenSpec.ofChange stateLoadsSpec)) stateLoadsCard

/-- THE TIED CARD OF 'feluccalaw21.StateBounds'. -/
def stateBoundsCard : Claim7 := { stood := { row := stateBoundsRow, standIns := [], harness := (true, "bfc70092d3948fb94f16409883d01212acbc66b924c0288c8ac01d770b3d87a3"), looks := false }, kinds := [], alts := [], laidByText := true, laidKinds := [.data, .pinned], laidTests := true, laidLooks := .later }
def StateBoundsCardSaid : Prop := Claim7.holds Tryz.pinned (.plain (OpenSpec.ofChange stateBoundsSpec)) stateBoundsCard

/-- THE TIED CARD OF 'feluccalaw21.StateTime'. -/
def stateTimeCard : Claim7 := { stood := { row := stateTimeRow, standIns := [], harness := (true, "bfc70092d3948fb94f16409883d01212acbc66b924c0288c8ac01d770b3d87a3"), looks := false }, kinds := [], alts := [], laidByText := true, laidKinds := [.data, .pinned], laidTests := true, laidLooks := .later }
def StateTimeCardSaid : Prop := Claim7.holds Tryz.pinned (.plain (OpenSpec.ofChange stateTimeSpec)) stateTimeCard

/-- THE TIED CARD OF 'feluccalaw21.StateTurns'. -/
def stateTurnsCard : Claim7 := { stood := { row := stateTurnsRow, standIns := [], harness := (true, "bfc70092d3948fb94f16409883d01212acbc66b924c0288c8ac01d770b3d87a3"), looks := false }, kinds := [], alts := [], laidByText := true, laidKinds := [.data, .pinned], laidTests := true, laidLooks := .later }
def StateTurnsCardSaid : Prop := Claim7.holds Tryz.pinned (.plain (OpenSpec.ofChange stateTurnsSpec)) stateTurnsCard

/-- THE SECOND FORM's CARD OF 'feluccalaw21.StateTells'. -/
def stateTellsUptoCard : Claim7 := { stood := { row := stateTellsUptoRow, standIns := [], harness := (true, "bfc70092d3948fb94f16409883d01212acbc66b924c0288c8ac01d770b3d87a3"), looks := false }, kinds := [], alts := [], laidByText := true, laidKinds := [.data, .pinned], laidTests := true, laidLooks := .later }
def StateTellsUptoCardSaid : Prop := Claim7.holds Tryz.pinned (.plain (OpenSpec.upto stateTellsSpec)) stateTellsUptoCard

/-- THE SECOND FORM's CARD OF 'feluccalaw21.StateRight'. -/
def stateRightUptoCard : Claim7 := { stood := { row := stateRightUptoRow, standIns := [], harness := (true, "bfc70092d3948fb94f16409883d01212acbc66b924c0288c8ac01d770b3d87a3"), looks := false }, kinds := [], alts := [], laidByText := true, laidKinds := [.data, .pinned], laidTests := true, laidLooks := .later }
def StateRightUptoCardSaid : Prop := Claim7.holds Tryz.pinned (.plain (OpenSpec.upto stateRightSpec)) stateRightUptoCard

/-- THE SECOND FORM's CARD OF 'feluccalaw21.StateBack'. -/
def stateBackUptoCard : Claim7 := { stood := { row := stateBackUptoRow, standIns := [], harness := (true, "bfc70092d3948fb94f16409883d01212acbc66b924c0288c8ac01d770b3d87a3"), looks := false }, kinds := [], alts := [], laidByText := true, laidKinds := [.data, .pinned], laidTests := true, laidLooks := .later }
def StateBackUptoCardSaid : Prop := Claim7.holds Tryz.pinned (.plain (OpenSpec.upto stateBackSpec)) stateBackUptoCard

/-- THE SECOND FORM's CARD OF 'feluccalaw21.StateLoads'. -/
def stateLoadsUptoCard : Claim7 := { stood := { row := stateLoadsUptoRow, standIns := [], harness := (true, "bfc70092d3948fb94f16409883d01212acbc66b924c0288c8ac01d770b3d87a3"), looks := false }, kinds := [], alts := [], laidByText := true, laidKinds := [.data, .pinned], laidTests := true, laidLooks := .later }
def StateLoadsUptoCardSaid : Prop := Claim7.holds Tryz.pinned (.plain (OpenSpec.upto stateLoadsSpec)) stateLoadsUptoCard

/-- THE SECOND FORM's CARD OF 'feluccalaw21.StateBounds'. -/
def stateBoundsUptoCard : Claim7 := { stood := { row := stateBoundsUptoRow, standIns := [], harness := (true, "bfc70092d3948fb94f16409883d01212acbc66b924c0288c8ac01d770b3d87a3"), looks := false }, kinds := [], alts := [], laidByText := true, laidKinds := [.data, .pinned], laidTests := true, laidLooks := .later }
def StateBoundsUptoCardSaid : Prop := Claim7.holds Tryz.pinned (.plain (OpenSpec.upto stateBoundsSpec)) stateBoundsUptoCard

/-- THE SECOND FORM's CARD OF 'feluccalaw21.StateTime'. -/
def stateTimeUptoCard : Claim7 := { stood := { row := stateTimeUptoRow, standIns := [], harness := (true, "bfc70092d3948fb94f16409883d01212acbc66b924c0288c8ac01d770b3d87a3"), looks := false }, kinds := [], alts := [], laidByText := true, laidKinds := [.data, .pinned], laidTests := true, laidLooks := .later }
def StateTimeUptoCardSaid : Prop := Claim7.holds Tryz.pinned (.plain (OpenSpec.upto stateTimeSpec)) stateTimeUptoCard

/-- THE SECOND FORM's CARD OF 'feluccalaw21.StateTurns'. -/
def stateTurnsUptoCard : Claim7 := { stood := { row := stateTurnsUptoRow, standIns := [], harness := (true, "bfc70092d3948fb94f16409883d01212acbc66b924c0288c8ac01d770b3d87a3"), looks := false }, kinds := [], alts := [], laidByText := true, laidKinds := [.data, .pinned], laidTests := true, laidLooks := .later }
def StateTurnsUptoCardSaid : Prop := Claim7.holds Tryz.pinned (.plain (OpenSpec.upto stateTurnsSpec)) stateTurnsUptoCard
end Rows
end Go.Proofs.YthlhbnaloefncaaGreatDoor
