/-
  DERIVED. GIVEN WITH THE SEED: THE CARDS: each row of YtndijkndllpkgaaDoorRows.lean that lists a variable, with what it lists TIED to the program's text (the seventh form; the later family's looks); each row that meets fmt, with fmt's text TOLD by the authors' own Lean function (tested against real Go, not proved from fmt's source: count such statements apart). THE CARD IS WHAT COUNTS. Prove the row's statement (the work); the ties are given (YtndijkndllpkgaaDoorTie.lean); close each card by the builder's one call (the guide's Derived/Test/ToyasCard.lean, 'card_holds'). Laid BY PROGRAM, IN A SANDBOX (cutbox-door.mjs). By AI agents, Wed Nov 11 2026. No macro, syntax, notation, axiom, sorry.
-/
import Derived.Test.YtndijkndllpkgaaDoorRows
import GoSem.ClaimSeven
namespace Go.Proofs.YtndijkndllpkgaaDoor
namespace Rows

/-- THE TIED CARD OF 'feluccalaw01.NumTells'. -/
def numTellsCard : Claim7 := { stood := { row := numTellsRow, standIns := [], harness := (true, "3d8dd0b457bd3f7b3768261d156f6d66f062dcc9c9e78c87794a602a539e84f3"), looks := false }, kinds := [], alts := [], laidByText := true, laidKinds := [.data, .data, .data], laidTests := true, laidLooks := .later }
def NumTellsCardSaid : Prop := Claim7.holds Tryd.pinned (.plain (OpenSpec.ofChange numTellsSpec)) numTellsCard

/-- THE TIED CARD OF 'feluccalaw01.NumBack'. -/
def numBackCard : Claim7 := { stood := { row := numBackRow, standIns := [], harness := (true, "3d8dd0b457bd3f7b3768261d156f6d66f062dcc9c9e78c87794a602a539e84f3"), looks := false }, kinds := [], alts := [], laidByText := true, laidKinds := [.data, .data, .data], laidTests := true, laidLooks := .later }
def NumBackCardSaid : Prop := Claim7.holds Tryd.pinned (.plain (OpenSpec.ofChange numBackSpec)) numBackCard

/-- THE TIED CARD OF 'feluccalaw01.NumCeils'. -/
def numCeilsCard : Claim7 := { stood := { row := numCeilsRow, standIns := [], harness := (true, "3d8dd0b457bd3f7b3768261d156f6d66f062dcc9c9e78c87794a602a539e84f3"), looks := false }, kinds := [], alts := [], laidByText := true, laidKinds := [.data, .data, .data], laidTests := true, laidLooks := .later }
def NumCeilsCardSaid : Prop := Claim7.holds Tryd.pinned (.plain (OpenSpec.ofChange numCeilsSpec)) numCeilsCard

/-- THE TIED CARD OF 'feluccalaw01.NumClamps'. -/
def numClampsCard : Claim7 := { stood := { row := numClampsRow, standIns := [], harness := (true, "3d8dd0b457bd3f7b3768261d156f6d66f062dcc9c9e78c87794a602a539e84f3"), looks := false }, kinds := [], alts := [], laidByText := true, laidKinds := [.data, .data, .data], laidTests := true, laidLooks := .later }
def NumClampsCardSaid : Prop := Claim7.holds Tryd.pinned (.plain (OpenSpec.ofChange numClampsSpec)) numClampsCard

/-- THE TIED CARD OF 'feluccalaw01.NumOrder'. -/
def numOrderCard : Claim7 := { stood := { row := numOrderRow, standIns := [], harness := (true, "3d8dd0b457bd3f7b3768261d156f6d66f062dcc9c9e78c87794a602a539e84f3"), looks := false }, kinds := [], alts := [], laidByText := true, laidKinds := [.data, .data, .data], laidTests := true, laidLooks := .later }
def NumOrderCardSaid : Prop := Claim7.holds Tryd.pinned (.plain (OpenSpec.ofChange numOrderSpec)) numOrderCard

/-- THE TIED CARD OF 'feluccalaw01.NumTexts'. -/
def numTextsCard : Claim7 := { stood := { row := numTextsRow, standIns := [], harness := (true, "3d8dd0b457bd3f7b3768261d156f6d66f062dcc9c9e78c87794a602a539e84f3"), looks := false }, kinds := [], alts := [], laidByText := true, laidKinds := [.data, .data, .data], laidTests := true, laidLooks := .later }
def NumTextsCardSaid : Prop := Claim7.holds Tryd.pinned (.plain (OpenSpec.ofChange numTextsSpec)) numTextsCard

/-- THE TIED CARD OF 'feluccalaw04.DirectTells'. -/
def directTellsCard : Claim7 := { stood := { row := directTellsRow, standIns := [], harness := (true, "3d8dd0b457bd3f7b3768261d156f6d66f062dcc9c9e78c87794a602a539e84f3"), looks := false }, kinds := [], alts := [], laidByText := true, laidKinds := [.data, .data, .data], laidTests := true, laidLooks := .later }
def DirectTellsCardSaid : Prop := Claim7.holds Tryd.pinned (.plain (OpenSpec.ofChange directTellsSpec)) directTellsCard

/-- THE TIED CARD OF 'feluccalaw04.DirectBack'. -/
def directBackCard : Claim7 := { stood := { row := directBackRow, standIns := [], harness := (true, "3d8dd0b457bd3f7b3768261d156f6d66f062dcc9c9e78c87794a602a539e84f3"), looks := false }, kinds := [], alts := [], laidByText := true, laidKinds := [.data, .data, .data], laidTests := true, laidLooks := .later }
def DirectBackCardSaid : Prop := Claim7.holds Tryd.pinned (.plain (OpenSpec.ofChange directBackSpec)) directBackCard

/-- THE TIED CARD OF 'feluccalaw04.DirectApart'. -/
def directApartCard : Claim7 := { stood := { row := directApartRow, standIns := [], harness := (true, "3d8dd0b457bd3f7b3768261d156f6d66f062dcc9c9e78c87794a602a539e84f3"), looks := false }, kinds := [], alts := [], laidByText := true, laidKinds := [.data, .data, .data], laidTests := true, laidLooks := .later }
def DirectApartCardSaid : Prop := Claim7.holds Tryd.pinned (.plain (OpenSpec.ofChange directApartSpec)) directApartCard

/-- THE TIED CARD OF 'feluccalaw04.DirectKinds'. -/
def directKindsCard : Claim7 := { stood := { row := directKindsRow, standIns := [], harness := (true, "3d8dd0b457bd3f7b3768261d156f6d66f062dcc9c9e78c87794a602a539e84f3"), looks := false }, kinds := [], alts := [], laidByText := true, laidKinds := [.data, .data, .data], laidTests := true, laidLooks := .later }
def DirectKindsCardSaid : Prop := Claim7.holds Tryd.pinned (.plain (OpenSpec.ofChange directKindsSpec)) directKindsCard

/-- THE TIED CARD OF 'feluccalaw04.DirectShort'. -/
def directShortCard : Claim7 := { stood := { row := directShortRow, standIns := [], harness := (true, "3d8dd0b457bd3f7b3768261d156f6d66f062dcc9c9e78c87794a602a539e84f3"), looks := false }, kinds := [], alts := [], laidByText := true, laidKinds := [.data, .data, .data], laidTests := true, laidLooks := .later }
def DirectShortCardSaid : Prop := Claim7.holds Tryd.pinned (.plain (OpenSpec.ofChange directShortSpec)) directShortCard

/-- THE SECOND FORM's CARD OF 'feluccalaw01.NumTells'. -/
def numTellsUptoCard : Claim7 := { stood := { row := numTellsUptoRow, standIns := [], harness := (true, "3d8dd0b457bd3f7b3768261d156f6d66f062dcc9c9e78c87794a602a539e84f3"), looks := false }, kinds := [], alts := [], laidByText := true, laidKinds := [.data, .data, .data], laidTests := true, laidLooks := .later }
def NumTellsUptoCardSaid : Prop := Claim7.holds Tryd.pinned (.plain (OpenSpec.upto numTellsSpec)) numTellsUptoCard

/-- THE SECOND FORM's CARD OF 'feluccalaw01.NumBack'. -/
def numBackUptoCard : Claim7 := { stood := { row := numBackUptoRow, standIns := [], harness := (true, "3d8dd0b457bd3f7b3768261d156f6d66f062dcc9c9e78c87794a602a539e84f3"), looks := false }, kinds := [], alts := [], laidByText := true, laidKinds := [.data, .data, .data], laidTests := true, laidLooks := .later }
def NumBackUptoCardSaid : Prop := Claim7.holds Tryd.pinned (.plain (OpenSpec.upto numBackSpec)) numBackUptoCard

/-- THE SECOND FORM's CARD OF 'feluccalaw01.NumCeils'. -/
def numCeilsUptoCard : Claim7 := { stood := { row := numCeilsUptoRow, standIns := [], harness := (true, "3d8dd0b457bd3f7b3768261d156f6d66f062dcc9c9e78c87794a602a539e84f3"), looks := false }, kinds := [], alts := [], laidByText := true, laidKinds := [.data, .data, .data], laidTests := true, laidLooks := .later }
def NumCeilsUptoCardSaid : Prop := Claim7.holds Tryd.pinned (.plain (OpenSpec.upto numCeilsSpec)) numCeilsUptoCard

/-- THE SECOND FORM's CARD OF 'feluccalaw01.NumClamps'. -/
def numClampsUptoCard : Claim7 := { stood := { row := numClampsUptoRow, standIns := [], harness := (true, "3d8dd0b457bd3f7b3768261d156f6d66f062dcc9c9e78c87794a602a539e84f3"), looks := false }, kinds := [], alts := [], laidByText := true, laidKinds := [.data, .data, .data], laidTests := true, laidLooks := .later }
def NumClampsUptoCardSaid : Prop := Claim7.holds Tryd.pinned (.plain (OpenSpec.upto numClampsSpec)) numClampsUptoCard

/-- THE SECOND FORM's CARD OF 'feluccalaw01.NumOrder'. -/
def numOrderUptoCard : Claim7 := { stood := { row := numOrderUptoRow, standIns := [], harness := (true, "3d8dd0b457bd3f7b3768261d156f6d66f062dcc9c9e78c87794a602a539e84f3"), looks := false }, kinds := [], alts := [], laidByText := true, laidKinds := [.data, .data, .data], laidTests := true, laidLooks := .later }
def NumOrderUptoCardSaid : Prop := Claim7.holds Tryd.pinned (.plain (OpenSpec.upto numOrderSpec)) numOrderUptoCard

/-- THE SECOND FORM's CARD OF 'feluccalaw01.NumTexts'. -/
def numTextsUptoCard : Claim7 := { stood := { row := numTextsUptoRow, standIns := [], harness := (true, "3d8dd0b457bd3f7b3768261d156f6d66f062dcc9c9e78c87794a602a539e84f3"), looks := false }, kinds := [], alts := [], laidByText := true, laidKinds := [.data, .data, .data], laidTests := true, laidLooks := .later }
def NumTextsUptoCardSaid : Prop := Claim7.holds Tryd.pinned (.plain (OpenSpec.upto numTextsSpec)) numTextsUptoCard

/-- THE SECOND FORM's CARD OF 'feluccalaw04.DirectTells'. -/
def directTellsUptoCard : Claim7 := { stood := { row := directTellsUptoRow, standIns := [], harness := (true, "3d8dd0b457bd3f7b3768261d156f6d66f062dcc9c9e78c87794a602a539e84f3"), looks := false }, kinds := [], alts := [], laidByText := true, laidKinds := [.data, .data, .data], laidTests := true, laidLooks := .later }
def DirectTellsUptoCardSaid : Prop := Claim7.holds Tryd.pinned (.plain (OpenSpec.upto directTellsSpec)) directTellsUptoCard

/-- THE SECOND FORM's CARD OF 'feluccalaw04.DirectBack'. -/
def directBackUptoCard : Claim7 := { stood := { row := directBackUptoRow, standIns := [], harness := (true, "3d8dd0b457bd3f7b3768261d156f6d66f062dcc9c9e78c87794a602a539e84f3"), looks := false }, kinds := [], alts := [], laidByText := true, laidKinds := [.data, .data, .data], laidTests := true, laidLooks := .later }
def DirectBackUptoCardSaid : Prop := Claim7.holds Tryd.pinned (.plain (OpenSpec.upto directBackSpec)) directBackUptoCard

/-- THE SECOND FORM's CARD OF 'feluccalaw04.DirectApart'. -/
def directApartUptoCard : Claim7 := { stood := { row := directApartUptoRow, standIns := [], harness := (true, "3d8dd0b457bd3f7b3768261d156f6d66f062dcc9c9e78c87794a602a539e84f3"), looks := false }, kinds := [], alts := [], laidByText := true, laidKinds := [.data, .data, .data], laidTests := true, laidLooks := .later }
def DirectApartUptoCardSaid : Prop := Claim7.holds Tryd.pinned (.plain (OpenSpec.upto directApartSpec)) directApartUptoCard

/-- THE SECOND FORM's CARD OF 'feluccalaw04.DirectKinds'. -/
def directKindsUptoCard : Claim7 := { stood := { row := directKindsUptoRow, standIns := [], harness := (true, "3d8dd0b457bd3f7b3768261d156f6d66f062dcc9c9e78c87794a602a539e84f3"), looks := false }, kinds := [], alts := [], laidByText := true, laidKinds := [.data, .data, .data], laidTests := true, laidLooks := .later }
def DirectKindsUptoCardSaid : Prop := Claim7.holds Tryd.pinned (.plain (OpenSpec.upto directKindsSpec)) directKindsUptoCard

/-- THE SECOND FORM's CARD OF 'feluccalaw04.DirectShort'. -/
def directShortUptoCard : Claim7 := { stood := { row := directShortUptoRow, standIns := [], harness := (true, "3d8dd0b457bd3f7b3768261d156f6d66f062dcc9c9e78c87794a602a539e84f3"), looks := false }, kinds := [], alts := [], laidByText := true, laidKinds := [.data, .data, .data], laidTests := true, laidLooks := .later }
def DirectShortUptoCardSaid : Prop := Claim7.holds Tryd.pinned (.plain (OpenSpec.upto directShortSpec)) directShortUptoCard
end Rows
end Go.Proofs.YtndijkndllpkgaaDoor
