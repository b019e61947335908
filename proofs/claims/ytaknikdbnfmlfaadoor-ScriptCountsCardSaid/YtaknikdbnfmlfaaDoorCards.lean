/-
  DERIVED. GIVEN WITH THE SEED: THE CARDS: each row of YtaknikdbnfmlfaaDoorRows.lean that lists a variable, with what it lists TIED to the program's text (the seventh form; the later family's looks); each row that meets fmt, with fmt's text TOLD by the authors' own Lean function (tested against real Go, not proved from fmt's source: count such statements apart). THE CARD IS WHAT COUNTS. Prove the row's statement (the work); the ties are given (YtaknikdbnfmlfaaDoorTie.lean); close each card by the builder's one call (the guide's Derived/Test/ToyasCard.lean, 'card_holds'). Laid BY PROGRAM, IN A SANDBOX (cutbox-door.mjs). By AI agents, Wed Nov 11 2026. No macro, syntax, notation, axiom, sorry.
-/
import Derived.Test.YtaknikdbnfmlfaaDoorRows
import GoSem.ClaimSeven
namespace Go.Proofs.YtaknikdbnfmlfaaDoor
namespace Rows

/-- THE TIED CARD OF 'feluccalaw04.DirectTells'. -/
def directTellsCard : Claim7 := { stood := { row := directTellsRow, standIns := [], harness := (true, "d80caa8e10a744bba9d025721475d5e3aaea36d919095dfad0b93e2570a28365"), looks := false }, kinds := [], alts := [], laidByText := true, laidKinds := [.data, .data, .data], laidTests := true, laidLooks := .later }
def DirectTellsCardSaid : Prop := Claim7.holds Tryd.pinned (.plain (OpenSpec.ofChange directTellsSpec)) directTellsCard

/-- THE TIED CARD OF 'feluccalaw25.ScriptTells'. -/
def scriptTellsCard : Claim7 := { stood := { row := scriptTellsRow, standIns := [], harness := (true, "d80caa8e10a744bba9d025721475d5e3aaea36d919095dfad0b93e2570a28365"), looks := false }, kinds := [], alts := [], laidByText := true, laidKinds := [.data, .data, .data], laidTests := true, laidLooks := .later }
def ScriptTellsCardSaid : Prop := Claim7.holds Tryd.pinned (.plain (OpenSpec.ofChange scriptTellsSpec)) scriptTellsCard

/-- THE TIED CARD OF 'feluccalaw25.ScriptParts'. -/
def scriptPartsCard : Claim7 := { stood := { row := scriptPartsRow, standIns := [], harness := (true, "d80caa8e10a744bba9d025721475d5e3aaea36d919095dfad0b93e2570a28365"), looks := false }, kinds := [], alts := [], laidByText := true, laidKinds := [.data, .data, .data], laidTests := true, laidLooks := .later }
def ScriptPartsCardSaid : Prop := Claim7.holds Tryd.pinned (.plain (OpenSpec.ofChange scriptPartsSpec)) scriptPartsCard

/-- THE TIED CARD OF 'feluccalaw25.ScriptOnes'. -/
def scriptOnesCard : Claim7 := { stood := { row := scriptOnesRow, standIns := [], harness := (true, "d80caa8e10a744bba9d025721475d5e3aaea36d919095dfad0b93e2570a28365"), looks := false }, kinds := [], alts := [], laidByText := true, laidKinds := [.data, .data, .data], laidTests := true, laidLooks := .later }
def ScriptOnesCardSaid : Prop := Claim7.holds Tryd.pinned (.plain (OpenSpec.ofChange scriptOnesSpec)) scriptOnesCard

/-- THE TIED CARD OF 'feluccalaw05.TextTells'. -/
def textTellsCard : Claim7 := { stood := { row := textTellsRow, standIns := [], harness := (true, "d80caa8e10a744bba9d025721475d5e3aaea36d919095dfad0b93e2570a28365"), looks := false }, kinds := [], alts := [], laidByText := true, laidKinds := [.data, .data, .data, .data, .pinned], laidTests := true, laidLooks := .later }
def TextTellsCardSaid : Prop := Claim7.holds Tryd.pinned (.plain (OpenSpec.ofChange textTellsSpec)) textTellsCard

/-- THE TIED CARD OF 'feluccalaw05.TextBack'. -/
def textBackCard : Claim7 := { stood := { row := textBackRow, standIns := [], harness := (true, "d80caa8e10a744bba9d025721475d5e3aaea36d919095dfad0b93e2570a28365"), looks := false }, kinds := [], alts := [], laidByText := true, laidKinds := [.data, .data, .data, .data, .pinned], laidTests := true, laidLooks := .later }
def TextBackCardSaid : Prop := Claim7.holds Tryd.pinned (.plain (OpenSpec.ofChange textBackSpec)) textBackCard

/-- THE TIED CARD OF 'feluccalaw05.TextLines'. -/
def textLinesCard : Claim7 := { stood := { row := textLinesRow, standIns := [], harness := (true, "d80caa8e10a744bba9d025721475d5e3aaea36d919095dfad0b93e2570a28365"), looks := false }, kinds := [], alts := [], laidByText := true, laidKinds := [.data, .data, .data, .data, .pinned], laidTests := true, laidLooks := .later }
def TextLinesCardSaid : Prop := Claim7.holds Tryd.pinned (.plain (OpenSpec.ofChange textLinesSpec)) textLinesCard

/-- THE TIED CARD OF 'feluccalaw05.TextJoins'. -/
def textJoinsCard : Claim7 := { stood := { row := textJoinsRow, standIns := [], harness := (true, "d80caa8e10a744bba9d025721475d5e3aaea36d919095dfad0b93e2570a28365"), looks := false }, kinds := [], alts := [], laidByText := true, laidKinds := [.data, .data, .data, .data, .pinned], laidTests := true, laidLooks := .later }
def TextJoinsCardSaid : Prop := Claim7.holds Tryd.pinned (.plain (OpenSpec.ofChange textJoinsSpec)) textJoinsCard

/-- THE TIED CARD OF 'feluccalaw05.TextBlank'. -/
def textBlankCard : Claim7 := { stood := { row := textBlankRow, standIns := [], harness := (true, "d80caa8e10a744bba9d025721475d5e3aaea36d919095dfad0b93e2570a28365"), looks := false }, kinds := [], alts := [], laidByText := true, laidKinds := [.data, .data, .data, .data, .pinned], laidTests := true, laidLooks := .later }
def TextBlankCardSaid : Prop := Claim7.holds Tryd.pinned (.plain (OpenSpec.ofChange textBlankSpec)) textBlankCard

/-- THE TIED CARD OF 'feluccalaw25.ScriptCounts'. -/
def scriptCountsCard : Claim7 := { stood := { row := scriptCountsRow, standIns := [], harness := (true, "d80caa8e10a744bba9d025721475d5e3aaea36d919095dfad0b93e2570a28365"), looks := false }, kinds := [], alts := [], laidByText := true, laidKinds := [.data, .data, .data, .data, .pinned], laidTests := true, laidLooks := .later }
def ScriptCountsCardSaid : Prop := Claim7.holds Tryd.pinned (.plain (OpenSpec.ofChange scriptCountsSpec)) scriptCountsCard

/-- THE SECOND FORM's CARD OF 'feluccalaw04.DirectTells'. -/
def directTellsUptoCard : Claim7 := { stood := { row := directTellsUptoRow, standIns := [], harness := (true, "d80caa8e10a744bba9d025721475d5e3aaea36d919095dfad0b93e2570a28365"), looks := false }, kinds := [], alts := [], laidByText := true, laidKinds := [.data, .data, .data], laidTests := true, laidLooks := .later }
def DirectTellsUptoCardSaid : Prop := Claim7.holds Tryd.pinned (.plain (OpenSpec.upto directTellsSpec)) directTellsUptoCard

/-- THE SECOND FORM's CARD OF 'feluccalaw25.ScriptTells'. -/
def scriptTellsUptoCard : Claim7 := { stood := { row := scriptTellsUptoRow, standIns := [], harness := (true, "d80caa8e10a744bba9d025721475d5e3aaea36d919095dfad0b93e2570a28365"), looks := false }, kinds := [], alts := [], laidByText := true, laidKinds := [.data, .data, .data], laidTests := true, laidLooks := .later }
def ScriptTellsUptoCardSaid : Prop := Claim7.holds Tryd.pinned (.plain (OpenSpec.upto scriptTellsSpec)) scriptTellsUptoCard

/-- THE SECOND FORM's CARD OF 'feluccalaw25.ScriptParts'. -/
def scriptPartsUptoCard : Claim7 := { stood := { row := scriptPartsUptoRow, standIns := [], harness := (true, "d80caa8e10a744bba9d025721475d5e3aaea36d919095dfad0b93e2570a28365"), looks := false }, kinds := [], alts := [], laidByText := true, laidKinds := [.data, .data, .data], laidTests := true, laidLooks := .later }
def ScriptPartsUptoCardSaid : Prop := Claim7.holds Tryd.pinned (.plain (OpenSpec.upto scriptPartsSpec)) scriptPartsUptoCard

/-- THE SECOND FORM's CARD OF 'feluccalaw25.ScriptOnes'. -/
def scriptOnesUptoCard : Claim7 := { stood := { row := scriptOnesUptoRow, standIns := [], harness := (true, "d80caa8e10a744bba9d025721475d5e3aaea36d919095dfad0b93e2570a28365"), looks := false }, kinds := [], alts := [], laidByText := true, laidKinds := [.data, .data, .data], laidTests := true, laidLooks := .later }
def ScriptOnesUptoCardSaid : Prop := Claim7.holds Tryd.pinned (.plain (OpenSpec.upto scriptOnesSpec)) scriptOnesUptoCard

/-- THE SECOND FORM's CARD OF 'feluccalaw05.TextTells'. -/
def textTellsUptoCard : Claim7 := { stood := { row := textTellsUptoRow, standIns := [], harness := (true, "d80caa8e10a744bba9d025721475d5e3aaea36d919095dfad0b93e2570a28365"), looks := false }, kinds := [], alts := [], laidByText := true, laidKinds := [.data, .data, .data, .data, .pinned], laidTests := true, laidLooks := .later }
def TextTellsUptoCardSaid : Prop := Claim7.holds Tryd.pinned (.plain (OpenSpec.upto textTellsSpec)) textTellsUptoCard

/-- THE SECOND FORM's CARD OF 'feluccalaw05.TextBack'. -/
def textBackUptoCard : Claim7 := { stood := { row := textBackUptoRow, standIns := [], harness := (true, "d80caa8e10a744bba9d025721475d5e3aaea36d919095dfad0b93e2570a28365"), looks := false }, kinds := [], alts := [], laidByText := true, laidKinds := [.data, .data, .data, .data, .pinned], laidTests := true, laidLooks := .later }
def TextBackUptoCardSaid : Prop := Claim7.holds Tryd.pinned (.plain (OpenSpec.upto textBackSpec)) textBackUptoCard

/-- THE SECOND FORM's CARD OF 'feluccalaw05.TextLines'. -/
def textLinesUptoCard : Claim7 := { stood := { row := textLinesUptoRow, standIns := [], harness := (true, "d80caa8e10a744bba9d025721475d5e3aaea36d919095dfad0b93e2570a28365"), looks := false }, kinds := [], alts := [], laidByText := true, laidKinds := [.data, .data, .data, .data, .pinned], laidTests := true, laidLooks := .later }
def TextLinesUptoCardSaid : Prop := Claim7.holds Tryd.pinned (.plain (OpenSpec.upto textLinesSpec)) textLinesUptoCard

/-- THE SECOND FORM's CARD OF 'feluccalaw05.TextJoins'. -/
def textJoinsUptoCard : Claim7 := { stood := { row := textJoinsUptoRow, standIns := [], harness := (true, "d80caa8e10a744bba9d025721475d5e3aaea36d919095dfad0b93e2570a28365"), looks := false }, kinds := [], alts := [], laidByText := true, laidKinds := [.data, .data, .data, .data, .pinned], laidTests := true, laidLooks := .later }
def TextJoinsUptoCardSaid : Prop := Claim7.holds Tryd.pinned (.plain (OpenSpec.upto textJoinsSpec)) textJoinsUptoCard

/-- THE SECOND FORM's CARD OF 'feluccalaw05.TextBlank'. -/
def textBlankUptoCard : Claim7 := { stood := { row := textBlankUptoRow, standIns := [], harness := (true, "d80caa8e10a744bba9d025721475d5e3aaea36d919095dfad0b93e2570a28365"), looks := false }, kinds := [], alts := [], laidByText := true, laidKinds := [.data, .data, .data, .data, .pinned], laidTests := true, laidLooks := .later }
def TextBlankUptoCardSaid : Prop := Claim7.holds Tryd.pinned (.plain (OpenSpec.upto textBlankSpec)) textBlankUptoCard

/-- THE SECOND FORM's CARD OF 'feluccalaw25.ScriptCounts'. -/
def scriptCountsUptoCard : Claim7 := { stood := { row := scriptCountsUptoRow, standIns := [], harness := (true, "d80caa8e10a744bba9d025721475d5e3aaea36d919095dfad0b93e2570a28365"), looks := false }, kinds := [], alts := [], laidByText := true, laidKinds := [.data, .data, .data, .data, .pinned], laidTests := true, laidLooks := .later }
def ScriptCountsUptoCardSaid : Prop := Claim7.holds Tryd.pinned (.plain (OpenSpec.upto scriptCountsSpec)) scriptCountsUptoCard
end Rows
end Go.Proofs.YtaknikdbnfmlfaaDoor
