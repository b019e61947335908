/-
  DERIVED. GIVEN WITH THE SEED: THE CARDS: each row of YtacdldlnnnahkaaDoorRows.lean that lists a variable, with what it lists TIED to the program's text (the seventh form; the later family's looks); each row that meets fmt, with fmt's text TOLD by the authors' own Lean function (tested against real Go, not proved from fmt's source: count such statements apart). THE CARD IS WHAT COUNTS. Prove the row's statement (the work); the ties are given (YtacdldlnnnahkaaDoorTie.lean); close each card by the builder's one call (the guide's Derived/Test/ToyasCard.lean, 'card_holds'). Laid BY PROGRAM, IN A SANDBOX (cutbox-door.mjs). By AI agents, Wed Nov 11 2026. No macro, syntax, notation, axiom, sorry.
-/
import Derived.Test.YtacdldlnnnahkaaDoorRows
import GoSem.ClaimSeven
namespace Go.Proofs.YtacdldlnnnahkaaDoor
namespace Rows

/-- THE TIED CARD OF 'feluccalaw02.WordsTells'. -/
def wordsTellsCard : Claim7 := { stood := { row := wordsTellsRow, standIns := [], harness := (true, "4d113e66f8ff4fa8fa69a896f180733658670d5bd7be0dd6dfa722546c4366bb"), looks := false }, kinds := [], alts := [], laidByText := true, laidKinds := [.data, .pinned], laidTests := true, laidLooks := .later }
def WordsTellsCardSaid : Prop := Claim7.holds Tryd.pinned (.plain (OpenSpec.ofChange wordsTellsSpec)) wordsTellsCard

/-- THE TIED CARD OF 'feluccalaw02.WordsBack'. -/
def wordsBackCard : Claim7 := { stood := { row := wordsBackRow, standIns := [], harness := (true, "4d113e66f8ff4fa8fa69a896f180733658670d5bd7be0dd6dfa722546c4366bb"), looks := false }, kinds := [], alts := [], laidByText := true, laidKinds := [.data, .pinned], laidTests := true, laidLooks := .later }
def WordsBackCardSaid : Prop := Claim7.holds Tryd.pinned (.plain (OpenSpec.ofChange wordsBackSpec)) wordsBackCard

/-- THE TIED CARD OF 'feluccalaw02.WordsPlain'. -/
def wordsPlainCard : Claim7 := { stood := { row := wordsPlainRow, standIns := [], harness := (true, "4d113e66f8ff4fa8fa69a896f180733658670d5bd7be0dd6dfa722546c4366bb"), looks := false }, kinds := [], alts := [], laidByText := true, laidKinds := [.data, .pinned], laidTests := true, laidLooks := .later }
def WordsPlainCardSaid : Prop := Claim7.holds Tryd.pinned (.plain (OpenSpec.ofChange wordsPlainSpec)) wordsPlainCard

/-- THE TIED CARD OF 'feluccalaw02.WordsLines'. -/
def wordsLinesCard : Claim7 := { stood := { row := wordsLinesRow, standIns := [], harness := (true, "4d113e66f8ff4fa8fa69a896f180733658670d5bd7be0dd6dfa722546c4366bb"), looks := false }, kinds := [], alts := [], laidByText := true, laidKinds := [.data, .pinned], laidTests := true, laidLooks := .later }
def WordsLinesCardSaid : Prop := Claim7.holds Tryd.pinned (.plain (OpenSpec.ofChange wordsLinesSpec)) wordsLinesCard

/-- THE TIED CARD OF 'feluccalaw02.WordsCut'. -/
def wordsCutCard : Claim7 := { stood := { row := wordsCutRow, standIns := [], harness := (true, "4d113e66f8ff4fa8fa69a896f180733658670d5bd7be0dd6dfa722546c4366bb"), looks := false }, kinds := [], alts := [], laidByText := true, laidKinds := [.data, .pinned], laidTests := true, laidLooks := .later }
def WordsCutCardSaid : Prop := Claim7.holds Tryd.pinned (.plain (OpenSpec.ofChange wordsCutSpec)) wordsCutCard

/-- THE TIED CARD OF 'feluccalaw05.TextTells'. -/
def textTellsCard : Claim7 := { stood := { row := textTellsRow, standIns := [], harness := (true, "4d113e66f8ff4fa8fa69a896f180733658670d5bd7be0dd6dfa722546c4366bb"), looks := false }, kinds := [], alts := [], laidByText := true, laidKinds := [.data, .data, .data, .data, .pinned], laidTests := true, laidLooks := .later }
def TextTellsCardSaid : Prop := Claim7.holds Tryd.pinned (.plain (OpenSpec.ofChange textTellsSpec)) textTellsCard

/-- THE TIED CARD OF 'feluccalaw05.TextBack'. -/
def textBackCard : Claim7 := { stood := { row := textBackRow, standIns := [], harness := (true, "4d113e66f8ff4fa8fa69a896f180733658670d5bd7be0dd6dfa722546c4366bb"), looks := false }, kinds := [], alts := [], laidByText := true, laidKinds := [.data, .data, .data, .data, .pinned], laidTests := true, laidLooks := .later }
def TextBackCardSaid : Prop := Claim7.holds Tryd.pinned (.plain (OpenSpec.ofChange textBackSpec)) textBackCard

/-- THE TIED CARD OF 'feluccalaw05.TextLines'. -/
def textLinesCard : Claim7 := { stood := { row := textLinesRow, standIns := [], harness := (true, "4d113e66f8ff4fa8fa69a896f180733658670d5bd7be0dd6dfa722546c4366bb"), looks := false }, kinds := [], alts := [], laidByText := true, laidKinds := [.data, .data, .data, .data, .pinned], laidTests := true, laidLooks := .later }
def TextLinesCardSaid : Prop := Claim7.holds Tryd.pinned (.plain (OpenSpec.ofChange textLinesSpec)) textLinesCard

/-- THE TIED CARD OF 'feluccalaw05.TextJoins'. -/
def textJoinsCard : Claim7 := { stood := { row := textJoinsRow, standIns := [], harness := (true, "4d113e66f8ff4fa8fa69a896f180733658670d5bd7be0dd6dfa722546c4366bb"), looks := false }, kinds := [], alts := [], laidByText := true, laidKinds := [.data, .data, .data, .data, .pinned], laidTests := true, laidLooks := .later }
def TextJoinsCardSaid : Prop := Claim7.holds Tryd.pinned (.plain (OpenSpec.ofChange textJoinsSpec)) textJoinsCard

/-- THE TIED CARD OF 'feluccalaw05.TextBlank'. -/
def textBlankCard : Claim7 := { stood := { row := textBlankRow, standIns := [], harness := (true, "4d113e66f8ff4fa8fa69a896f180733658670d5bd7be0dd6dfa722546c4366bb"), looks := false }, kinds := [], alts := [], laidByText := true, laidKinds := [.data, .data, .data, .data, .pinned], laidTests := true, laidLooks := .later }
def TextBlankCardSaid : Prop := Claim7.holds Tryd.pinned (.plain (OpenSpec.ofChange textBlankSpec)) textBlankCard

/-- THE SECOND FORM's CARD OF 'feluccalaw02.WordsTells'. -/
def wordsTellsUptoCard : Claim7 := { stood := { row := wordsTellsUptoRow, standIns := [], harness := (true, "4d113e66f8ff4fa8fa69a896f180733658670d5bd7be0dd6dfa722546c4366bb"), looks := false }, kinds := [], alts := [], laidByText := true, laidKinds := [.data, .pinned], laidTests := true, laidLooks := .later }
def WordsTellsUptoCardSaid : Prop := Claim7.holds Tryd.pinned (.plain (OpenSpec.upto wordsTellsSpec)) wordsTellsUptoCard

/-- THE SECOND FORM's CARD OF 'feluccalaw02.WordsBack'. -/
def wordsBackUptoCard : Claim7 := { stood := { row := wordsBackUptoRow, standIns := [], harness := (true, "4d113e66f8ff4fa8fa69a896f180733658670d5bd7be0dd6dfa722546c4366bb"), looks := false }, kinds := [], alts := [], laidByText := true, laidKinds := [.data, .pinned], laidTests := true, laidLooks := .later }
def WordsBackUptoCardSaid : Prop := Claim7.holds Tryd.pinned (.plain (OpenSpec.upto wordsBackSpec)) wordsBackUptoCard

/-- THE SECOND FORM's CARD OF 'feluccalaw02.WordsPlain'. -/
def wordsPlainUptoCard : Claim7 := { stood := { row := wordsPlainUptoRow, standIns := [], harness := (true, "4d113e66f8ff4fa8fa69a896f180733658670d5bd7be0dd6dfa722546c4366bb"), looks := false }, kinds := [], alts := [], laidByText := true, laidKinds := [.data, .pinned], laidTests := true, laidLooks := .later }
def WordsPlainUptoCardSaid : Prop := Claim7.holds Tryd.pinned (.plain (OpenSpec.upto wordsPlainSpec)) wordsPlainUptoCard

/-- THE SECOND FORM's CARD OF 'feluccalaw02.WordsLines'. -/
def wordsLinesUptoCard : Claim7 := { stood := { row := wordsLinesUptoRow, standIns := [], harness := (true, "4d113e66f8ff4fa8fa69a896f180733658670d5bd7be0dd6dfa722546c4366bb"), looks := false }, kinds := [], alts := [], laidByText := true, laidKinds := [.data, .pinned], laidTests := true, laidLooks := .later }
def WordsLinesUptoCardSaid : Prop := Claim7.holds Tryd.pinned (.plain (OpenSpec.upto wordsLinesSpec)) wordsLinesUptoCard

/-- THE SECOND FORM's CARD OF 'feluccalaw02.WordsCut'. -/
def wordsCutUptoCard : Claim7 := { stood := { row := wordsCutUptoRow, standIns := [], harness := (true, "4d113e66f8ff4fa8fa69a896f180733658670d5bd7be0dd6dfa722546c4366bb"), looks := false }, kinds := [], alts := [], laidByText := true, laidKinds := [.data, .pinned], laidTests := true, laidLooks := .later }
def WordsCutUptoCardSaid : Prop := Claim7.holds Tryd.pinned (.plain (OpenSpec.upto wordsCutSpec)) wordsCutUptoCard

/-- THE SECOND FORM's CARD OF 'feluccalaw05.TextTells'. -/
def textTellsUptoCard : Claim7 := { stood := { row := textTellsUptoRow, standIns := [], harness := (true, "4d113e66f8ff4fa8fa69a896f180733658670d5bd7be0dd6dfa722546c4366bb"), looks := false }, kinds := [], alts := [], laidByText := true, laidKinds := [.data, .data, .data, .data, .pinned], laidTests := true, laidLooks := .later }
def TextTellsUptoCardSaid : Prop := Claim7.holds Tryd.pinned (.plain (OpenSpec.upto textTellsSpec)) textTellsUptoCard

/-- THE SECOND FORM's CARD OF 'feluccalaw05.TextBack'. -/
def textBackUptoCard : Claim7 := { stood := { row := textBackUptoRow, standIns := [], harness := (true, "4d113e66f8ff4fa8fa69a896f180733658670d5bd7be0dd6dfa722546c4366bb"), looks := false }, kinds := [], alts := [], laidByText := true, laidKinds := [.data, .data, .data, .data, .pinned], laidTests := true, laidLooks := .later }
def TextBackUptoCardSaid : Prop := Claim7.holds Tryd.pinned (.plain (OpenSpec.upto textBackSpec)) textBackUptoCard

/-- THE SECOND FORM's CARD OF 'feluccalaw05.TextLines'. -/
def textLinesUptoCard : Claim7 := { stood := { row := textLinesUptoRow, standIns := [], harness := (true, "4d113e66f8ff4fa8fa69a896f180733658670d5bd7be0dd6dfa722546c4366bb"), looks := false }, kinds := [], alts := [], laidByText := true, laidKinds := [.data, .data, .data, .data, .pinned], laidTests := true, laidLooks := .later }
def TextLinesUptoCardSaid : Prop := Claim7.holds Tryd.pinned (.plain (OpenSpec.upto textLinesSpec)) textLinesUptoCard

/-- THE SECOND FORM's CARD OF 'feluccalaw05.TextJoins'. -/
def textJoinsUptoCard : Claim7 := { stood := { row := textJoinsUptoRow, standIns := [], harness := (true, "4d113e66f8ff4fa8fa69a896f180733658670d5bd7be0dd6dfa722546c4366bb"), looks := false }, kinds := [], alts := [], laidByText := true, laidKinds := [.data, .data, .data, .data, .pinned], laidTests := true, laidLooks := .later }
def TextJoinsUptoCardSaid : Prop := Claim7.holds Tryd.pinned (.plain (OpenSpec.upto textJoinsSpec)) textJoinsUptoCard

/-- THE SECOND FORM's CARD OF 'feluccalaw05.TextBlank'. -/
def textBlankUptoCard : Claim7 := { stood := { row := textBlankUptoRow, standIns := [], harness := (true, "4d113e66f8ff4fa8fa69a896f180733658670d5bd7be0dd6dfa722546c4366bb"), looks := false }, kinds := [], alts := [], laidByText := true, laidKinds := [.data, .data, .data, .data, .pinned], laidTests := true, laidLooks := .later }
def TextBlankUptoCardSaid : Prop := Claim7.holds Tryd.pinned (.plain (OpenSpec.upto textBlankSpec)) textBlankUptoCard
end Rows
end Go.Proofs.YtacdldlnnnahkaaDoor
