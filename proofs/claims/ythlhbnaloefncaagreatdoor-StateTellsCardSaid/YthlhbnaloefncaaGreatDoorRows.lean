/-
  NARROWER THAN 'FOR EVERY INPUT', by the rows' own cells (each row's printed sentence says how): StateTells: laid · StateRight: laid · StateBack: laid · StateLoads: laid · StateBounds: laid · StateTime: laid · StateTurns: laid.
  DERIVED. THE GIVEN ROWS OF THIS SEAT. 7 by the template 'for every input the law returns true; each argument reads behind the call as it read before'; 0 by the template 'total and deterministic' (their statements: YthlhbnaloefncaaGreatDoorTotals.lean).
  GIVEN WITH THE SEED: the statements are not yours to turn. If you find one false, say at which input.
  Laid BY PROGRAM, IN A SANDBOX (cutbox-rows.mjs): the forced cells as the released guide's own fill.sh prints them over the translation 598205b89848cd2b… (all of the seat's roots in one cut). By AI agents, Wed Nov 11 2026. No macro, syntax, notation, axiom, sorry.
-/
import Derived.Test.YthlhbnaloefncaaGreatDoorChecked
import GoSem.PinnedTables
import GoSem.Claim
import GoSem.ClaimJoined
import GoSem.ClaimMapViews
import Derived.JoinedTies
import Derived.KernelRfl
namespace Go.Proofs.YthlhbnaloefncaaGreatDoor
/- THE CELL 'sum', in the pinned program and in every row, IS THE sha256 OF THE DUMP (.gsa) THAT YthlhbnaloefncaaGreatDoorProg.lean LOADS. Nothing in Lean hashes anything: it is a label: what it is worth is what the hold of that sum in a sandbox is worth. -/
noncomputable def Tryz.pinned : Pinned := { name := "ythlhbnaloefncaagreatdoor", sum := "598205b89848cd2be1d2f7ed8f1bfc9b1dfffeeeccf0b735167d74c30f514e93", checked := Tryz.checked }
namespace Rows
def none {H : Type} : Left H := { results := [], args := [] }

/- WHAT THE LISTED PACKAGE-LEVEL VARIABLES READ AS WHEN THE CALL BEGINS. Each datum BY PROGRAM (the guide's laid-datum.mjs) off the statement by which the dump's own 'gosem.cut.vars' lays the variable. In a bare row this is a premise. The card (YthlhbnaloefncaaGreatDoorCards.lean) ties it to the program's text. -/
def laid_unicode_utf8_acceptRanges {H : Type} : DataW H := .agg [.agg [.lit (.int .u8 128), .lit (.int .u8 191)], .agg [.lit (.int .u8 160), .lit (.int .u8 191)], .agg [.lit (.int .u8 128), .lit (.int .u8 159)], .agg [.lit (.int .u8 144), .lit (.int .u8 191)], .agg [.lit (.int .u8 128), .lit (.int .u8 143)], .agg [.lit (.int .u8 0), .lit (.int .u8 0)], .agg [.lit (.int .u8 0), .lit (.int .u8 0)], .agg [.lit (.int .u8 0), .lit (.int .u8 0)], .agg [.lit (.int .u8 0), .lit (.int .u8 0)], .agg [.lit (.int .u8 0), .lit (.int .u8 0)], .agg [.lit (.int .u8 0), .lit (.int .u8 0)], .agg [.lit (.int .u8 0), .lit (.int .u8 0)], .agg [.lit (.int .u8 0), .lit (.int .u8 0)], .agg [.lit (.int .u8 0), .lit (.int .u8 0)], .agg [.lit (.int .u8 0), .lit (.int .u8 0)], .agg [.lit (.int .u8 0), .lit (.int .u8 0)]]
/-- One of Go's own tables, pinned by name: the form's constant. -/
def laid_unicode_utf8_first : DataW Unit := Go.Pinned.utf8First

/-- 'feluccalaw21.StateTells': WHATEVER THE INPUT: true; the input reads as it did. -/
def stateTellsSpec : ChangeSpec := { name := "stateTells", fn := fun _ => fun
  | [d1, d2, d3] => { results := [.lit (.bool true)], args := [d1, d2, d3] }
  | _ => none }
def stateTellsRow : OpenClaim := { program := "ythlhbnaloefncaagreatdoor", sum := "598205b89848cd2be1d2f7ed8f1bfc9b1dfffeeeccf0b735167d74c30f514e93", func := "felucca/feluccalaw21.StateTells", spec := "stateTells", inPlace := ["internal/bytealg.CountString", "internal/bytealg.IndexByteString", "internal/bytealg.IndexString", "slices.overlaps[felucca/api.Contact]", "slices.overlaps[felucca/api.Range]"], unfollowed := true, recurses := true, named := ["unicode/utf8.first", "unicode/utf8.acceptRanges", "internal/bytealg.MaxLen"], plainKeys := false, apart := false, laid := [("unicode/utf8.acceptRanges", laid_unicode_utf8_acceptRanges), ("unicode/utf8.first", laid_unicode_utf8_first)] }
def StateTellsSaid : Prop := stateTellsRow.holds Tryz.pinned (OpenSpec.ofChange stateTellsSpec)

/-- ITS FALSE NEIGHBOUR: 'it returns false'. Refute it at one input. -/
def stateTellsWrong : ChangeSpec := { name := "stateTells", fn := fun _ => fun
  | [d1, d2, d3] => { results := [.lit (.bool false)], args := [d1, d2, d3] }
  | _ => none }
def StateTellsWrongFalsely : Prop := stateTellsRow.holds Tryz.pinned (OpenSpec.ofChange stateTellsWrong)

/-- 'feluccalaw21.StateRight': WHATEVER THE INPUT: true; the input reads as it did. -/
def stateRightSpec : ChangeSpec := { name := "stateRight", fn := fun _ => fun
  | [d1, d2] => { results := [.lit (.bool true)], args := [d1, d2] }
  | _ => none }
def stateRightRow : OpenClaim := { program := "ythlhbnaloefncaagreatdoor", sum := "598205b89848cd2be1d2f7ed8f1bfc9b1dfffeeeccf0b735167d74c30f514e93", func := "felucca/feluccalaw21.StateRight", spec := "stateRight", inPlace := ["internal/bytealg.CountString", "internal/bytealg.IndexByteString", "internal/bytealg.IndexString", "slices.overlaps[felucca/api.Contact]", "slices.overlaps[felucca/api.Range]"], unfollowed := true, recurses := true, named := ["unicode/utf8.first", "unicode/utf8.acceptRanges", "internal/bytealg.MaxLen"], plainKeys := false, apart := false, laid := [("unicode/utf8.acceptRanges", laid_unicode_utf8_acceptRanges), ("unicode/utf8.first", laid_unicode_utf8_first)] }
def StateRightSaid : Prop := stateRightRow.holds Tryz.pinned (OpenSpec.ofChange stateRightSpec)

/-- ITS FALSE NEIGHBOUR: 'it returns false'. Refute it at one input. -/
def stateRightWrong : ChangeSpec := { name := "stateRight", fn := fun _ => fun
  | [d1, d2] => { results := [.lit (.bool false)], args := [d1, d2] }
  | _ => none }
def StateRightWrongFalsely : Prop := stateRightRow.holds Tryz.pinned (OpenSpec.ofChange stateRightWrong)

/-- 'feluccalaw21.StateBack': WHATEVER THE INPUT: true; the input reads as it did. -/
def stateBackSpec : ChangeSpec := { name := "stateBack", fn := fun _ => fun
  | [d1, d2, d3, d4] => { results := [.lit (.bool true)], args := [d1, d2, d3, d4] }
  | _ => none }
def stateBackRow : OpenClaim := { program := "ythlhbnaloefncaagreatdoor", sum := "598205b89848cd2be1d2f7ed8f1bfc9b1dfffeeeccf0b735167d74c30f514e93", func := "felucca/feluccalaw21.StateBack", spec := "stateBack", inPlace := ["internal/bytealg.CountString", "internal/bytealg.IndexByteString", "internal/bytealg.IndexString", "slices.overlaps[felucca/api.Contact]", "slices.overlaps[felucca/api.Range]"], unfollowed := true, recurses := true, named := ["unicode/utf8.first", "unicode/utf8.acceptRanges", "internal/bytealg.MaxLen"], plainKeys := false, apart := false, laid := [("unicode/utf8.acceptRanges", laid_unicode_utf8_acceptRanges), ("unicode/utf8.first", laid_unicode_utf8_first)] }
def StateBackSaid : Prop := stateBackRow.holds Tryz.pinned (OpenSpec.ofChange stateBackSpec)

/-- ITS FALSE NEIGHBOUR: 'it returns false'. Refute it at one input. -/
def stateBackWrong : ChangeSpec := { name := "stateBack", fn := fun _ => fun
  | [d1, d2, d3, d4] => { results := [.lit (.bool false)], args := [d1, d2, d3, d4] }
  | _ => none }
def StateBackWrongFalsely : Prop := stateBackRow.holds Tryz.pinned (OpenSpec.ofChange stateBackWrong)

/-- 'feluccalaw21.StateLoads': WHATEVER THE INPUT: true; the input reads as it did. -/
def stateLoadsSpec : ChangeSpec := { name := "stateLoads", fn := fun _ => fun
  | [d1, d2] => { results := [.lit (.bool true)], args := [d1, d2] }
  | _ => none }
def stateLoadsRow : OpenClaim := { program := "ythlhbnaloefncaagreatdoor", sum := "598205b89848cd2be1d2f7ed8f1bfc9b1dfffeeeccf0b735167d74c30f514e93", func := "felucca/feluccalaw21.StateLoads", spec := "stateLoads", inPlace := ["internal/bytealg.CountString", "internal/bytealg.IndexByteString", "internal/bytealg.IndexString", "slices.overlaps[felucca/api.Contact]", "slices.overlaps[felucca/api.Range]"], unfollowed := true, recurses := true, named := ["unicode/utf8.first", "unicode/utf8.acceptRanges", "internal/bytealg.MaxLen"], plainKeys := false, apart := false, laid := [("unicode/utf8.acceptRanges", laid_unicode_utf8_acceptRanges), ("unicode/utf8.first", laid_unicode_utf8_first)] }
def StateLoadsSaid : Prop := stateLoadsRow.holds Tryz.pinned (OpenSpec.ofChange stateLoadsSpec)

/-- ITS FALSE NEIGHBOUR: 'it returns false'. Refute it at one input. -/
def stateLoadsWrong : ChangeSpec := { name := "stateLoads", fn := fun _ => fun
  | [d1, d2] => { results := [.lit (.bool false)], args := [d1, d2] }
  | _ => none }
def StateLoadsWrongFalsely : Prop := stateLoadsRow.holds Tryz.pinned (OpenSpec.ofChange stateLoadsWrong)

/-- 'feluccalaw21.StateBounds': WHATEVER THE INPUT: true; the input reads as it did. -/
def stateBoundsSpec : ChangeSpec := { name := "stateBounds", fn := fun _ => fun
  | [d1, d2, d3] => { results := [.lit (.bool true)], args := [d1, d2, d3] }
  | _ => none }
def stateBoundsRow : OpenClaim := { program := "ythlhbnaloefncaagreatdoor", sum := "598205b89848cd2be1d2f7ed8f1bfc9b1dfffeeeccf0b735167d74c30f514e93", func := "felucca/feluccalaw21.StateBounds", spec := "stateBounds", inPlace := ["internal/bytealg.CountString", "internal/bytealg.IndexByteString", "internal/bytealg.IndexString", "slices.overlaps[felucca/api.Contact]", "slices.overlaps[felucca/api.Range]"], unfollowed := true, recurses := true, named := ["unicode/utf8.first", "unicode/utf8.acceptRanges", "internal/bytealg.MaxLen"], plainKeys := false, apart := false, laid := [("unicode/utf8.acceptRanges", laid_unicode_utf8_acceptRanges), ("unicode/utf8.first", laid_unicode_utf8_first)] }
def StateBoundsSaid : Prop := stateBoundsRow.holds Tryz.pinned (OpenSpec.ofChange stateBoundsSpec)

/-- ITS FALSE NEIGHBOUR: 'it returns false'. Refute it at one input. -/
def stateBoundsWrong : ChangeSpec := { name := "stateBounds", fn := fun _ => fun
  | [d1, d2, d3] => { results := [.lit (.bool false)], args := [d1, d2, d3] }
  | _ => none }
def StateBoundsWrongFalsely : Prop := stateBoundsRow.holds Tryz.pinned (OpenSpec.ofChange stateBoundsWrong)

/-- 'feluccalaw21.StateTime': WHATEVER THE INPUT: true; the input reads as it did. -/
def stateTimeSpec : ChangeSpec := { name := "stateTime", fn := fun _ => fun
  | [d1, d2, d3] => { results := [.lit (.bool true)], args := [d1, d2, d3] }
  | _ => none }
def stateTimeRow : OpenClaim := { program := "ythlhbnaloefncaagreatdoor", sum := "598205b89848cd2be1d2f7ed8f1bfc9b1dfffeeeccf0b735167d74c30f514e93", func := "felucca/feluccalaw21.StateTime", spec := "stateTime", inPlace := ["internal/bytealg.CountString", "internal/bytealg.IndexByteString", "internal/bytealg.IndexString", "slices.overlaps[felucca/api.Contact]", "slices.overlaps[felucca/api.Range]"], unfollowed := true, recurses := true, named := ["unicode/utf8.first", "unicode/utf8.acceptRanges", "internal/bytealg.MaxLen"], plainKeys := false, apart := false, laid := [("unicode/utf8.acceptRanges", laid_unicode_utf8_acceptRanges), ("unicode/utf8.first", laid_unicode_utf8_first)] }
def StateTimeSaid : Prop := stateTimeRow.holds Tryz.pinned (OpenSpec.ofChange stateTimeSpec)

/-- ITS FALSE NEIGHBOUR: 'it returns false'. Refute it at one input. -/
def stateTimeWrong : ChangeSpec := { name := "stateTime", fn := fun _ => fun
  | [d1, d2, d3] => { results := [.lit (.bool false)], args := [d1, d2, d3] }
  | _ => none }
def StateTimeWrongFalsely : Prop := stateTimeRow.holds Tryz.pinned (OpenSpec.ofChange stateTimeWrong)

/-- 'feluccalaw21.StateTurns': WHATEVER THE INPUT: true; the input reads as it did. -/
def stateTurnsSpec : ChangeSpec := { name := "stateTurns", fn := fun _ => fun
  | [d1, d2, d3, d4, d5] => { results := [.lit (.bool true)], args := [d1, d2, d3, d4, d5] }
  | _ => none }
def stateTurnsRow : OpenClaim := { program := "ythlhbnaloefncaagreatdoor", sum := "598205b89848cd2be1d2f7ed8f1bfc9b1dfffeeeccf0b735167d74c30f514e93", func := "felucca/feluccalaw21.StateTurns", spec := "stateTurns", inPlace := ["internal/bytealg.CountString", "internal/bytealg.IndexByteString", "internal/bytealg.IndexString", "slices.overlaps[felucca/api.Contact]", "slices.overlaps[felucca/api.Range]"], unfollowed := true, recurses := true, named := ["unicode/utf8.first", "unicode/utf8.acceptRanges", "internal/bytealg.MaxLen"], plainKeys := false, apart := false, laid := [("unicode/utf8.acceptRanges", laid_unicode_utf8_acceptRanges), ("unicode/utf8.first", laid_unicode_utf8_first)] }
def StateTurnsSaid : Prop := stateTurnsRow.holds Tryz.pinned (OpenSpec.ofChange stateTurnsSpec)

/-- ITS FALSE NEIGHBOUR: 'it returns false'. Refute it at one input. -/
def stateTurnsWrong : ChangeSpec := { name := "stateTurns", fn := fun _ => fun
  | [d1, d2, d3, d4, d5] => { results := [.lit (.bool false)], args := [d1, d2, d3, d4, d5] }
  | _ => none }
def StateTurnsWrongFalsely : Prop := stateTurnsRow.holds Tryz.pinned (OpenSpec.ofChange stateTurnsWrong)

/- THE SECOND FORM. 'bulk': how many values and letters a reading holds, each counted each time it is reached (what is shared counts as often as it is met; a slice's spare places count too). A statement '..UptoSaid' is the law's where the arguments, and the package variables that the reading takes, are together of bulk at most 1048576: NARROWER than '..Said'. Prove '..Said' where nothing that the law and all that it calls make is longer than what came in: it says more and counts as full. Else prove '..UptoSaid'. A law counts once. -/
mutual
def uptoBulk {H : Type} : DataW H → Nat
  | .lit (.string bytes) => bytes.length + 1
  | .lit _ => 1
  | .nil => 1
  | .ptr d => uptoBulk d + 1
  | .slice elems spare => uptoBulkAll elems + uptoBulkAll spare + 1
  | .agg parts => uptoBulkAll parts + 1
  | .iface _ d => uptoBulk d + 1
  | .map entries => uptoBulkEntries entries + 1
  | .held _ => 1
def uptoBulkAll {H : Type} : List (DataW H) → Nat
  | [] => 0
  | d :: r => uptoBulk d + uptoBulkAll r
def uptoBulkEntries {H : Type} : List (Lit × DataW H) → Nat
  | [] => 0
  | x :: r => uptoBulkEntry x + uptoBulkEntries r
def uptoBulkEntry {H : Type} : Lit × DataW H → Nat
  | (.string bytes, d) => bytes.length + uptoBulk d + 1
  | (_, d) => uptoBulk d + 1
 end
def uptoSmall : (H : Type) → List (DataW H) → Bool := fun _ ds => decide (uptoBulkAll ds ≤ 1048576)
def OpenSpec.upto (s : _root_.Go.ChangeSpec) : _root_.Go.OpenSpec := { _root_.Go.OpenSpec.ofChange s with cond := some uptoSmall }

/-- 'feluccalaw21.StateTells', WHERE WHAT IT READS IS OF BULK AT MOST 1048576: true; the input reads as it did. -/
def stateTellsUptoRow : OpenClaim := { program := "ythlhbnaloefncaagreatdoor", sum := "598205b89848cd2be1d2f7ed8f1bfc9b1dfffeeeccf0b735167d74c30f514e93", func := "felucca/feluccalaw21.StateTells", spec := "stateTells", inPlace := ["internal/bytealg.CountString", "internal/bytealg.IndexByteString", "internal/bytealg.IndexString", "slices.overlaps[felucca/api.Contact]", "slices.overlaps[felucca/api.Range]"], unfollowed := true, recurses := true, named := ["unicode/utf8.first", "unicode/utf8.acceptRanges", "internal/bytealg.MaxLen"], plainKeys := false, apart := false, laid := [("unicode/utf8.acceptRanges", laid_unicode_utf8_acceptRanges), ("unicode/utf8.first", laid_unicode_utf8_first)], narrowed := true }
def StateTellsUptoSaid : Prop := stateTellsUptoRow.holds Tryz.pinned (OpenSpec.upto stateTellsSpec)

/-- 'feluccalaw21.StateRight', WHERE WHAT IT READS IS OF BULK AT MOST 1048576: true; the input reads as it did. -/
def stateRightUptoRow : OpenClaim := { program := "ythlhbnaloefncaagreatdoor", sum := "598205b89848cd2be1d2f7ed8f1bfc9b1dfffeeeccf0b735167d74c30f514e93", func := "felucca/feluccalaw21.StateRight", spec := "stateRight", inPlace := ["internal/bytealg.CountString", "internal/bytealg.IndexByteString", "internal/bytealg.IndexString", "slices.overlaps[felucca/api.Contact]", "slices.overlaps[felucca/api.Range]"], unfollowed := true, recurses := true, named := ["unicode/utf8.first", "unicode/utf8.acceptRanges", "internal/bytealg.MaxLen"], plainKeys := false, apart := false, laid := [("unicode/utf8.acceptRanges", laid_unicode_utf8_acceptRanges), ("unicode/utf8.first", laid_unicode_utf8_first)], narrowed := true }
def StateRightUptoSaid : Prop := stateRightUptoRow.holds Tryz.pinned (OpenSpec.upto stateRightSpec)

/-- 'feluccalaw21.StateBack', WHERE WHAT IT READS IS OF BULK AT MOST 1048576: true; the input reads as it did. -/
def stateBackUptoRow : OpenClaim := { program := "ythlhbnaloefncaagreatdoor", sum := "598205b89848cd2be1d2f7ed8f1bfc9b1dfffeeeccf0b735167d74c30f514e93", func := "felucca/feluccalaw21.StateBack", spec := "stateBack", inPlace := ["internal/bytealg.CountString", "internal/bytealg.IndexByteString", "internal/bytealg.IndexString", "slices.overlaps[felucca/api.Contact]", "slices.overlaps[felucca/api.Range]"], unfollowed := true, recurses := true, named := ["unicode/utf8.first", "unicode/utf8.acceptRanges", "internal/bytealg.MaxLen"], plainKeys := false, apart := false, laid := [("unicode/utf8.acceptRanges", laid_unicode_utf8_acceptRanges), ("unicode/utf8.first", laid_unicode_utf8_first)], narrowed := true }
def StateBackUptoSaid : Prop := stateBackUptoRow.holds Tryz.pinned (OpenSpec.upto stateBackSpec)

/-- 'feluccalaw21.StateLoads', WHERE WHAT IT READS IS OF BULK AT MOST 1048576: true; the input reads as it did. -/
def stateLoadsUptoRow : OpenClaim := { program := "ythlhbnaloefncaagreatdoor", sum := "598205b89848cd2be1d2f7ed8f1bfc9b1dfffeeeccf0b735167d74c30f514e93", func := "felucca/feluccalaw21.StateLoads", spec := "stateLoads", inPlace := ["internal/bytealg.CountString", "internal/bytealg.IndexByteString", "internal/bytealg.IndexString", "slices.overlaps[felucca/api.Contact]", "slices.overlaps[felucca/api.Range]"], unfollowed := true, recurses := true, named := ["unicode/utf8.first", "unicode/utf8.acceptRanges", "internal/bytealg.MaxLen"], plainKeys := false, apart := false, laid := [("unicode/utf8.acceptRanges", laid_unicode_utf8_acceptRanges), ("unicode/utf8.first", laid_unicode_utf8_first)], narrowed := true }
def StateLoadsUptoSaid : Prop := stateLoadsUptoRow.holds Tryz.pinned (OpenSpec.upto stateLoadsSpec)

/-- 'feluccalaw21.StateBounds', WHERE WHAT IT READS IS OF BULK AT MOST 1048576: true; the input reads as it did. -/
def stateBoundsUptoRow : OpenClaim := { program := "ythlhbnaloefncaagreatdoor", sum := "598205b89848cd2be1d2f7ed8f1bfc9b1dfffeeeccf0b735167d74c30f514e93", func := "felucca/feluccalaw21.StateBounds", spec := "stateBounds", inPlace := ["internal/bytealg.CountString", "internal/bytealg.IndexByteString", "internal/bytealg.IndexString", "slices.overlaps[felucca/api.Contact]", "slices.overlaps[felucca/api.Range]"], unfollowed := true, recurses := true, named := ["unicode/utf8.first", "unicode/utf8.acceptRanges", "internal/bytealg.MaxLen"], plainKeys := false, apart := false, laid := [("unicode/utf8.acceptRanges", laid_unicode_utf8_acceptRanges), ("unicode/utf8.first", laid_unicode_utf8_first)], narrowed := true }
def StateBoundsUptoSaid : Prop := stateBoundsUptoRow.holds Tryz.pinned (OpenSpec.upto stateBoundsSpec)

/-- 'feluccalaw21.StateTime', WHERE WHAT IT READS IS OF BULK AT MOST 1048576: true; the input reads as it did. -/
def stateTimeUptoRow : OpenClaim := { program := "ythlhbnaloefncaagreatdoor", sum := "598205b89848cd2be1d2f7ed8f1bfc9b1dfffeeeccf0b735167d74c30f514e93", func := "felucca/feluccalaw21.StateTime", spec := "stateTime", inPlace := ["internal/bytealg.CountString", "internal/bytealg.IndexByteString", "internal/bytealg.IndexString", "slices.overlaps[felucca/api.Contact]", "slices.overlaps[felucca/api.Range]"], unfollowed := true, recurses := true, named := ["unicode/utf8.first", "unicode/utf8.acceptRanges", "internal/bytealg.MaxLen"], plainKeys := false, apart := false, laid := [("unicode/utf8.acceptRanges", laid_unicode_utf8_acceptRanges), ("unicode/utf8.first", laid_unicode_utf8_first)], narrowed := true }
def StateTimeUptoSaid : Prop := stateTimeUptoRow.holds Tryz.pinned (OpenSpec.upto stateTimeSpec)

/-- 'feluccalaw21.StateTurns', WHERE WHAT IT READS IS OF BULK AT MOST 1048576: true; the input reads as it did. -/
def stateTurnsUptoRow : OpenClaim := { program := "ythlhbnaloefncaagreatdoor", sum := "598205b89848cd2be1d2f7ed8f1bfc9b1dfffeeeccf0b735167d74c30f514e93", func := "felucca/feluccalaw21.StateTurns", spec := "stateTurns", inPlace := ["internal/bytealg.CountString", "internal/bytealg.IndexByteString", "internal/bytealg.IndexString", "slices.overlaps[felucca/api.Contact]", "slices.overlaps[felucca/api.Range]"], unfollowed := true, recurses := true, named := ["unicode/utf8.first", "unicode/utf8.acceptRanges", "internal/bytealg.MaxLen"], plainKeys := false, apart := false, laid := [("unicode/utf8.acceptRanges", laid_unicode_utf8_acceptRanges), ("unicode/utf8.first", laid_unicode_utf8_first)], narrowed := true }
def StateTurnsUptoSaid : Prop := stateTurnsUptoRow.holds Tryz.pinned (OpenSpec.upto stateTurnsSpec)

end Rows
end Go.Proofs.YthlhbnaloefncaaGreatDoor
