/-
  No cell of these rows narrows 'for every input' (looked for: loops, veiled, ifaces, maps, wideKeys, modest, calm, conditions, laid).
  DERIVED. THE GIVEN ROWS OF THIS SEAT. 12 by the template 'for every input the law returns true; each argument reads behind the call as it read before'; 0 by the template 'total and deterministic' (their statements: YtggikacbelogcaaTotals.lean).
  GIVEN WITH THE SEED: the statements are not yours to turn. If you find one false, say at which input.
  Laid BY PROGRAM, IN A SANDBOX (cutbox-rows.mjs): the forced cells as the released guide's own fill.sh prints them over the translation be13bb6276be6217… (all of the seat's roots in one cut). By AI agents, Wed Nov 11 2026. No macro, syntax, notation, axiom, sorry.
-/
import Derived.Test.YtggikacbelogcaaChecked
import GoSem.Claim
import GoSem.ClaimJoined
import GoSem.ClaimMapViews
import Derived.JoinedTies
import Derived.KernelRfl
namespace Go.Proofs.Ytggikacbelogcaa
/- THE CELL 'sum', in the pinned program and in every row, IS THE sha256 OF THE DUMP (.gsa) THAT YtggikacbelogcaaProg.lean LOADS. Nothing in Lean hashes anything: it is a label: what it is worth is what the hold of that sum in a sandbox is worth. -/
noncomputable def Try.pinned : Pinned := { name := "ytggikacbelogcaa", sum := "be13bb6276be6217c21db5d6200dca6c524682fa2b5beffce4ea0b0c4a321797", checked := Try.checked }
namespace Rows
def none {H : Type} : Left H := { results := [], args := [] }

/-- 'feluccalaw06.ContactsTells': WHATEVER THE INPUT: true; the input reads as it did. -/
def contactsTellsSpec : ChangeSpec := { name := "contactsTells", fn := fun _ => fun
  | [d1, d2, d3] => { results := [.lit (.bool true)], args := [d1, d2, d3] }
  | _ => none }
def contactsTellsRow : OpenClaim := { program := "ytggikacbelogcaa", sum := "be13bb6276be6217c21db5d6200dca6c524682fa2b5beffce4ea0b0c4a321797", func := "felucca/feluccalaw06.ContactsTells", spec := "contactsTells", inPlace := ["slices.overlaps[felucca/api.Contact]"], unfollowed := true, recurses := true, plainKeys := false, apart := false }
def ContactsTellsSaid : Prop := contactsTellsRow.holds Try.pinned (OpenSpec.ofChange contactsTellsSpec)

/-- ITS FALSE NEIGHBOUR: 'it returns false'. Refute it at one input. -/
def contactsTellsWrong : ChangeSpec := { name := "contactsTells", fn := fun _ => fun
  | [d1, d2, d3] => { results := [.lit (.bool false)], args := [d1, d2, d3] }
  | _ => none }
def ContactsTellsWrongFalsely : Prop := contactsTellsRow.holds Try.pinned (OpenSpec.ofChange contactsTellsWrong)

/-- 'feluccalaw06.ContactsRight': WHATEVER THE INPUT: true; the input reads as it did. -/
def contactsRightSpec : ChangeSpec := { name := "contactsRight", fn := fun _ => fun
  | [d1, d2] => { results := [.lit (.bool true)], args := [d1, d2] }
  | _ => none }
def contactsRightRow : OpenClaim := { program := "ytggikacbelogcaa", sum := "be13bb6276be6217c21db5d6200dca6c524682fa2b5beffce4ea0b0c4a321797", func := "felucca/feluccalaw06.ContactsRight", spec := "contactsRight", inPlace := ["slices.overlaps[felucca/api.Contact]"], unfollowed := true, recurses := true, plainKeys := false, apart := false }
def ContactsRightSaid : Prop := contactsRightRow.holds Try.pinned (OpenSpec.ofChange contactsRightSpec)

/-- ITS FALSE NEIGHBOUR: 'it returns false'. Refute it at one input. -/
def contactsRightWrong : ChangeSpec := { name := "contactsRight", fn := fun _ => fun
  | [d1, d2] => { results := [.lit (.bool false)], args := [d1, d2] }
  | _ => none }
def ContactsRightWrongFalsely : Prop := contactsRightRow.holds Try.pinned (OpenSpec.ofChange contactsRightWrong)

/-- 'feluccalaw06.ContactsOrder': WHATEVER THE INPUT: true; the input reads as it did. -/
def contactsOrderSpec : ChangeSpec := { name := "contactsOrder", fn := fun _ => fun
  | [d1, d2, d3] => { results := [.lit (.bool true)], args := [d1, d2, d3] }
  | _ => none }
def contactsOrderRow : OpenClaim := { program := "ytggikacbelogcaa", sum := "be13bb6276be6217c21db5d6200dca6c524682fa2b5beffce4ea0b0c4a321797", func := "felucca/feluccalaw06.ContactsOrder", spec := "contactsOrder", inPlace := ["slices.overlaps[felucca/api.Contact]"], unfollowed := true, recurses := true, plainKeys := false, apart := false }
def ContactsOrderSaid : Prop := contactsOrderRow.holds Try.pinned (OpenSpec.ofChange contactsOrderSpec)

/-- ITS FALSE NEIGHBOUR: 'it returns false'. Refute it at one input. -/
def contactsOrderWrong : ChangeSpec := { name := "contactsOrder", fn := fun _ => fun
  | [d1, d2, d3] => { results := [.lit (.bool false)], args := [d1, d2, d3] }
  | _ => none }
def ContactsOrderWrongFalsely : Prop := contactsOrderRow.holds Try.pinned (OpenSpec.ofChange contactsOrderWrong)

/-- 'feluccalaw06.ContactsExpires': WHATEVER THE INPUT: true; the input reads as it did. -/
def contactsExpiresSpec : ChangeSpec := { name := "contactsExpires", fn := fun _ => fun
  | [d1, d2, d3] => { results := [.lit (.bool true)], args := [d1, d2, d3] }
  | _ => none }
def contactsExpiresRow : OpenClaim := { program := "ytggikacbelogcaa", sum := "be13bb6276be6217c21db5d6200dca6c524682fa2b5beffce4ea0b0c4a321797", func := "felucca/feluccalaw06.ContactsExpires", spec := "contactsExpires", inPlace := ["slices.overlaps[felucca/api.Contact]"], unfollowed := true, recurses := true, plainKeys := false, apart := false }
def ContactsExpiresSaid : Prop := contactsExpiresRow.holds Try.pinned (OpenSpec.ofChange contactsExpiresSpec)

/-- ITS FALSE NEIGHBOUR: 'it returns false'. Refute it at one input. -/
def contactsExpiresWrong : ChangeSpec := { name := "contactsExpires", fn := fun _ => fun
  | [d1, d2, d3] => { results := [.lit (.bool false)], args := [d1, d2, d3] }
  | _ => none }
def ContactsExpiresWrongFalsely : Prop := contactsExpiresRow.holds Try.pinned (OpenSpec.ofChange contactsExpiresWrong)

/-- 'feluccalaw06.ContactsTwice': WHATEVER THE INPUT: true; the input reads as it did. -/
def contactsTwiceSpec : ChangeSpec := { name := "contactsTwice", fn := fun _ => fun
  | [d1, d2] => { results := [.lit (.bool true)], args := [d1, d2] }
  | _ => none }
def contactsTwiceRow : OpenClaim := { program := "ytggikacbelogcaa", sum := "be13bb6276be6217c21db5d6200dca6c524682fa2b5beffce4ea0b0c4a321797", func := "felucca/feluccalaw06.ContactsTwice", spec := "contactsTwice", inPlace := ["slices.overlaps[felucca/api.Contact]"], unfollowed := true, recurses := true, plainKeys := false, apart := false }
def ContactsTwiceSaid : Prop := contactsTwiceRow.holds Try.pinned (OpenSpec.ofChange contactsTwiceSpec)

/-- ITS FALSE NEIGHBOUR: 'it returns false'. Refute it at one input. -/
def contactsTwiceWrong : ChangeSpec := { name := "contactsTwice", fn := fun _ => fun
  | [d1, d2] => { results := [.lit (.bool false)], args := [d1, d2] }
  | _ => none }
def ContactsTwiceWrongFalsely : Prop := contactsTwiceRow.holds Try.pinned (OpenSpec.ofChange contactsTwiceWrong)

/-- 'feluccalaw06.ContactsFinds': WHATEVER THE INPUT: true; the input reads as it did. -/
def contactsFindsSpec : ChangeSpec := { name := "contactsFinds", fn := fun _ => fun
  | [d1, d2] => { results := [.lit (.bool true)], args := [d1, d2] }
  | _ => none }
def contactsFindsRow : OpenClaim := { program := "ytggikacbelogcaa", sum := "be13bb6276be6217c21db5d6200dca6c524682fa2b5beffce4ea0b0c4a321797", func := "felucca/feluccalaw06.ContactsFinds", spec := "contactsFinds", inPlace := ["slices.overlaps[felucca/api.Contact]"], unfollowed := true, recurses := true, plainKeys := false, apart := false }
def ContactsFindsSaid : Prop := contactsFindsRow.holds Try.pinned (OpenSpec.ofChange contactsFindsSpec)

/-- ITS FALSE NEIGHBOUR: 'it returns false'. Refute it at one input. -/
def contactsFindsWrong : ChangeSpec := { name := "contactsFinds", fn := fun _ => fun
  | [d1, d2] => { results := [.lit (.bool false)], args := [d1, d2] }
  | _ => none }
def ContactsFindsWrongFalsely : Prop := contactsFindsRow.holds Try.pinned (OpenSpec.ofChange contactsFindsWrong)

/-- 'feluccalaw08.PlanRight': WHATEVER THE INPUT: true; the input reads as it did. -/
def planRightSpec : ChangeSpec := { name := "planRight", fn := fun _ => fun
  | [d1, d2] => { results := [.lit (.bool true)], args := [d1, d2] }
  | _ => none }
def planRightRow : OpenClaim := { program := "ytggikacbelogcaa", sum := "be13bb6276be6217c21db5d6200dca6c524682fa2b5beffce4ea0b0c4a321797", func := "felucca/feluccalaw08.PlanRight", spec := "planRight", inPlace := ["slices.overlaps[felucca/api.Contact]", "slices.overlaps[felucca/api.Range]"], unfollowed := true, recurses := true, plainKeys := false, apart := false }
def PlanRightSaid : Prop := planRightRow.holds Try.pinned (OpenSpec.ofChange planRightSpec)

/-- ITS FALSE NEIGHBOUR: 'it returns false'. Refute it at one input. -/
def planRightWrong : ChangeSpec := { name := "planRight", fn := fun _ => fun
  | [d1, d2] => { results := [.lit (.bool false)], args := [d1, d2] }
  | _ => none }
def PlanRightWrongFalsely : Prop := planRightRow.holds Try.pinned (OpenSpec.ofChange planRightWrong)

/-- 'feluccalaw08.PlanLists': WHATEVER THE INPUT: true; the input reads as it did. -/
def planListsSpec : ChangeSpec := { name := "planLists", fn := fun _ => fun
  | [d] => { results := [.lit (.bool true)], args := [d] }
  | _ => none }
def planListsRow : OpenClaim := { program := "ytggikacbelogcaa", sum := "be13bb6276be6217c21db5d6200dca6c524682fa2b5beffce4ea0b0c4a321797", func := "felucca/feluccalaw08.PlanLists", spec := "planLists", inPlace := ["slices.overlaps[felucca/api.Contact]", "slices.overlaps[felucca/api.Range]"], unfollowed := true, recurses := true, plainKeys := false, apart := false }
def PlanListsSaid : Prop := planListsRow.holds Try.pinned (OpenSpec.ofChange planListsSpec)

/-- ITS FALSE NEIGHBOUR: 'it returns false'. Refute it at one input. -/
def planListsWrong : ChangeSpec := { name := "planLists", fn := fun _ => fun
  | [d] => { results := [.lit (.bool false)], args := [d] }
  | _ => none }
def PlanListsWrongFalsely : Prop := planListsRow.holds Try.pinned (OpenSpec.ofChange planListsWrong)

/-- 'feluccalaw08.PlanWhole': WHATEVER THE INPUT: true; the input reads as it did. -/
def planWholeSpec : ChangeSpec := { name := "planWhole", fn := fun _ => fun
  | [d1, d2] => { results := [.lit (.bool true)], args := [d1, d2] }
  | _ => none }
def planWholeRow : OpenClaim := { program := "ytggikacbelogcaa", sum := "be13bb6276be6217c21db5d6200dca6c524682fa2b5beffce4ea0b0c4a321797", func := "felucca/feluccalaw08.PlanWhole", spec := "planWhole", inPlace := ["slices.overlaps[felucca/api.Contact]", "slices.overlaps[felucca/api.Range]"], unfollowed := true, recurses := true, plainKeys := false, apart := false }
def PlanWholeSaid : Prop := planWholeRow.holds Try.pinned (OpenSpec.ofChange planWholeSpec)

/-- ITS FALSE NEIGHBOUR: 'it returns false'. Refute it at one input. -/
def planWholeWrong : ChangeSpec := { name := "planWhole", fn := fun _ => fun
  | [d1, d2] => { results := [.lit (.bool false)], args := [d1, d2] }
  | _ => none }
def PlanWholeWrongFalsely : Prop := planWholeRow.holds Try.pinned (OpenSpec.ofChange planWholeWrong)

/-- 'feluccalaw08.PlanSkips': WHATEVER THE INPUT: true; the input reads as it did. -/
def planSkipsSpec : ChangeSpec := { name := "planSkips", fn := fun _ => fun
  | [d1, d2, d3] => { results := [.lit (.bool true)], args := [d1, d2, d3] }
  | _ => none }
def planSkipsRow : OpenClaim := { program := "ytggikacbelogcaa", sum := "be13bb6276be6217c21db5d6200dca6c524682fa2b5beffce4ea0b0c4a321797", func := "felucca/feluccalaw08.PlanSkips", spec := "planSkips", inPlace := ["slices.overlaps[felucca/api.Contact]", "slices.overlaps[felucca/api.Range]"], unfollowed := true, recurses := true, plainKeys := false, apart := false }
def PlanSkipsSaid : Prop := planSkipsRow.holds Try.pinned (OpenSpec.ofChange planSkipsSpec)

/-- ITS FALSE NEIGHBOUR: 'it returns false'. Refute it at one input. -/
def planSkipsWrong : ChangeSpec := { name := "planSkips", fn := fun _ => fun
  | [d1, d2, d3] => { results := [.lit (.bool false)], args := [d1, d2, d3] }
  | _ => none }
def PlanSkipsWrongFalsely : Prop := planSkipsRow.holds Try.pinned (OpenSpec.ofChange planSkipsWrong)

/-- 'feluccalaw08.PlanTwice': WHATEVER THE INPUT: true; the input reads as it did. -/
def planTwiceSpec : ChangeSpec := { name := "planTwice", fn := fun _ => fun
  | [d1, d2] => { results := [.lit (.bool true)], args := [d1, d2] }
  | _ => none }
def planTwiceRow : OpenClaim := { program := "ytggikacbelogcaa", sum := "be13bb6276be6217c21db5d6200dca6c524682fa2b5beffce4ea0b0c4a321797", func := "felucca/feluccalaw08.PlanTwice", spec := "planTwice", inPlace := ["slices.overlaps[felucca/api.Contact]", "slices.overlaps[felucca/api.Range]"], unfollowed := true, recurses := true, plainKeys := false, apart := false }
def PlanTwiceSaid : Prop := planTwiceRow.holds Try.pinned (OpenSpec.ofChange planTwiceSpec)

/-- ITS FALSE NEIGHBOUR: 'it returns false'. Refute it at one input. -/
def planTwiceWrong : ChangeSpec := { name := "planTwice", fn := fun _ => fun
  | [d1, d2] => { results := [.lit (.bool false)], args := [d1, d2] }
  | _ => none }
def PlanTwiceWrongFalsely : Prop := planTwiceRow.holds Try.pinned (OpenSpec.ofChange planTwiceWrong)

/-- 'feluccalaw08.PlanEnds': WHATEVER THE INPUT: true; the input reads as it did. -/
def planEndsSpec : ChangeSpec := { name := "planEnds", fn := fun _ => fun
  | [d1, d2] => { results := [.lit (.bool true)], args := [d1, d2] }
  | _ => none }
def planEndsRow : OpenClaim := { program := "ytggikacbelogcaa", sum := "be13bb6276be6217c21db5d6200dca6c524682fa2b5beffce4ea0b0c4a321797", func := "felucca/feluccalaw08.PlanEnds", spec := "planEnds", inPlace := ["slices.overlaps[felucca/api.Contact]", "slices.overlaps[felucca/api.Range]"], unfollowed := true, recurses := true, plainKeys := false, apart := false }
def PlanEndsSaid : Prop := planEndsRow.holds Try.pinned (OpenSpec.ofChange planEndsSpec)

/-- ITS FALSE NEIGHBOUR: 'it returns false'. Refute it at one input. -/
def planEndsWrong : ChangeSpec := { name := "planEnds", fn := fun _ => fun
  | [d1, d2] => { results := [.lit (.bool false)], args := [d1, d2] }
  | _ => none }
def PlanEndsWrongFalsely : Prop := planEndsRow.holds Try.pinned (OpenSpec.ofChange planEndsWrong)

/- THE SECOND FORM. 'bulk': how many values and letters a reading holds, each counted each time it is reached (what is shared counts as often as it is met; a slice's spare places count too). A statement '..UptoSaid' is the law's where the arguments, and the package variables that the reading takes, are together of bulk at most 1048576: NARROWER than '..Said'. Prove '..Said' where nothing that the law and all that it calls make is longer than what came in: it says more and counts as full. Else prove '..UptoSaid'. A law counts once. -/
mutual
def uptoBulk {H : Type} : DataW H → Nat
  | .lit (.string bytes) => bytes.length + 1
  | .lit _ => 1
  | .nil => 1
  | .ptr d => uptoBulk d + 1
  | .slice elems spare => uptoBulkAll elems + uptoBulkAll spare + 1
  | .agg parts => uptoBulkAll parts + 1
  | .iface _ d => uptoBulk d + 1
  | .map entries => uptoBulkEntries entries + 1
  | .held _ => 1
def uptoBulkAll {H : Type} : List (DataW H) → Nat
  | [] => 0
  | d :: r => uptoBulk d + uptoBulkAll r
def uptoBulkEntries {H : Type} : List (Lit × DataW H) → Nat
  | [] => 0
  | x :: r => uptoBulkEntry x + uptoBulkEntries r
def uptoBulkEntry {H : Type} : Lit × DataW H → Nat
  | (.string bytes, d) => bytes.length + uptoBulk d + 1
  | (_, d) => uptoBulk d + 1
 end
def uptoSmall : (H : Type) → List (DataW H) → Bool := fun _ ds => decide (uptoBulkAll ds ≤ 1048576)
def OpenSpec.upto (s : _root_.Go.ChangeSpec) : _root_.Go.OpenSpec := { _root_.Go.OpenSpec.ofChange s with cond := some uptoSmall }

/-- 'feluccalaw06.ContactsTells', WHERE WHAT IT READS IS OF BULK AT MOST 1048576: true; the input reads as it did. -/
def contactsTellsUptoRow : OpenClaim := { program := "ytggikacbelogcaa", sum := "be13bb6276be6217c21db5d6200dca6c524682fa2b5beffce4ea0b0c4a321797", func := "felucca/feluccalaw06.ContactsTells", spec := "contactsTells", inPlace := ["slices.overlaps[felucca/api.Contact]"], unfollowed := true, recurses := true, plainKeys := false, apart := false, narrowed := true }
def ContactsTellsUptoSaid : Prop := contactsTellsUptoRow.holds Try.pinned (OpenSpec.upto contactsTellsSpec)

/-- 'feluccalaw06.ContactsRight', WHERE WHAT IT READS IS OF BULK AT MOST 1048576: true; the input reads as it did. -/
def contactsRightUptoRow : OpenClaim := { program := "ytggikacbelogcaa", sum := "be13bb6276be6217c21db5d6200dca6c524682fa2b5beffce4ea0b0c4a321797", func := "felucca/feluccalaw06.ContactsRight", spec := "contactsRight", inPlace := ["slices.overlaps[felucca/api.Contact]"], unfollowed := true, recurses := true, plainKeys := false, apart := false, narrowed := true }
def ContactsRightUptoSaid : Prop := contactsRightUptoRow.holds Try.pinned (OpenSpec.upto contactsRightSpec)

/-- 'feluccalaw06.ContactsOrder', WHERE WHAT IT READS IS OF BULK AT MOST 1048576: true; the input reads as it did. -/
def contactsOrderUptoRow : OpenClaim := { program := "ytggikacbelogcaa", sum := "be13bb6276be6217c21db5d6200dca6c524682fa2b5beffce4ea0b0c4a321797", func := "felucca/feluccalaw06.ContactsOrder", spec := "contactsOrder", inPlace := ["slices.overlaps[felucca/api.Contact]"], unfollowed := true, recurses := true, plainKeys := false, apart := false, narrowed := true }
def ContactsOrderUptoSaid : Prop := contactsOrderUptoRow.holds Try.pinned (OpenSpec.upto contactsOrderSpec)

/-- 'feluccalaw06.ContactsExpires', WHERE WHAT IT READS IS OF BULK AT MOST 1048576: true; the input reads as it did. -/
def contactsExpiresUptoRow : OpenClaim := { program := "ytggikacbelogcaa", sum := "be13bb6276be6217c21db5d6200dca6c524682fa2b5beffce4ea0b0c4a321797", func := "felucca/feluccalaw06.ContactsExpires", spec := "contactsExpires", inPlace := ["slices.overlaps[felucca/api.Contact]"], unfollowed := true, recurses := true, plainKeys := false, apart := false, narrowed := true }
def ContactsExpiresUptoSaid : Prop := contactsExpiresUptoRow.holds Try.pinned (OpenSpec.upto contactsExpiresSpec)

/-- 'feluccalaw06.ContactsTwice', WHERE WHAT IT READS IS OF BULK AT MOST 1048576: true; the input reads as it did. -/
def contactsTwiceUptoRow : OpenClaim := { program := "ytggikacbelogcaa", sum := "be13bb6276be6217c21db5d6200dca6c524682fa2b5beffce4ea0b0c4a321797", func := "felucca/feluccalaw06.ContactsTwice", spec := "contactsTwice", inPlace := ["slices.overlaps[felucca/api.Contact]"], unfollowed := true, recurses := true, plainKeys := false, apart := false, narrowed := true }
def ContactsTwiceUptoSaid : Prop := contactsTwiceUptoRow.holds Try.pinned (OpenSpec.upto contactsTwiceSpec)

/-- 'feluccalaw06.ContactsFinds', WHERE WHAT IT READS IS OF BULK AT MOST 1048576: true; the input reads as it did. -/
def contactsFindsUptoRow : OpenClaim := { program := "ytggikacbelogcaa", sum := "be13bb6276be6217c21db5d6200dca6c524682fa2b5beffce4ea0b0c4a321797", func := "felucca/feluccalaw06.ContactsFinds", spec := "contactsFinds", inPlace := ["slices.overlaps[felucca/api.Contact]"], unfollowed := true, recurses := true, plainKeys := false, apart := false, narrowed := true }
def ContactsFindsUptoSaid : Prop := contactsFindsUptoRow.holds Try.pinned (OpenSpec.upto contactsFindsSpec)

/-- 'feluccalaw08.PlanRight', WHERE WHAT IT READS IS OF BULK AT MOST 1048576: true; the input reads as it did. -/
def planRightUptoRow : OpenClaim := { program := "ytggikacbelogcaa", sum := "be13bb6276be6217c21db5d6200dca6c524682fa2b5beffce4ea0b0c4a321797", func := "felucca/feluccalaw08.PlanRight", spec := "planRight", inPlace := ["slices.overlaps[felucca/api.Contact]", "slices.overlaps[felucca/api.Range]"], unfollowed := true, recurses := true, plainKeys := false, apart := false, narrowed := true }
def PlanRightUptoSaid : Prop := planRightUptoRow.holds Try.pinned (OpenSpec.upto planRightSpec)

/-- 'feluccalaw08.PlanLists', WHERE WHAT IT READS IS OF BULK AT MOST 1048576: true; the input reads as it did. -/
def planListsUptoRow : OpenClaim := { program := "ytggikacbelogcaa", sum := "be13bb6276be6217c21db5d6200dca6c524682fa2b5beffce4ea0b0c4a321797", func := "felucca/feluccalaw08.PlanLists", spec := "planLists", inPlace := ["slices.overlaps[felucca/api.Contact]", "slices.overlaps[felucca/api.Range]"], unfollowed := true, recurses := true, plainKeys := false, apart := false, narrowed := true }
def PlanListsUptoSaid : Prop := planListsUptoRow.holds Try.pinned (OpenSpec.upto planListsSpec)

/-- 'feluccalaw08.PlanWhole', WHERE WHAT IT READS IS OF BULK AT MOST 1048576: true; the input reads as it did. -/
def planWholeUptoRow : OpenClaim := { program := "ytggikacbelogcaa", sum := "be13bb6276be6217c21db5d6200dca6c524682fa2b5beffce4ea0b0c4a321797", func := "felucca/feluccalaw08.PlanWhole", spec := "planWhole", inPlace := ["slices.overlaps[felucca/api.Contact]", "slices.overlaps[felucca/api.Range]"], unfollowed := true, recurses := true, plainKeys := false, apart := false, narrowed := true }
def PlanWholeUptoSaid : Prop := planWholeUptoRow.holds Try.pinned (OpenSpec.upto planWholeSpec)

/-- 'feluccalaw08.PlanSkips', WHERE WHAT IT READS IS OF BULK AT MOST 1048576: true; the input reads as it did. -/
def planSkipsUptoRow : OpenClaim := { program := "ytggikacbelogcaa", sum := "be13bb6276be6217c21db5d6200dca6c524682fa2b5beffce4ea0b0c4a321797", func := "felucca/feluccalaw08.PlanSkips", spec := "planSkips", inPlace := ["slices.overlaps[felucca/api.Contact]", "slices.overlaps[felucca/api.Range]"], unfollowed := true, recurses := true, plainKeys := false, apart := false, narrowed := true }
def PlanSkipsUptoSaid : Prop := planSkipsUptoRow.holds Try.pinned (OpenSpec.upto planSkipsSpec)

/-- 'feluccalaw08.PlanTwice', WHERE WHAT IT READS IS OF BULK AT MOST 1048576: true; the input reads as it did. -/
def planTwiceUptoRow : OpenClaim := { program := "ytggikacbelogcaa", sum := "be13bb6276be6217c21db5d6200dca6c524682fa2b5beffce4ea0b0c4a321797", func := "felucca/feluccalaw08.PlanTwice", spec := "planTwice", inPlace := ["slices.overlaps[felucca/api.Contact]", "slices.overlaps[felucca/api.Range]"], unfollowed := true, recurses := true, plainKeys := false, apart := false, narrowed := true }
def PlanTwiceUptoSaid : Prop := planTwiceUptoRow.holds Try.pinned (OpenSpec.upto planTwiceSpec)

/-- 'feluccalaw08.PlanEnds', WHERE WHAT IT READS IS OF BULK AT MOST 1048576: true; the input reads as it did. -/
def planEndsUptoRow : OpenClaim := { program := "ytggikacbelogcaa", sum := "be13bb6276be6217c21db5d6200dca6c524682fa2b5beffce4ea0b0c4a321797", func := "felucca/feluccalaw08.PlanEnds", spec := "planEnds", inPlace := ["slices.overlaps[felucca/api.Contact]", "slices.overlaps[felucca/api.Range]"], unfollowed := true, recurses := true, plainKeys := false, apart := false, narrowed := true }
def PlanEndsUptoSaid : Prop := planEndsUptoRow.holds Try.pinned (OpenSpec.upto planEndsSpec)

end Rows
end Go.Proofs.Ytggikacbelogcaa
