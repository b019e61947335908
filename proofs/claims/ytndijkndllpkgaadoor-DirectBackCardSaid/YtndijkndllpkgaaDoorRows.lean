/-
  NARROWER THAN 'FOR EVERY INPUT', by the rows' own cells (each row's printed sentence says how): NumTells: laid · NumBack: laid · NumCeils: laid · NumClamps: laid · NumOrder: laid · NumTexts: laid · DirectTells: laid · DirectBack: laid · DirectApart: laid · DirectKinds: laid · DirectShort: laid.
  DERIVED. THE GIVEN ROWS OF THIS SEAT. 11 by the template 'for every input the law returns true; each argument reads behind the call as it read before'; 0 by the template 'total and deterministic' (their statements: YtndijkndllpkgaaDoorTotals.lean).
  GIVEN WITH THE SEED: the statements are not yours to turn. If you find one false, say at which input.
  Laid BY PROGRAM, IN A SANDBOX (cutbox-rows.mjs): the forced cells as the released guide's own fill.sh prints them over the translation efc7a7237a4910b9… (all of the seat's roots in one cut). By AI agents, Wed Nov 11 2026. No macro, syntax, notation, axiom, sorry.
-/
import Derived.Test.YtndijkndllpkgaaDoorChecked
import GoSem.Claim
import GoSem.ClaimJoined
import GoSem.ClaimMapViews
import Derived.JoinedTies
import Derived.KernelRfl
namespace Go.Proofs.YtndijkndllpkgaaDoor
/- THE CELL 'sum', in the pinned program and in every row, IS THE sha256 OF THE DUMP (.gsa) THAT YtndijkndllpkgaaDoorProg.lean LOADS. Nothing in Lean hashes anything: it is a label: what it is worth is what the hold of that sum in a sandbox is worth. -/
noncomputable def Tryd.pinned : Pinned := { name := "ytndijkndllpkgaadoor", sum := "efc7a7237a4910b92b35d3a5289dd7fce82a7a2514ee1a3482614e75baa5e81b", checked := Tryd.checked }
namespace Rows
def none {H : Type} : Left H := { results := [], args := [] }

/- WHAT THE LISTED PACKAGE-LEVEL VARIABLES READ AS WHEN THE CALL BEGINS. Each datum BY PROGRAM (the guide's laid-datum.mjs) off the statement by which the dump's own 'gosem.cut.vars' lays the variable. In a bare row this is a premise. The card (YtndijkndllpkgaaDoorCards.lean) ties it to the program's text. -/
def laid_math_bits_deBruijn32tab {H : Type} : DataW H := .agg [.lit (.int .u8 0), .lit (.int .u8 1), .lit (.int .u8 28), .lit (.int .u8 2), .lit (.int .u8 29), .lit (.int .u8 14), .lit (.int .u8 24), .lit (.int .u8 3), .lit (.int .u8 30), .lit (.int .u8 22), .lit (.int .u8 20), .lit (.int .u8 15), .lit (.int .u8 25), .lit (.int .u8 17), .lit (.int .u8 4), .lit (.int .u8 8), .lit (.int .u8 31), .lit (.int .u8 27), .lit (.int .u8 13), .lit (.int .u8 23), .lit (.int .u8 21), .lit (.int .u8 19), .lit (.int .u8 16), .lit (.int .u8 7), .lit (.int .u8 26), .lit (.int .u8 12), .lit (.int .u8 18), .lit (.int .u8 6), .lit (.int .u8 11), .lit (.int .u8 5), .lit (.int .u8 10), .lit (.int .u8 9)]
def laid_math_bits_deBruijn64tab {H : Type} : DataW H := .agg [.lit (.int .u8 0), .lit (.int .u8 1), .lit (.int .u8 56), .lit (.int .u8 2), .lit (.int .u8 57), .lit (.int .u8 49), .lit (.int .u8 28), .lit (.int .u8 3), .lit (.int .u8 61), .lit (.int .u8 58), .lit (.int .u8 42), .lit (.int .u8 50), .lit (.int .u8 38), .lit (.int .u8 29), .lit (.int .u8 17), .lit (.int .u8 4), .lit (.int .u8 62), .lit (.int .u8 47), .lit (.int .u8 59), .lit (.int .u8 36), .lit (.int .u8 45), .lit (.int .u8 43), .lit (.int .u8 51), .lit (.int .u8 22), .lit (.int .u8 53), .lit (.int .u8 39), .lit (.int .u8 33), .lit (.int .u8 30), .lit (.int .u8 24), .lit (.int .u8 18), .lit (.int .u8 12), .lit (.int .u8 5), .lit (.int .u8 63), .lit (.int .u8 55), .lit (.int .u8 48), .lit (.int .u8 27), .lit (.int .u8 60), .lit (.int .u8 41), .lit (.int .u8 37), .lit (.int .u8 16), .lit (.int .u8 46), .lit (.int .u8 35), .lit (.int .u8 44), .lit (.int .u8 21), .lit (.int .u8 52), .lit (.int .u8 32), .lit (.int .u8 23), .lit (.int .u8 11), .lit (.int .u8 54), .lit (.int .u8 26), .lit (.int .u8 40), .lit (.int .u8 15), .lit (.int .u8 34), .lit (.int .u8 20), .lit (.int .u8 31), .lit (.int .u8 10), .lit (.int .u8 25), .lit (.int .u8 14), .lit (.int .u8 19), .lit (.int .u8 9), .lit (.int .u8 13), .lit (.int .u8 8), .lit (.int .u8 7), .lit (.int .u8 6)]
def laid_internal_strconv_uint64pow10 {H : Type} : DataW H := .agg [.lit (.int .u64 1), .lit (.int .u64 10), .lit (.int .u64 100), .lit (.int .u64 1000), .lit (.int .u64 10000), .lit (.int .u64 100000), .lit (.int .u64 1000000), .lit (.int .u64 10000000), .lit (.int .u64 100000000), .lit (.int .u64 1000000000), .lit (.int .u64 10000000000), .lit (.int .u64 100000000000), .lit (.int .u64 1000000000000), .lit (.int .u64 10000000000000), .lit (.int .u64 100000000000000), .lit (.int .u64 1000000000000000), .lit (.int .u64 10000000000000000), .lit (.int .u64 100000000000000000), .lit (.int .u64 1000000000000000000), .lit (.int .u64 10000000000000000000)]

/-- 'feluccalaw01.NumTells': WHATEVER THE INPUT: true; the input reads as it did. -/
def numTellsSpec : ChangeSpec := { name := "numTells", fn := fun _ => fun
  | [d1, d2, d3, d4] => { results := [.lit (.bool true)], args := [d1, d2, d3, d4] }
  | _ => none }
def numTellsRow : OpenClaim := { program := "ytndijkndllpkgaadoor", sum := "efc7a7237a4910b92b35d3a5289dd7fce82a7a2514ee1a3482614e75baa5e81b", func := "felucca/feluccalaw01.NumTells", spec := "numTells", recurses := true, named := ["internal/strconv.uint64pow10", "math/bits.deBruijn32tab", "math/bits.deBruijn64tab"], plainKeys := false, apart := false, laid := [("math/bits.deBruijn32tab", laid_math_bits_deBruijn32tab), ("math/bits.deBruijn64tab", laid_math_bits_deBruijn64tab), ("internal/strconv.uint64pow10", laid_internal_strconv_uint64pow10)] }
def NumTellsSaid : Prop := numTellsRow.holds Tryd.pinned (OpenSpec.ofChange numTellsSpec)

/-- ITS FALSE NEIGHBOUR: 'it returns false'. Refute it at one input. -/
def numTellsWrong : ChangeSpec := { name := "numTells", fn := fun _ => fun
  | [d1, d2, d3, d4] => { results := [.lit (.bool false)], args := [d1, d2, d3, d4] }
  | _ => none }
def NumTellsWrongFalsely : Prop := numTellsRow.holds Tryd.pinned (OpenSpec.ofChange numTellsWrong)

/-- 'feluccalaw01.NumBack': WHATEVER THE INPUT: true; the input reads as it did. -/
def numBackSpec : ChangeSpec := { name := "numBack", fn := fun _ => fun
  | [d1, d2, d3] => { results := [.lit (.bool true)], args := [d1, d2, d3] }
  | _ => none }
def numBackRow : OpenClaim := { program := "ytndijkndllpkgaadoor", sum := "efc7a7237a4910b92b35d3a5289dd7fce82a7a2514ee1a3482614e75baa5e81b", func := "felucca/feluccalaw01.NumBack", spec := "numBack", named := ["internal/strconv.uint64pow10", "math/bits.deBruijn32tab", "math/bits.deBruijn64tab"], plainKeys := false, apart := false, laid := [("math/bits.deBruijn32tab", laid_math_bits_deBruijn32tab), ("math/bits.deBruijn64tab", laid_math_bits_deBruijn64tab), ("internal/strconv.uint64pow10", laid_internal_strconv_uint64pow10)] }
def NumBackSaid : Prop := numBackRow.holds Tryd.pinned (OpenSpec.ofChange numBackSpec)

/-- ITS FALSE NEIGHBOUR: 'it returns false'. Refute it at one input. -/
def numBackWrong : ChangeSpec := { name := "numBack", fn := fun _ => fun
  | [d1, d2, d3] => { results := [.lit (.bool false)], args := [d1, d2, d3] }
  | _ => none }
def NumBackWrongFalsely : Prop := numBackRow.holds Tryd.pinned (OpenSpec.ofChange numBackWrong)

/-- 'feluccalaw01.NumCeils': WHATEVER THE INPUT: true; the input reads as it did. -/
def numCeilsSpec : ChangeSpec := { name := "numCeils", fn := fun _ => fun
  | [d1, d2] => { results := [.lit (.bool true)], args := [d1, d2] }
  | _ => none }
def numCeilsRow : OpenClaim := { program := "ytndijkndllpkgaadoor", sum := "efc7a7237a4910b92b35d3a5289dd7fce82a7a2514ee1a3482614e75baa5e81b", func := "felucca/feluccalaw01.NumCeils", spec := "numCeils", named := ["internal/strconv.uint64pow10", "math/bits.deBruijn32tab", "math/bits.deBruijn64tab"], plainKeys := false, apart := false, laid := [("math/bits.deBruijn32tab", laid_math_bits_deBruijn32tab), ("math/bits.deBruijn64tab", laid_math_bits_deBruijn64tab), ("internal/strconv.uint64pow10", laid_internal_strconv_uint64pow10)] }
def NumCeilsSaid : Prop := numCeilsRow.holds Tryd.pinned (OpenSpec.ofChange numCeilsSpec)

/-- ITS FALSE NEIGHBOUR: 'it returns false'. Refute it at one input. -/
def numCeilsWrong : ChangeSpec := { name := "numCeils", fn := fun _ => fun
  | [d1, d2] => { results := [.lit (.bool false)], args := [d1, d2] }
  | _ => none }
def NumCeilsWrongFalsely : Prop := numCeilsRow.holds Tryd.pinned (OpenSpec.ofChange numCeilsWrong)

/-- 'feluccalaw01.NumClamps': WHATEVER THE INPUT: true; the input reads as it did. -/
def numClampsSpec : ChangeSpec := { name := "numClamps", fn := fun _ => fun
  | [d1, d2, d3] => { results := [.lit (.bool true)], args := [d1, d2, d3] }
  | _ => none }
def numClampsRow : OpenClaim := { program := "ytndijkndllpkgaadoor", sum := "efc7a7237a4910b92b35d3a5289dd7fce82a7a2514ee1a3482614e75baa5e81b", func := "felucca/feluccalaw01.NumClamps", spec := "numClamps", named := ["internal/strconv.uint64pow10", "math/bits.deBruijn32tab", "math/bits.deBruijn64tab"], plainKeys := false, apart := false, laid := [("math/bits.deBruijn32tab", laid_math_bits_deBruijn32tab), ("math/bits.deBruijn64tab", laid_math_bits_deBruijn64tab), ("internal/strconv.uint64pow10", laid_internal_strconv_uint64pow10)] }
def NumClampsSaid : Prop := numClampsRow.holds Tryd.pinned (OpenSpec.ofChange numClampsSpec)

/-- ITS FALSE NEIGHBOUR: 'it returns false'. Refute it at one input. -/
def numClampsWrong : ChangeSpec := { name := "numClamps", fn := fun _ => fun
  | [d1, d2, d3] => { results := [.lit (.bool false)], args := [d1, d2, d3] }
  | _ => none }
def NumClampsWrongFalsely : Prop := numClampsRow.holds Tryd.pinned (OpenSpec.ofChange numClampsWrong)

/-- 'feluccalaw01.NumOrder': WHATEVER THE INPUT: true; the input reads as it did. -/
def numOrderSpec : ChangeSpec := { name := "numOrder", fn := fun _ => fun
  | [d1, d2, d3, d4] => { results := [.lit (.bool true)], args := [d1, d2, d3, d4] }
  | _ => none }
def numOrderRow : OpenClaim := { program := "ytndijkndllpkgaadoor", sum := "efc7a7237a4910b92b35d3a5289dd7fce82a7a2514ee1a3482614e75baa5e81b", func := "felucca/feluccalaw01.NumOrder", spec := "numOrder", named := ["internal/strconv.uint64pow10", "math/bits.deBruijn32tab", "math/bits.deBruijn64tab"], plainKeys := false, apart := false, laid := [("math/bits.deBruijn32tab", laid_math_bits_deBruijn32tab), ("math/bits.deBruijn64tab", laid_math_bits_deBruijn64tab), ("internal/strconv.uint64pow10", laid_internal_strconv_uint64pow10)] }
def NumOrderSaid : Prop := numOrderRow.holds Tryd.pinned (OpenSpec.ofChange numOrderSpec)

/-- ITS FALSE NEIGHBOUR: 'it returns false'. Refute it at one input. -/
def numOrderWrong : ChangeSpec := { name := "numOrder", fn := fun _ => fun
  | [d1, d2, d3, d4] => { results := [.lit (.bool false)], args := [d1, d2, d3, d4] }
  | _ => none }
def NumOrderWrongFalsely : Prop := numOrderRow.holds Tryd.pinned (OpenSpec.ofChange numOrderWrong)

/-- 'feluccalaw01.NumTexts': WHATEVER THE INPUT: true; the input reads as it did. -/
def numTextsSpec : ChangeSpec := { name := "numTexts", fn := fun _ => fun
  | [d1, d2] => { results := [.lit (.bool true)], args := [d1, d2] }
  | _ => none }
def numTextsRow : OpenClaim := { program := "ytndijkndllpkgaadoor", sum := "efc7a7237a4910b92b35d3a5289dd7fce82a7a2514ee1a3482614e75baa5e81b", func := "felucca/feluccalaw01.NumTexts", spec := "numTexts", named := ["internal/strconv.uint64pow10", "math/bits.deBruijn32tab", "math/bits.deBruijn64tab"], plainKeys := false, apart := false, laid := [("math/bits.deBruijn32tab", laid_math_bits_deBruijn32tab), ("math/bits.deBruijn64tab", laid_math_bits_deBruijn64tab), ("internal/strconv.uint64pow10", laid_internal_strconv_uint64pow10)] }
def NumTextsSaid : Prop := numTextsRow.holds Tryd.pinned (OpenSpec.ofChange numTextsSpec)

/-- ITS FALSE NEIGHBOUR: 'it returns false'. Refute it at one input. -/
def numTextsWrong : ChangeSpec := { name := "numTexts", fn := fun _ => fun
  | [d1, d2] => { results := [.lit (.bool false)], args := [d1, d2] }
  | _ => none }
def NumTextsWrongFalsely : Prop := numTextsRow.holds Tryd.pinned (OpenSpec.ofChange numTextsWrong)

/-- 'feluccalaw04.DirectTells': WHATEVER THE INPUT: true; the input reads as it did. -/
def directTellsSpec : ChangeSpec := { name := "directTells", fn := fun _ => fun
  | [d1, d2] => { results := [.lit (.bool true)], args := [d1, d2] }
  | _ => none }
def directTellsRow : OpenClaim := { program := "ytndijkndllpkgaadoor", sum := "efc7a7237a4910b92b35d3a5289dd7fce82a7a2514ee1a3482614e75baa5e81b", func := "felucca/feluccalaw04.DirectTells", spec := "directTells", unfollowed := true, recurses := true, named := ["internal/strconv.uint64pow10", "math/bits.deBruijn32tab", "math/bits.deBruijn64tab"], plainKeys := false, apart := false, laid := [("math/bits.deBruijn32tab", laid_math_bits_deBruijn32tab), ("math/bits.deBruijn64tab", laid_math_bits_deBruijn64tab), ("internal/strconv.uint64pow10", laid_internal_strconv_uint64pow10)] }
def DirectTellsSaid : Prop := directTellsRow.holds Tryd.pinned (OpenSpec.ofChange directTellsSpec)

/-- ITS FALSE NEIGHBOUR: 'it returns false'. Refute it at one input. -/
def directTellsWrong : ChangeSpec := { name := "directTells", fn := fun _ => fun
  | [d1, d2] => { results := [.lit (.bool false)], args := [d1, d2] }
  | _ => none }
def DirectTellsWrongFalsely : Prop := directTellsRow.holds Tryd.pinned (OpenSpec.ofChange directTellsWrong)

/-- 'feluccalaw04.DirectBack': WHATEVER THE INPUT: true; the input reads as it did. -/
def directBackSpec : ChangeSpec := { name := "directBack", fn := fun _ => fun
  | [d1, d2] => { results := [.lit (.bool true)], args := [d1, d2] }
  | _ => none }
def directBackRow : OpenClaim := { program := "ytndijkndllpkgaadoor", sum := "efc7a7237a4910b92b35d3a5289dd7fce82a7a2514ee1a3482614e75baa5e81b", func := "felucca/feluccalaw04.DirectBack", spec := "directBack", unfollowed := true, recurses := true, named := ["internal/strconv.uint64pow10", "math/bits.deBruijn32tab", "math/bits.deBruijn64tab"], plainKeys := false, apart := false, laid := [("math/bits.deBruijn32tab", laid_math_bits_deBruijn32tab), ("math/bits.deBruijn64tab", laid_math_bits_deBruijn64tab), ("internal/strconv.uint64pow10", laid_internal_strconv_uint64pow10)] }
def DirectBackSaid : Prop := directBackRow.holds Tryd.pinned (OpenSpec.ofChange directBackSpec)

/-- ITS FALSE NEIGHBOUR: 'it returns false'. Refute it at one input. -/
def directBackWrong : ChangeSpec := { name := "directBack", fn := fun _ => fun
  | [d1, d2] => { results := [.lit (.bool false)], args := [d1, d2] }
  | _ => none }
def DirectBackWrongFalsely : Prop := directBackRow.holds Tryd.pinned (OpenSpec.ofChange directBackWrong)

/-- 'feluccalaw04.DirectApart': WHATEVER THE INPUT: true; the input reads as it did. -/
def directApartSpec : ChangeSpec := { name := "directApart", fn := fun _ => fun
  | [d1, d2] => { results := [.lit (.bool true)], args := [d1, d2] }
  | _ => none }
def directApartRow : OpenClaim := { program := "ytndijkndllpkgaadoor", sum := "efc7a7237a4910b92b35d3a5289dd7fce82a7a2514ee1a3482614e75baa5e81b", func := "felucca/feluccalaw04.DirectApart", spec := "directApart", unfollowed := true, recurses := true, named := ["internal/strconv.uint64pow10", "math/bits.deBruijn32tab", "math/bits.deBruijn64tab"], plainKeys := false, apart := false, laid := [("math/bits.deBruijn32tab", laid_math_bits_deBruijn32tab), ("math/bits.deBruijn64tab", laid_math_bits_deBruijn64tab), ("internal/strconv.uint64pow10", laid_internal_strconv_uint64pow10)] }
def DirectApartSaid : Prop := directApartRow.holds Tryd.pinned (OpenSpec.ofChange directApartSpec)

/-- ITS FALSE NEIGHBOUR: 'it returns false'. Refute it at one input. -/
def directApartWrong : ChangeSpec := { name := "directApart", fn := fun _ => fun
  | [d1, d2] => { results := [.lit (.bool false)], args := [d1, d2] }
  | _ => none }
def DirectApartWrongFalsely : Prop := directApartRow.holds Tryd.pinned (OpenSpec.ofChange directApartWrong)

/-- 'feluccalaw04.DirectKinds': WHATEVER THE INPUT: true; the input reads as it did. -/
def directKindsSpec : ChangeSpec := { name := "directKinds", fn := fun _ => fun
  | [d1, d2] => { results := [.lit (.bool true)], args := [d1, d2] }
  | _ => none }
def directKindsRow : OpenClaim := { program := "ytndijkndllpkgaadoor", sum := "efc7a7237a4910b92b35d3a5289dd7fce82a7a2514ee1a3482614e75baa5e81b", func := "felucca/feluccalaw04.DirectKinds", spec := "directKinds", unfollowed := true, recurses := true, named := ["internal/strconv.uint64pow10", "math/bits.deBruijn32tab", "math/bits.deBruijn64tab"], plainKeys := false, apart := false, laid := [("math/bits.deBruijn32tab", laid_math_bits_deBruijn32tab), ("math/bits.deBruijn64tab", laid_math_bits_deBruijn64tab), ("internal/strconv.uint64pow10", laid_internal_strconv_uint64pow10)] }
def DirectKindsSaid : Prop := directKindsRow.holds Tryd.pinned (OpenSpec.ofChange directKindsSpec)

/-- ITS FALSE NEIGHBOUR: 'it returns false'. Refute it at one input. -/
def directKindsWrong : ChangeSpec := { name := "directKinds", fn := fun _ => fun
  | [d1, d2] => { results := [.lit (.bool false)], args := [d1, d2] }
  | _ => none }
def DirectKindsWrongFalsely : Prop := directKindsRow.holds Tryd.pinned (OpenSpec.ofChange directKindsWrong)

/-- 'feluccalaw04.DirectShort': WHATEVER THE INPUT: true; the input reads as it did. -/
def directShortSpec : ChangeSpec := { name := "directShort", fn := fun _ => fun
  | [d1, d2, d3] => { results := [.lit (.bool true)], args := [d1, d2, d3] }
  | _ => none }
def directShortRow : OpenClaim := { program := "ytndijkndllpkgaadoor", sum := "efc7a7237a4910b92b35d3a5289dd7fce82a7a2514ee1a3482614e75baa5e81b", func := "felucca/feluccalaw04.DirectShort", spec := "directShort", unfollowed := true, recurses := true, named := ["internal/strconv.uint64pow10", "math/bits.deBruijn32tab", "math/bits.deBruijn64tab"], plainKeys := false, apart := false, laid := [("math/bits.deBruijn32tab", laid_math_bits_deBruijn32tab), ("math/bits.deBruijn64tab", laid_math_bits_deBruijn64tab), ("internal/strconv.uint64pow10", laid_internal_strconv_uint64pow10)] }
def DirectShortSaid : Prop := directShortRow.holds Tryd.pinned (OpenSpec.ofChange directShortSpec)

/-- ITS FALSE NEIGHBOUR: 'it returns false'. Refute it at one input. -/
def directShortWrong : ChangeSpec := { name := "directShort", fn := fun _ => fun
  | [d1, d2, d3] => { results := [.lit (.bool false)], args := [d1, d2, d3] }
  | _ => none }
def DirectShortWrongFalsely : Prop := directShortRow.holds Tryd.pinned (OpenSpec.ofChange directShortWrong)

/- THE SECOND FORM. 'bulk': how many values and letters a reading holds, each counted each time it is reached (what is shared counts as often as it is met; a slice's spare places count too). A statement '..UptoSaid' is the law's where the arguments, and the package variables that the reading takes, are together of bulk at most 1048576: NARROWER than '..Said'. Prove '..Said' where nothing that the law and all that it calls make is longer than what came in: it says more and counts as full. Else prove '..UptoSaid'. A law counts once. -/
mutual
def uptoBulk {H : Type} : DataW H → Nat
  | .lit (.string bytes) => bytes.length + 1
  | .lit _ => 1
  | .nil => 1
  | .ptr d => uptoBulk d + 1
  | .slice elems spare => uptoBulkAll elems + uptoBulkAll spare + 1
  | .agg parts => uptoBulkAll parts + 1
  | .iface _ d => uptoBulk d + 1
  | .map entries => uptoBulkEntries entries + 1
  | .held _ => 1
def uptoBulkAll {H : Type} : List (DataW H) → Nat
  | [] => 0
  | d :: r => uptoBulk d + uptoBulkAll r
def uptoBulkEntries {H : Type} : List (Lit × DataW H) → Nat
  | [] => 0
  | x :: r => uptoBulkEntry x + uptoBulkEntries r
def uptoBulkEntry {H : Type} : Lit × DataW H → Nat
  | (.string bytes, d) => bytes.length + uptoBulk d + 1
  | (_, d) => uptoBulk d + 1
 end
def uptoSmall : (H : Type) → List (DataW H) → Bool := fun _ ds => decide (uptoBulkAll ds ≤ 1048576)
def OpenSpec.upto (s : _root_.Go.ChangeSpec) : _root_.Go.OpenSpec := { _root_.Go.OpenSpec.ofChange s with cond := some uptoSmall }

/-- 'feluccalaw01.NumTells', WHERE WHAT IT READS IS OF BULK AT MOST 1048576: true; the input reads as it did. -/
def numTellsUptoRow : OpenClaim := { program := "ytndijkndllpkgaadoor", sum := "efc7a7237a4910b92b35d3a5289dd7fce82a7a2514ee1a3482614e75baa5e81b", func := "felucca/feluccalaw01.NumTells", spec := "numTells", recurses := true, named := ["internal/strconv.uint64pow10", "math/bits.deBruijn32tab", "math/bits.deBruijn64tab"], plainKeys := false, apart := false, laid := [("math/bits.deBruijn32tab", laid_math_bits_deBruijn32tab), ("math/bits.deBruijn64tab", laid_math_bits_deBruijn64tab), ("internal/strconv.uint64pow10", laid_internal_strconv_uint64pow10)], narrowed := true }
def NumTellsUptoSaid : Prop := numTellsUptoRow.holds Tryd.pinned (OpenSpec.upto numTellsSpec)

/-- 'feluccalaw01.NumBack', WHERE WHAT IT READS IS OF BULK AT MOST 1048576: true; the input reads as it did. -/
def numBackUptoRow : OpenClaim := { program := "ytndijkndllpkgaadoor", sum := "efc7a7237a4910b92b35d3a5289dd7fce82a7a2514ee1a3482614e75baa5e81b", func := "felucca/feluccalaw01.NumBack", spec := "numBack", named := ["internal/strconv.uint64pow10", "math/bits.deBruijn32tab", "math/bits.deBruijn64tab"], plainKeys := false, apart := false, laid := [("math/bits.deBruijn32tab", laid_math_bits_deBruijn32tab), ("math/bits.deBruijn64tab", laid_math_bits_deBruijn64tab), ("internal/strconv.uint64pow10", laid_internal_strconv_uint64pow10)], narrowed := true }
def NumBackUptoSaid : Prop := numBackUptoRow.holds Tryd.pinned (OpenSpec.upto numBackSpec)

/-- 'feluccalaw01.NumCeils', WHERE WHAT IT READS IS OF BULK AT MOST 1048576: true; the input reads as it did. -/
def numCeilsUptoRow : OpenClaim := { program := "ytndijkndllpkgaadoor", sum := "efc7a7237a4910b92b35d3a5289dd7fce82a7a2514ee1a3482614e75baa5e81b", func := "felucca/feluccalaw01.NumCeils", spec := "numCeils", named := ["internal/strconv.uint64pow10", "math/bits.deBruijn32tab", "math/bits.deBruijn64tab"], plainKeys := false, apart := false, laid := [("math/bits.deBruijn32tab", laid_math_bits_deBruijn32tab), ("math/bits.deBruijn64tab", laid_math_bits_deBruijn64tab), ("internal/strconv.uint64pow10", laid_internal_strconv_uint64pow10)], narrowed := true }
def NumCeilsUptoSaid : Prop := numCeilsUptoRow.holds Tryd.pinned (OpenSpec.upto numCeilsSpec)

/-- 'feluccalaw01.NumClamps', WHERE WHAT IT READS IS OF BULK AT MOST 1048576: true; the input reads as it did. -/
def numClampsUptoRow : OpenClaim := { program := "ytndijkndllpkgaadoor", sum := "efc7a7237a4910b92b35d3a5289dd7fce82a7a2514ee1a3482614e75baa5e81b", func := "felucca/feluccalaw01.NumClamps", spec := "numClamps", named := ["internal/strconv.uint64pow10", "math/bits.deBruijn32tab", "math/bits.deBruijn64tab"], plainKeys := false, apart := false, laid := [("math/bits.deBruijn32tab", laid_math_bits_deBruijn32tab), ("math/bits.deBruijn64tab", laid_math_bits_deBruijn64tab), ("internal/strconv.uint64pow10", laid_internal_strconv_uint64pow10)], narrowed := true }
def NumClampsUptoSaid : Prop := numClampsUptoRow.holds Tryd.pinned (OpenSpec.upto numClampsSpec)

/-- 'feluccalaw01.NumOrder', WHERE WHAT IT READS IS OF BULK AT MOST 1048576: true; the input reads as it did. -/
def numOrderUptoRow : OpenClaim := { program := "ytndijkndllpkgaadoor", sum := "efc7a7237a4910b92b35d3a5289dd7fce82a7a2514ee1a3482614e75baa5e81b", func := "felucca/feluccalaw01.NumOrder", spec := "numOrder", named := ["internal/strconv.uint64pow10", "math/bits.deBruijn32tab", "math/bits.deBruijn64tab"], plainKeys := false, apart := false, laid := [("math/bits.deBruijn32tab", laid_math_bits_deBruijn32tab), ("math/bits.deBruijn64tab", laid_math_bits_deBruijn64tab), ("internal/strconv.uint64pow10", laid_internal_strconv_uint64pow10)], narrowed := true }
def NumOrderUptoSaid : Prop := numOrderUptoRow.holds Tryd.pinned (OpenSpec.upto numOrderSpec)

/-- 'feluccalaw01.NumTexts', WHERE WHAT IT READS IS OF BULK AT MOST 1048576: true; the input reads as it did. -/
def numTextsUptoRow : OpenClaim := { program := "ytndijkndllpkgaadoor", sum := "efc7a7237a4910b92b35d3a5289dd7fce82a7a2514ee1a3482614e75baa5e81b", func := "felucca/feluccalaw01.NumTexts", spec := "numTexts", named := ["internal/strconv.uint64pow10", "math/bits.deBruijn32tab", "math/bits.deBruijn64tab"], plainKeys := false, apart := false, laid := [("math/bits.deBruijn32tab", laid_math_bits_deBruijn32tab), ("math/bits.deBruijn64tab", laid_math_bits_deBruijn64tab), ("internal/strconv.uint64pow10", laid_internal_strconv_uint64pow10)], narrowed := true }
def NumTextsUptoSaid : Prop := numTextsUptoRow.holds Tryd.pinned (OpenSpec.upto numTextsSpec)

/-- 'feluccalaw04.DirectTells', WHERE WHAT IT READS IS OF BULK AT MOST 1048576: true; the input reads as it did. -/
def directTellsUptoRow : OpenClaim := { program := "ytndijkndllpkgaadoor", sum := "efc7a7237a4910b92b35d3a5289dd7fce82a7a2514ee1a3482614e75baa5e81b", func := "felucca/feluccalaw04.DirectTells", spec := "directTells", unfollowed := true, recurses := true, named := ["internal/strconv.uint64pow10", "math/bits.deBruijn32tab", "math/bits.deBruijn64tab"], plainKeys := false, apart := false, laid := [("math/bits.deBruijn32tab", laid_math_bits_deBruijn32tab), ("math/bits.deBruijn64tab", laid_math_bits_deBruijn64tab), ("internal/strconv.uint64pow10", laid_internal_strconv_uint64pow10)], narrowed := true }
def DirectTellsUptoSaid : Prop := directTellsUptoRow.holds Tryd.pinned (OpenSpec.upto directTellsSpec)

/-- 'feluccalaw04.DirectBack', WHERE WHAT IT READS IS OF BULK AT MOST 1048576: true; the input reads as it did. -/
def directBackUptoRow : OpenClaim := { program := "ytndijkndllpkgaadoor", sum := "efc7a7237a4910b92b35d3a5289dd7fce82a7a2514ee1a3482614e75baa5e81b", func := "felucca/feluccalaw04.DirectBack", spec := "directBack", unfollowed := true, recurses := true, named := ["internal/strconv.uint64pow10", "math/bits.deBruijn32tab", "math/bits.deBruijn64tab"], plainKeys := false, apart := false, laid := [("math/bits.deBruijn32tab", laid_math_bits_deBruijn32tab), ("math/bits.deBruijn64tab", laid_math_bits_deBruijn64tab), ("internal/strconv.uint64pow10", laid_internal_strconv_uint64pow10)], narrowed := true }
def DirectBackUptoSaid : Prop := directBackUptoRow.holds Tryd.pinned (OpenSpec.upto directBackSpec)

/-- 'feluccalaw04.DirectApart', WHERE WHAT IT READS IS OF BULK AT MOST 1048576: true; the input reads as it did. -/
def directApartUptoRow : OpenClaim := { program := "ytndijkndllpkgaadoor", sum := "efc7a7237a4910b92b35d3a5289dd7fce82a7a2514ee1a3482614e75baa5e81b", func := "felucca/feluccalaw04.DirectApart", spec := "directApart", unfollowed := true, recurses := true, named := ["internal/strconv.uint64pow10", "math/bits.deBruijn32tab", "math/bits.deBruijn64tab"], plainKeys := false, apart := false, laid := [("math/bits.deBruijn32tab", laid_math_bits_deBruijn32tab), ("math/bits.deBruijn64tab", laid_math_bits_deBruijn64tab), ("internal/strconv.uint64pow10", laid_internal_strconv_uint64pow10)], narrowed := true }
def DirectApartUptoSaid : Prop := directApartUptoRow.holds Tryd.pinned (OpenSpec.upto directApartSpec)

/-- 'feluccalaw04.DirectKinds', WHERE WHAT IT READS IS OF BULK AT MOST 1048576: true; the input reads as it did. -/
def directKindsUptoRow : OpenClaim := { program := "ytndijkndllpkgaadoor", sum := "efc7a7237a4910b92b35d3a5289dd7fce82a7a2514ee1a3482614e75baa5e81b", func := "felucca/feluccalaw04.DirectKinds", spec := "directKinds", unfollowed := true, recurses := true, named := ["internal/strconv.uint64pow10", "math/bits.deBruijn32tab", "math/bits.deBruijn64tab"], plainKeys := false, apart := false, laid := [("math/bits.deBruijn32tab", laid_math_bits_deBruijn32tab), ("math/bits.deBruijn64tab", laid_math_bits_deBruijn64tab), ("internal/strconv.uint64pow10", laid_internal_strconv_uint64pow10)], narrowed := true }
def DirectKindsUptoSaid : Prop := directKindsUptoRow.holds Tryd.pinned (OpenSpec.upto directKindsSpec)

/-- 'feluccalaw04.DirectShort', WHERE WHAT IT READS IS OF BULK AT MOST 1048576: true; the input reads as it did. -/
def directShortUptoRow : OpenClaim := { program := "ytndijkndllpkgaadoor", sum := "efc7a7237a4910b92b35d3a5289dd7fce82a7a2514ee1a3482614e75baa5e81b", func := "felucca/feluccalaw04.DirectShort", spec := "directShort", unfollowed := true, recurses := true, named := ["internal/strconv.uint64pow10", "math/bits.deBruijn32tab", "math/bits.deBruijn64tab"], plainKeys := false, apart := false, laid := [("math/bits.deBruijn32tab", laid_math_bits_deBruijn32tab), ("math/bits.deBruijn64tab", laid_math_bits_deBruijn64tab), ("internal/strconv.uint64pow10", laid_internal_strconv_uint64pow10)], narrowed := true }
def DirectShortUptoSaid : Prop := directShortUptoRow.holds Tryd.pinned (OpenSpec.upto directShortSpec)

end Rows
end Go.Proofs.YtndijkndllpkgaaDoor
