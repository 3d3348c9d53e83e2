/-
  NARROWER THAN 'FOR EVERY INPUT', by the rows' own cells (each row's printed sentence says how): TranspositionPairs: laid · TranspositionUnique: laid · TranspositionEqual: laid · TranspositionUndone: laid · TranspositionChain: laid · TranspositionBlocks: laid · TranspositionChecked: laid · TranspositionMoved: laid · TranspositionDivided: laid.
  DERIVED. THE GIVEN ROWS OF THIS SEAT. 9 by the template 'for every input the law returns true; each argument reads behind the call as it read before'; 0 by the template 'total and deterministic' (their statements: YtbahddjbncinbaaGreatDoorTotals.lean).
  GIVEN WITH THE SEED: the statements are not yours to turn. If you find one false, say at which input.
  Laid BY PROGRAM, IN A SANDBOX (cutbox-rows.mjs): the forced cells as the released guide's own fill.sh prints them over the translation 5f6f937a0aa45c20… (all of the seat's roots in one cut). By AI agents, Wed Nov 11 2026. No macro, syntax, notation, axiom, sorry.
-/
import Derived.Test.YtbahddjbncinbaaGreatDoorChecked
import GoSem.Claim
import GoSem.ClaimJoined
import GoSem.ClaimMapViews
import Derived.JoinedTies
import Derived.KernelRfl
namespace Go.Proofs.YtbahddjbncinbaaGreatDoor
/- THE CELL 'sum', in the pinned program and in every row, IS THE sha256 OF THE DUMP (.gsa) THAT YtbahddjbncinbaaGreatDoorProg.lean LOADS. Nothing in Lean hashes anything: it is a label: what it is worth is what the hold of that sum in a sandbox is worth. -/
noncomputable def Tryz.pinned : Pinned := { name := "ytbahddjbncinbaagreatdoor", sum := "5f6f937a0aa45c205de51d4ce1123a3897319dd1fd6dfff5b0fa9c189b65df27", checked := Tryz.checked }
namespace Rows
def none {H : Type} : Left H := { results := [], args := [] }

/- WHAT THE LISTED PACKAGE-LEVEL VARIABLES READ AS WHEN THE CALL BEGINS. Each datum BY PROGRAM (the guide's laid-datum.mjs) off the statement by which the dump's own 'gosem.cut.vars' lays the variable. In a bare row this is a premise. The card (YtbahddjbncinbaaGreatDoorCards.lean) ties it to the program's text. -/
def laid_math_bits_deBruijn32tab {H : Type} : DataW H := .agg [.lit (.int .u8 0), .lit (.int .u8 1), .lit (.int .u8 28), .lit (.int .u8 2), .lit (.int .u8 29), .lit (.int .u8 14), .lit (.int .u8 24), .lit (.int .u8 3), .lit (.int .u8 30), .lit (.int .u8 22), .lit (.int .u8 20), .lit (.int .u8 15), .lit (.int .u8 25), .lit (.int .u8 17), .lit (.int .u8 4), .lit (.int .u8 8), .lit (.int .u8 31), .lit (.int .u8 27), .lit (.int .u8 13), .lit (.int .u8 23), .lit (.int .u8 21), .lit (.int .u8 19), .lit (.int .u8 16), .lit (.int .u8 7), .lit (.int .u8 26), .lit (.int .u8 12), .lit (.int .u8 18), .lit (.int .u8 6), .lit (.int .u8 11), .lit (.int .u8 5), .lit (.int .u8 10), .lit (.int .u8 9)]
def laid_math_bits_deBruijn64tab {H : Type} : DataW H := .agg [.lit (.int .u8 0), .lit (.int .u8 1), .lit (.int .u8 56), .lit (.int .u8 2), .lit (.int .u8 57), .lit (.int .u8 49), .lit (.int .u8 28), .lit (.int .u8 3), .lit (.int .u8 61), .lit (.int .u8 58), .lit (.int .u8 42), .lit (.int .u8 50), .lit (.int .u8 38), .lit (.int .u8 29), .lit (.int .u8 17), .lit (.int .u8 4), .lit (.int .u8 62), .lit (.int .u8 47), .lit (.int .u8 59), .lit (.int .u8 36), .lit (.int .u8 45), .lit (.int .u8 43), .lit (.int .u8 51), .lit (.int .u8 22), .lit (.int .u8 53), .lit (.int .u8 39), .lit (.int .u8 33), .lit (.int .u8 30), .lit (.int .u8 24), .lit (.int .u8 18), .lit (.int .u8 12), .lit (.int .u8 5), .lit (.int .u8 63), .lit (.int .u8 55), .lit (.int .u8 48), .lit (.int .u8 27), .lit (.int .u8 60), .lit (.int .u8 41), .lit (.int .u8 37), .lit (.int .u8 16), .lit (.int .u8 46), .lit (.int .u8 35), .lit (.int .u8 44), .lit (.int .u8 21), .lit (.int .u8 52), .lit (.int .u8 32), .lit (.int .u8 23), .lit (.int .u8 11), .lit (.int .u8 54), .lit (.int .u8 26), .lit (.int .u8 40), .lit (.int .u8 15), .lit (.int .u8 34), .lit (.int .u8 20), .lit (.int .u8 31), .lit (.int .u8 10), .lit (.int .u8 25), .lit (.int .u8 14), .lit (.int .u8 19), .lit (.int .u8 9), .lit (.int .u8 13), .lit (.int .u8 8), .lit (.int .u8 7), .lit (.int .u8 6)]
def laid_internal_strconv_uint64pow10 {H : Type} : DataW H := .agg [.lit (.int .u64 1), .lit (.int .u64 10), .lit (.int .u64 100), .lit (.int .u64 1000), .lit (.int .u64 10000), .lit (.int .u64 100000), .lit (.int .u64 1000000), .lit (.int .u64 10000000), .lit (.int .u64 100000000), .lit (.int .u64 1000000000), .lit (.int .u64 10000000000), .lit (.int .u64 100000000000), .lit (.int .u64 1000000000000), .lit (.int .u64 10000000000000), .lit (.int .u64 100000000000000), .lit (.int .u64 1000000000000000), .lit (.int .u64 10000000000000000), .lit (.int .u64 100000000000000000), .lit (.int .u64 1000000000000000000), .lit (.int .u64 10000000000000000000)]
def laid_strconv_ErrRange {H : Type} : DataW H := .iface "*errors.errorString" (.ptr (.agg [.lit (.string [118, 97, 108, 117, 101, 32, 111, 117, 116, 32, 111, 102, 32, 114, 97, 110, 103, 101])]))
def laid_strconv_ErrSyntax {H : Type} : DataW H := .iface "*errors.errorString" (.ptr (.agg [.lit (.string [105, 110, 118, 97, 108, 105, 100, 32, 115, 121, 110, 116, 97, 120])]))

/-- 'apographlaw23.TranspositionPairs': WHATEVER THE INPUT: true; the input reads as it did. -/
def transpositionPairsSpec : ChangeSpec := { name := "transpositionPairs", fn := fun _ => fun
  | [d1, d2] => { results := [.lit (.bool true)], args := [d1, d2] }
  | _ => none }
def transpositionPairsRow : OpenClaim := { program := "ytbahddjbncinbaagreatdoor", sum := "5f6f937a0aa45c205de51d4ce1123a3897319dd1fd6dfff5b0fa9c189b65df27", func := "apograph/apographlaw23.TranspositionPairs", spec := "transpositionPairs", inPlace := ["internal/bytealg.IndexByteString"], unfollowed := true, recurses := true, named := ["strconv.ErrSyntax", "strconv.ErrRange", "internal/strconv.uint64pow10", "math/bits.deBruijn32tab", "math/bits.deBruijn64tab"], apart := false, laid := [("math/bits.deBruijn32tab", laid_math_bits_deBruijn32tab), ("math/bits.deBruijn64tab", laid_math_bits_deBruijn64tab), ("internal/strconv.uint64pow10", laid_internal_strconv_uint64pow10), ("strconv.ErrRange", laid_strconv_ErrRange), ("strconv.ErrSyntax", laid_strconv_ErrSyntax)] }
def TranspositionPairsSaid : Prop := transpositionPairsRow.holds Tryz.pinned (OpenSpec.ofChange transpositionPairsSpec)

/-- ITS FALSE NEIGHBOUR: 'it returns false'. Refute it at one input. -/
def transpositionPairsWrong : ChangeSpec := { name := "transpositionPairs", fn := fun _ => fun
  | [d1, d2] => { results := [.lit (.bool false)], args := [d1, d2] }
  | _ => none }
def TranspositionPairsWrongFalsely : Prop := transpositionPairsRow.holds Tryz.pinned (OpenSpec.ofChange transpositionPairsWrong)

/-- 'apographlaw23.TranspositionUnique': WHATEVER THE INPUT: true; the input reads as it did. -/
def transpositionUniqueSpec : ChangeSpec := { name := "transpositionUnique", fn := fun _ => fun
  | [d1, d2] => { results := [.lit (.bool true)], args := [d1, d2] }
  | _ => none }
def transpositionUniqueRow : OpenClaim := { program := "ytbahddjbncinbaagreatdoor", sum := "5f6f937a0aa45c205de51d4ce1123a3897319dd1fd6dfff5b0fa9c189b65df27", func := "apograph/apographlaw23.TranspositionUnique", spec := "transpositionUnique", inPlace := ["internal/bytealg.IndexByteString"], unfollowed := true, recurses := true, named := ["strconv.ErrSyntax", "strconv.ErrRange", "internal/strconv.uint64pow10", "math/bits.deBruijn32tab", "math/bits.deBruijn64tab"], apart := false, laid := [("math/bits.deBruijn32tab", laid_math_bits_deBruijn32tab), ("math/bits.deBruijn64tab", laid_math_bits_deBruijn64tab), ("internal/strconv.uint64pow10", laid_internal_strconv_uint64pow10), ("strconv.ErrRange", laid_strconv_ErrRange), ("strconv.ErrSyntax", laid_strconv_ErrSyntax)] }
def TranspositionUniqueSaid : Prop := transpositionUniqueRow.holds Tryz.pinned (OpenSpec.ofChange transpositionUniqueSpec)

/-- ITS FALSE NEIGHBOUR: 'it returns false'. Refute it at one input. -/
def transpositionUniqueWrong : ChangeSpec := { name := "transpositionUnique", fn := fun _ => fun
  | [d1, d2] => { results := [.lit (.bool false)], args := [d1, d2] }
  | _ => none }
def TranspositionUniqueWrongFalsely : Prop := transpositionUniqueRow.holds Tryz.pinned (OpenSpec.ofChange transpositionUniqueWrong)

/-- 'apographlaw23.TranspositionEqual': WHATEVER THE INPUT: true; the input reads as it did. -/
def transpositionEqualSpec : ChangeSpec := { name := "transpositionEqual", fn := fun _ => fun
  | [d1, d2] => { results := [.lit (.bool true)], args := [d1, d2] }
  | _ => none }
def transpositionEqualRow : OpenClaim := { program := "ytbahddjbncinbaagreatdoor", sum := "5f6f937a0aa45c205de51d4ce1123a3897319dd1fd6dfff5b0fa9c189b65df27", func := "apograph/apographlaw23.TranspositionEqual", spec := "transpositionEqual", inPlace := ["internal/bytealg.IndexByteString"], unfollowed := true, recurses := true, named := ["strconv.ErrSyntax", "strconv.ErrRange", "internal/strconv.uint64pow10", "math/bits.deBruijn32tab", "math/bits.deBruijn64tab"], apart := false, laid := [("math/bits.deBruijn32tab", laid_math_bits_deBruijn32tab), ("math/bits.deBruijn64tab", laid_math_bits_deBruijn64tab), ("internal/strconv.uint64pow10", laid_internal_strconv_uint64pow10), ("strconv.ErrRange", laid_strconv_ErrRange), ("strconv.ErrSyntax", laid_strconv_ErrSyntax)] }
def TranspositionEqualSaid : Prop := transpositionEqualRow.holds Tryz.pinned (OpenSpec.ofChange transpositionEqualSpec)

/-- ITS FALSE NEIGHBOUR: 'it returns false'. Refute it at one input. -/
def transpositionEqualWrong : ChangeSpec := { name := "transpositionEqual", fn := fun _ => fun
  | [d1, d2] => { results := [.lit (.bool false)], args := [d1, d2] }
  | _ => none }
def TranspositionEqualWrongFalsely : Prop := transpositionEqualRow.holds Tryz.pinned (OpenSpec.ofChange transpositionEqualWrong)

/-- 'apographlaw23.TranspositionUndone': WHATEVER THE INPUT: true; the input reads as it did. -/
def transpositionUndoneSpec : ChangeSpec := { name := "transpositionUndone", fn := fun _ => fun
  | [d1, d2] => { results := [.lit (.bool true)], args := [d1, d2] }
  | _ => none }
def transpositionUndoneRow : OpenClaim := { program := "ytbahddjbncinbaagreatdoor", sum := "5f6f937a0aa45c205de51d4ce1123a3897319dd1fd6dfff5b0fa9c189b65df27", func := "apograph/apographlaw23.TranspositionUndone", spec := "transpositionUndone", inPlace := ["internal/bytealg.IndexByteString"], unfollowed := true, recurses := true, named := ["strconv.ErrSyntax", "strconv.ErrRange", "internal/strconv.uint64pow10", "math/bits.deBruijn32tab", "math/bits.deBruijn64tab"], apart := false, laid := [("math/bits.deBruijn32tab", laid_math_bits_deBruijn32tab), ("math/bits.deBruijn64tab", laid_math_bits_deBruijn64tab), ("internal/strconv.uint64pow10", laid_internal_strconv_uint64pow10), ("strconv.ErrRange", laid_strconv_ErrRange), ("strconv.ErrSyntax", laid_strconv_ErrSyntax)] }
def TranspositionUndoneSaid : Prop := transpositionUndoneRow.holds Tryz.pinned (OpenSpec.ofChange transpositionUndoneSpec)

/-- ITS FALSE NEIGHBOUR: 'it returns false'. Refute it at one input. -/
def transpositionUndoneWrong : ChangeSpec := { name := "transpositionUndone", fn := fun _ => fun
  | [d1, d2] => { results := [.lit (.bool false)], args := [d1, d2] }
  | _ => none }
def TranspositionUndoneWrongFalsely : Prop := transpositionUndoneRow.holds Tryz.pinned (OpenSpec.ofChange transpositionUndoneWrong)

/-- 'apographlaw23.TranspositionChain': WHATEVER THE INPUT: true; the input reads as it did. -/
def transpositionChainSpec : ChangeSpec := { name := "transpositionChain", fn := fun _ => fun
  | [d1, d2] => { results := [.lit (.bool true)], args := [d1, d2] }
  | _ => none }
def transpositionChainRow : OpenClaim := { program := "ytbahddjbncinbaagreatdoor", sum := "5f6f937a0aa45c205de51d4ce1123a3897319dd1fd6dfff5b0fa9c189b65df27", func := "apograph/apographlaw23.TranspositionChain", spec := "transpositionChain", inPlace := ["internal/bytealg.IndexByteString"], unfollowed := true, recurses := true, named := ["strconv.ErrSyntax", "strconv.ErrRange", "internal/strconv.uint64pow10", "math/bits.deBruijn32tab", "math/bits.deBruijn64tab"], apart := false, laid := [("math/bits.deBruijn32tab", laid_math_bits_deBruijn32tab), ("math/bits.deBruijn64tab", laid_math_bits_deBruijn64tab), ("internal/strconv.uint64pow10", laid_internal_strconv_uint64pow10), ("strconv.ErrRange", laid_strconv_ErrRange), ("strconv.ErrSyntax", laid_strconv_ErrSyntax)] }
def TranspositionChainSaid : Prop := transpositionChainRow.holds Tryz.pinned (OpenSpec.ofChange transpositionChainSpec)

/-- ITS FALSE NEIGHBOUR: 'it returns false'. Refute it at one input. -/
def transpositionChainWrong : ChangeSpec := { name := "transpositionChain", fn := fun _ => fun
  | [d1, d2] => { results := [.lit (.bool false)], args := [d1, d2] }
  | _ => none }
def TranspositionChainWrongFalsely : Prop := transpositionChainRow.holds Tryz.pinned (OpenSpec.ofChange transpositionChainWrong)

/-- 'apographlaw23.TranspositionBlocks': WHATEVER THE INPUT: true; the input reads as it did. -/
def transpositionBlocksSpec : ChangeSpec := { name := "transpositionBlocks", fn := fun _ => fun
  | [d1, d2, d3] => { results := [.lit (.bool true)], args := [d1, d2, d3] }
  | _ => none }
def transpositionBlocksRow : OpenClaim := { program := "ytbahddjbncinbaagreatdoor", sum := "5f6f937a0aa45c205de51d4ce1123a3897319dd1fd6dfff5b0fa9c189b65df27", func := "apograph/apographlaw23.TranspositionBlocks", spec := "transpositionBlocks", inPlace := ["internal/bytealg.IndexByteString"], unfollowed := true, recurses := true, named := ["strconv.ErrSyntax", "strconv.ErrRange", "internal/strconv.uint64pow10", "math/bits.deBruijn32tab", "math/bits.deBruijn64tab"], apart := false, laid := [("math/bits.deBruijn32tab", laid_math_bits_deBruijn32tab), ("math/bits.deBruijn64tab", laid_math_bits_deBruijn64tab), ("internal/strconv.uint64pow10", laid_internal_strconv_uint64pow10), ("strconv.ErrRange", laid_strconv_ErrRange), ("strconv.ErrSyntax", laid_strconv_ErrSyntax)] }
def TranspositionBlocksSaid : Prop := transpositionBlocksRow.holds Tryz.pinned (OpenSpec.ofChange transpositionBlocksSpec)

/-- ITS FALSE NEIGHBOUR: 'it returns false'. Refute it at one input. -/
def transpositionBlocksWrong : ChangeSpec := { name := "transpositionBlocks", fn := fun _ => fun
  | [d1, d2, d3] => { results := [.lit (.bool false)], args := [d1, d2, d3] }
  | _ => none }
def TranspositionBlocksWrongFalsely : Prop := transpositionBlocksRow.holds Tryz.pinned (OpenSpec.ofChange transpositionBlocksWrong)

/-- 'apographlaw23.TranspositionChecked': WHATEVER THE INPUT: true; the input reads as it did. -/
def transpositionCheckedSpec : ChangeSpec := { name := "transpositionChecked", fn := fun _ => fun
  | [d1, d2, d3] => { results := [.lit (.bool true)], args := [d1, d2, d3] }
  | _ => none }
def transpositionCheckedRow : OpenClaim := { program := "ytbahddjbncinbaagreatdoor", sum := "5f6f937a0aa45c205de51d4ce1123a3897319dd1fd6dfff5b0fa9c189b65df27", func := "apograph/apographlaw23.TranspositionChecked", spec := "transpositionChecked", inPlace := ["internal/bytealg.IndexByteString"], unfollowed := true, recurses := true, named := ["strconv.ErrSyntax", "strconv.ErrRange", "internal/strconv.uint64pow10", "math/bits.deBruijn32tab", "math/bits.deBruijn64tab"], apart := false, laid := [("math/bits.deBruijn32tab", laid_math_bits_deBruijn32tab), ("math/bits.deBruijn64tab", laid_math_bits_deBruijn64tab), ("internal/strconv.uint64pow10", laid_internal_strconv_uint64pow10), ("strconv.ErrRange", laid_strconv_ErrRange), ("strconv.ErrSyntax", laid_strconv_ErrSyntax)] }
def TranspositionCheckedSaid : Prop := transpositionCheckedRow.holds Tryz.pinned (OpenSpec.ofChange transpositionCheckedSpec)

/-- ITS FALSE NEIGHBOUR: 'it returns false'. Refute it at one input. -/
def transpositionCheckedWrong : ChangeSpec := { name := "transpositionChecked", fn := fun _ => fun
  | [d1, d2, d3] => { results := [.lit (.bool false)], args := [d1, d2, d3] }
  | _ => none }
def TranspositionCheckedWrongFalsely : Prop := transpositionCheckedRow.holds Tryz.pinned (OpenSpec.ofChange transpositionCheckedWrong)

/-- 'apographlaw23.TranspositionMoved': WHATEVER THE INPUT: true; the input reads as it did. -/
def transpositionMovedSpec : ChangeSpec := { name := "transpositionMoved", fn := fun _ => fun
  | [d1, d2, d3] => { results := [.lit (.bool true)], args := [d1, d2, d3] }
  | _ => none }
def transpositionMovedRow : OpenClaim := { program := "ytbahddjbncinbaagreatdoor", sum := "5f6f937a0aa45c205de51d4ce1123a3897319dd1fd6dfff5b0fa9c189b65df27", func := "apograph/apographlaw23.TranspositionMoved", spec := "transpositionMoved", inPlace := ["slices.overlaps[apograph/api.Token]", "internal/bytealg.IndexByteString"], unfollowed := true, recurses := true, named := ["strconv.ErrSyntax", "strconv.ErrRange", "internal/strconv.uint64pow10", "math/bits.deBruijn32tab", "math/bits.deBruijn64tab"], apart := false, laid := [("math/bits.deBruijn32tab", laid_math_bits_deBruijn32tab), ("math/bits.deBruijn64tab", laid_math_bits_deBruijn64tab), ("internal/strconv.uint64pow10", laid_internal_strconv_uint64pow10), ("strconv.ErrRange", laid_strconv_ErrRange), ("strconv.ErrSyntax", laid_strconv_ErrSyntax)] }
def TranspositionMovedSaid : Prop := transpositionMovedRow.holds Tryz.pinned (OpenSpec.ofChange transpositionMovedSpec)

/-- ITS FALSE NEIGHBOUR: 'it returns false'. Refute it at one input. -/
def transpositionMovedWrong : ChangeSpec := { name := "transpositionMoved", fn := fun _ => fun
  | [d1, d2, d3] => { results := [.lit (.bool false)], args := [d1, d2, d3] }
  | _ => none }
def TranspositionMovedWrongFalsely : Prop := transpositionMovedRow.holds Tryz.pinned (OpenSpec.ofChange transpositionMovedWrong)

/-- 'apographlaw23.TranspositionDivided': WHATEVER THE INPUT: true; the input reads as it did. -/
def transpositionDividedSpec : ChangeSpec := { name := "transpositionDivided", fn := fun _ => fun
  | [d1, d2] => { results := [.lit (.bool true)], args := [d1, d2] }
  | _ => none }
def transpositionDividedRow : OpenClaim := { program := "ytbahddjbncinbaagreatdoor", sum := "5f6f937a0aa45c205de51d4ce1123a3897319dd1fd6dfff5b0fa9c189b65df27", func := "apograph/apographlaw23.TranspositionDivided", spec := "transpositionDivided", inPlace := ["internal/bytealg.IndexByteString"], unfollowed := true, recurses := true, named := ["strconv.ErrSyntax", "strconv.ErrRange", "internal/strconv.uint64pow10", "math/bits.deBruijn32tab", "math/bits.deBruijn64tab"], apart := false, laid := [("math/bits.deBruijn32tab", laid_math_bits_deBruijn32tab), ("math/bits.deBruijn64tab", laid_math_bits_deBruijn64tab), ("internal/strconv.uint64pow10", laid_internal_strconv_uint64pow10), ("strconv.ErrRange", laid_strconv_ErrRange), ("strconv.ErrSyntax", laid_strconv_ErrSyntax)] }
def TranspositionDividedSaid : Prop := transpositionDividedRow.holds Tryz.pinned (OpenSpec.ofChange transpositionDividedSpec)

/-- ITS FALSE NEIGHBOUR: 'it returns false'. Refute it at one input. -/
def transpositionDividedWrong : ChangeSpec := { name := "transpositionDivided", fn := fun _ => fun
  | [d1, d2] => { results := [.lit (.bool false)], args := [d1, d2] }
  | _ => none }
def TranspositionDividedWrongFalsely : Prop := transpositionDividedRow.holds Tryz.pinned (OpenSpec.ofChange transpositionDividedWrong)

/- THE SECOND FORM. 'bulk': how many values and letters a reading holds, each counted each time it is reached (what is shared counts as often as it is met; a slice's spare places count too). A statement '..UptoSaid' is the law's where the arguments, and the package variables that the reading takes, are together of bulk at most 1048576: NARROWER than '..Said'. Prove '..Said' where nothing that the law and all that it calls make is longer than what came in: it says more and counts as full. Else prove '..UptoSaid'. A law counts once. -/
mutual
def uptoBulk {H : Type} : DataW H → Nat
  | .lit (.string bytes) => bytes.length + 1
  | .lit _ => 1
  | .nil => 1
  | .ptr d => uptoBulk d + 1
  | .slice elems spare => uptoBulkAll elems + uptoBulkAll spare + 1
  | .agg parts => uptoBulkAll parts + 1
  | .iface _ d => uptoBulk d + 1
  | .map entries => uptoBulkEntries entries + 1
  | .held _ => 1
def uptoBulkAll {H : Type} : List (DataW H) → Nat
  | [] => 0
  | d :: r => uptoBulk d + uptoBulkAll r
def uptoBulkEntries {H : Type} : List (Lit × DataW H) → Nat
  | [] => 0
  | x :: r => uptoBulkEntry x + uptoBulkEntries r
def uptoBulkEntry {H : Type} : Lit × DataW H → Nat
  | (.string bytes, d) => bytes.length + uptoBulk d + 1
  | (_, d) => uptoBulk d + 1
 end
def uptoSmall : (H : Type) → List (DataW H) → Bool := fun _ ds => decide (uptoBulkAll ds ≤ 1048576)
def OpenSpec.upto (s : _root_.Go.ChangeSpec) : _root_.Go.OpenSpec := { _root_.Go.OpenSpec.ofChange s with cond := some uptoSmall }

/-- 'apographlaw23.TranspositionPairs', WHERE WHAT IT READS IS OF BULK AT MOST 1048576: true; the input reads as it did. -/
def transpositionPairsUptoRow : OpenClaim := { program := "ytbahddjbncinbaagreatdoor", sum := "5f6f937a0aa45c205de51d4ce1123a3897319dd1fd6dfff5b0fa9c189b65df27", func := "apograph/apographlaw23.TranspositionPairs", spec := "transpositionPairs", inPlace := ["internal/bytealg.IndexByteString"], unfollowed := true, recurses := true, named := ["strconv.ErrSyntax", "strconv.ErrRange", "internal/strconv.uint64pow10", "math/bits.deBruijn32tab", "math/bits.deBruijn64tab"], apart := false, laid := [("math/bits.deBruijn32tab", laid_math_bits_deBruijn32tab), ("math/bits.deBruijn64tab", laid_math_bits_deBruijn64tab), ("internal/strconv.uint64pow10", laid_internal_strconv_uint64pow10), ("strconv.ErrRange", laid_strconv_ErrRange), ("strconv.ErrSyntax", laid_strconv_ErrSyntax)], narrowed := true }
def TranspositionPairsUptoSaid : Prop := transpositionPairsUptoRow.holds Tryz.pinned (OpenSpec.upto transpositionPairsSpec)

/-- 'apographlaw23.TranspositionUnique', WHERE WHAT IT READS IS OF BULK AT MOST 1048576: true; the input reads as it did. -/
def transpositionUniqueUptoRow : OpenClaim := { program := "ytbahddjbncinbaagreatdoor", sum := "5f6f937a0aa45c205de51d4ce1123a3897319dd1fd6dfff5b0fa9c189b65df27", func := "apograph/apographlaw23.TranspositionUnique", spec := "transpositionUnique", inPlace := ["internal/bytealg.IndexByteString"], unfollowed := true, recurses := true, named := ["strconv.ErrSyntax", "strconv.ErrRange", "internal/strconv.uint64pow10", "math/bits.deBruijn32tab", "math/bits.deBruijn64tab"], apart := false, laid := [("math/bits.deBruijn32tab", laid_math_bits_deBruijn32tab), ("math/bits.deBruijn64tab", laid_math_bits_deBruijn64tab), ("internal/strconv.uint64pow10", laid_internal_strconv_uint64pow10), ("strconv.ErrRange", laid_strconv_ErrRange), ("strconv.ErrSyntax", laid_strconv_ErrSyntax)], narrowed := true }
def TranspositionUniqueUptoSaid : Prop := transpositionUniqueUptoRow.holds Tryz.pinned (OpenSpec.upto transpositionUniqueSpec)

/-- 'apographlaw23.TranspositionEqual', WHERE WHAT IT READS IS OF BULK AT MOST 1048576: true; the input reads as it did. -/
def transpositionEqualUptoRow : OpenClaim := { program := "ytbahddjbncinbaagreatdoor", sum := "5f6f937a0aa45c205de51d4ce1123a3897319dd1fd6dfff5b0fa9c189b65df27", func := "apograph/apographlaw23.TranspositionEqual", spec := "transpositionEqual", inPlace := ["internal/bytealg.IndexByteString"], unfollowed := true, recurses := true, named := ["strconv.ErrSyntax", "strconv.ErrRange", "internal/strconv.uint64pow10", "math/bits.deBruijn32tab", "math/bits.deBruijn64tab"], apart := false, laid := [("math/bits.deBruijn32tab", laid_math_bits_deBruijn32tab), ("math/bits.deBruijn64tab", laid_math_bits_deBruijn64tab), ("internal/strconv.uint64pow10", laid_internal_strconv_uint64pow10), ("strconv.ErrRange", laid_strconv_ErrRange), ("strconv.ErrSyntax", laid_strconv_ErrSyntax)], narrowed := true }
def TranspositionEqualUptoSaid : Prop := transpositionEqualUptoRow.holds Tryz.pinned (OpenSpec.upto transpositionEqualSpec)

/-- 'apographlaw23.TranspositionUndone', WHERE WHAT IT READS IS OF BULK AT MOST 1048576: true; the input reads as it did. -/
def transpositionUndoneUptoRow : OpenClaim := { program := "ytbahddjbncinbaagreatdoor", sum := "5f6f937a0aa45c205de51d4ce1123a3897319dd1fd6dfff5b0fa9c189b65df27", func := "apograph/apographlaw23.TranspositionUndone", spec := "transpositionUndone", inPlace := ["internal/bytealg.IndexByteString"], unfollowed := true, recurses := true, named := ["strconv.ErrSyntax", "strconv.ErrRange", "internal/strconv.uint64pow10", "math/bits.deBruijn32tab", "math/bits.deBruijn64tab"], apart := false, laid := [("math/bits.deBruijn32tab", laid_math_bits_deBruijn32tab), ("math/bits.deBruijn64tab", laid_math_bits_deBruijn64tab), ("internal/strconv.uint64pow10", laid_internal_strconv_uint64pow10), ("strconv.ErrRange", laid_strconv_ErrRange), ("strconv.ErrSyntax", laid_strconv_ErrSyntax)], narrowed := true }
def TranspositionUndoneUptoSaid : Prop := transpositionUndoneUptoRow.holds Tryz.pinned (OpenSpec.upto transpositionUndoneSpec)

/-- 'apographlaw23.TranspositionChain', WHERE WHAT IT READS IS OF BULK AT MOST 1048576: true; the input reads as it did. -/
def transpositionChainUptoRow : OpenClaim := { program := "ytbahddjbncinbaagreatdoor", sum := "5f6f937a0aa45c205de51d4ce1123a3897319dd1fd6dfff5b0fa9c189b65df27", func := "apograph/apographlaw23.TranspositionChain", spec := "transpositionChain", inPlace := ["internal/bytealg.IndexByteString"], unfollowed := true, recurses := true, named := ["strconv.ErrSyntax", "strconv.ErrRange", "internal/strconv.uint64pow10", "math/bits.deBruijn32tab", "math/bits.deBruijn64tab"], apart := false, laid := [("math/bits.deBruijn32tab", laid_math_bits_deBruijn32tab), ("math/bits.deBruijn64tab", laid_math_bits_deBruijn64tab), ("internal/strconv.uint64pow10", laid_internal_strconv_uint64pow10), ("strconv.ErrRange", laid_strconv_ErrRange), ("strconv.ErrSyntax", laid_strconv_ErrSyntax)], narrowed := true }
def TranspositionChainUptoSaid : Prop := transpositionChainUptoRow.holds Tryz.pinned (OpenSpec.upto transpositionChainSpec)

/-- 'apographlaw23.TranspositionBlocks', WHERE WHAT IT READS IS OF BULK AT MOST 1048576: true; the input reads as it did. -/
def transpositionBlocksUptoRow : OpenClaim := { program := "ytbahddjbncinbaagreatdoor", sum := "5f6f937a0aa45c205de51d4ce1123a3897319dd1fd6dfff5b0fa9c189b65df27", func := "apograph/apographlaw23.TranspositionBlocks", spec := "transpositionBlocks", inPlace := ["internal/bytealg.IndexByteString"], unfollowed := true, recurses := true, named := ["strconv.ErrSyntax", "strconv.ErrRange", "internal/strconv.uint64pow10", "math/bits.deBruijn32tab", "math/bits.deBruijn64tab"], apart := false, laid := [("math/bits.deBruijn32tab", laid_math_bits_deBruijn32tab), ("math/bits.deBruijn64tab", laid_math_bits_deBruijn64tab), ("internal/strconv.uint64pow10", laid_internal_strconv_uint64pow10), ("strconv.ErrRange", laid_strconv_ErrRange), ("strconv.ErrSyntax", laid_strconv_ErrSyntax)], narrowed := true }
def TranspositionBlocksUptoSaid : Prop := transpositionBlocksUptoRow.holds Tryz.pinned (OpenSpec.upto transpositionBlocksSpec)

/-- 'apographlaw23.TranspositionChecked', WHERE WHAT IT READS IS OF BULK AT MOST 1048576: true; the input reads as it did. -/
def transpositionCheckedUptoRow : OpenClaim := { program := "ytbahddjbncinbaagreatdoor", sum := "5f6f937a0aa45c205de51d4ce1123a3897319dd1fd6dfff5b0fa9c189b65df27", func := "apograph/apographlaw23.TranspositionChecked", spec := "transpositionChecked", inPlace := ["internal/bytealg.IndexByteString"], unfollowed := true, recurses := true, named := ["strconv.ErrSyntax", "strconv.ErrRange", "internal/strconv.uint64pow10", "math/bits.deBruijn32tab", "math/bits.deBruijn64tab"], apart := false, laid := [("math/bits.deBruijn32tab", laid_math_bits_deBruijn32tab), ("math/bits.deBruijn64tab", laid_math_bits_deBruijn64tab), ("internal/strconv.uint64pow10", laid_internal_strconv_uint64pow10), ("strconv.ErrRange", laid_strconv_ErrRange), ("strconv.ErrSyntax", laid_strconv_ErrSyntax)], narrowed := true }
def TranspositionCheckedUptoSaid : Prop := transpositionCheckedUptoRow.holds Tryz.pinned (OpenSpec.upto transpositionCheckedSpec)

/-- 'apographlaw23.TranspositionMoved', WHERE WHAT IT READS IS OF BULK AT MOST 1048576: true; the input reads as it did. -/
def transpositionMovedUptoRow : OpenClaim := { program := "ytbahddjbncinbaagreatdoor", sum := "5f6f937a0aa45c205de51d4ce1123a3897319dd1fd6dfff5b0fa9c189b65df27", func := "apograph/apographlaw23.TranspositionMoved", spec := "transpositionMoved", inPlace := ["slices.overlaps[apograph/api.Token]", "internal/bytealg.IndexByteString"], unfollowed := true, recurses := true, named := ["strconv.ErrSyntax", "strconv.ErrRange", "internal/strconv.uint64pow10", "math/bits.deBruijn32tab", "math/bits.deBruijn64tab"], apart := false, laid := [("math/bits.deBruijn32tab", laid_math_bits_deBruijn32tab), ("math/bits.deBruijn64tab", laid_math_bits_deBruijn64tab), ("internal/strconv.uint64pow10", laid_internal_strconv_uint64pow10), ("strconv.ErrRange", laid_strconv_ErrRange), ("strconv.ErrSyntax", laid_strconv_ErrSyntax)], narrowed := true }
def TranspositionMovedUptoSaid : Prop := transpositionMovedUptoRow.holds Tryz.pinned (OpenSpec.upto transpositionMovedSpec)

/-- 'apographlaw23.TranspositionDivided', WHERE WHAT IT READS IS OF BULK AT MOST 1048576: true; the input reads as it did. -/
def transpositionDividedUptoRow : OpenClaim := { program := "ytbahddjbncinbaagreatdoor", sum := "5f6f937a0aa45c205de51d4ce1123a3897319dd1fd6dfff5b0fa9c189b65df27", func := "apograph/apographlaw23.TranspositionDivided", spec := "transpositionDivided", inPlace := ["internal/bytealg.IndexByteString"], unfollowed := true, recurses := true, named := ["strconv.ErrSyntax", "strconv.ErrRange", "internal/strconv.uint64pow10", "math/bits.deBruijn32tab", "math/bits.deBruijn64tab"], apart := false, laid := [("math/bits.deBruijn32tab", laid_math_bits_deBruijn32tab), ("math/bits.deBruijn64tab", laid_math_bits_deBruijn64tab), ("internal/strconv.uint64pow10", laid_internal_strconv_uint64pow10), ("strconv.ErrRange", laid_strconv_ErrRange), ("strconv.ErrSyntax", laid_strconv_ErrSyntax)], narrowed := true }
def TranspositionDividedUptoSaid : Prop := transpositionDividedUptoRow.holds Tryz.pinned (OpenSpec.upto transpositionDividedSpec)

end Rows
end Go.Proofs.YtbahddjbncinbaaGreatDoor
