/-
  NARROWER THAN 'FOR EVERY INPUT', by the rows' own cells (each row's printed sentence says how): VariantgraphBuilds: laid · VariantgraphFlows: laid · VariantgraphSpells: laid · VariantgraphNodes: laid · VariantgraphChecks: laid · VariantgraphOrders: laid · VariantgraphContracts: laid · VariantgraphPaths: laid.
  DERIVED. THE GIVEN ROWS OF THIS SEAT. 8 by the template 'for every input the law returns true; each argument reads behind the call as it read before'; 0 by the template 'total and deterministic' (their statements: YtjmebijckcimoaaGreatDoorTotals.lean).
  GIVEN WITH THE SEED: the statements are not yours to turn. If you find one false, say at which input.
  Laid BY PROGRAM, IN A SANDBOX (cutbox-rows.mjs): the forced cells as the released guide's own fill.sh prints them over the translation f68c7a79ad509e6b… (all of the seat's roots in one cut). By AI agents, Wed Nov 11 2026. No macro, syntax, notation, axiom, sorry.
-/
import Derived.Test.YtjmebijckcimoaaGreatDoorChecked
import GoSem.Claim
import GoSem.ClaimJoined
import GoSem.ClaimMapViews
import Derived.JoinedTies
import Derived.KernelRfl
namespace Go.Proofs.YtjmebijckcimoaaGreatDoor
/- THE CELL 'sum', in the pinned program and in every row, IS THE sha256 OF THE DUMP (.gsa) THAT YtjmebijckcimoaaGreatDoorProg.lean LOADS. Nothing in Lean hashes anything: it is a label: what it is worth is what the hold of that sum in a sandbox is worth. -/
noncomputable def Tryz.pinned : Pinned := { name := "ytjmebijckcimoaagreatdoor", sum := "f68c7a79ad509e6b515c6be94925d175a6feefe9ecc14d5aa28a1527d129530e", checked := Tryz.checked }
namespace Rows
def none {H : Type} : Left H := { results := [], args := [] }

/- WHAT THE LISTED PACKAGE-LEVEL VARIABLES READ AS WHEN THE CALL BEGINS. Each datum BY PROGRAM (the guide's laid-datum.mjs) off the statement by which the dump's own 'gosem.cut.vars' lays the variable. In a bare row this is a premise. The card (YtjmebijckcimoaaGreatDoorCards.lean) ties it to the program's text. -/
def laid_math_bits_deBruijn32tab {H : Type} : DataW H := .agg [.lit (.int .u8 0), .lit (.int .u8 1), .lit (.int .u8 28), .lit (.int .u8 2), .lit (.int .u8 29), .lit (.int .u8 14), .lit (.int .u8 24), .lit (.int .u8 3), .lit (.int .u8 30), .lit (.int .u8 22), .lit (.int .u8 20), .lit (.int .u8 15), .lit (.int .u8 25), .lit (.int .u8 17), .lit (.int .u8 4), .lit (.int .u8 8), .lit (.int .u8 31), .lit (.int .u8 27), .lit (.int .u8 13), .lit (.int .u8 23), .lit (.int .u8 21), .lit (.int .u8 19), .lit (.int .u8 16), .lit (.int .u8 7), .lit (.int .u8 26), .lit (.int .u8 12), .lit (.int .u8 18), .lit (.int .u8 6), .lit (.int .u8 11), .lit (.int .u8 5), .lit (.int .u8 10), .lit (.int .u8 9)]
def laid_math_bits_deBruijn64tab {H : Type} : DataW H := .agg [.lit (.int .u8 0), .lit (.int .u8 1), .lit (.int .u8 56), .lit (.int .u8 2), .lit (.int .u8 57), .lit (.int .u8 49), .lit (.int .u8 28), .lit (.int .u8 3), .lit (.int .u8 61), .lit (.int .u8 58), .lit (.int .u8 42), .lit (.int .u8 50), .lit (.int .u8 38), .lit (.int .u8 29), .lit (.int .u8 17), .lit (.int .u8 4), .lit (.int .u8 62), .lit (.int .u8 47), .lit (.int .u8 59), .lit (.int .u8 36), .lit (.int .u8 45), .lit (.int .u8 43), .lit (.int .u8 51), .lit (.int .u8 22), .lit (.int .u8 53), .lit (.int .u8 39), .lit (.int .u8 33), .lit (.int .u8 30), .lit (.int .u8 24), .lit (.int .u8 18), .lit (.int .u8 12), .lit (.int .u8 5), .lit (.int .u8 63), .lit (.int .u8 55), .lit (.int .u8 48), .lit (.int .u8 27), .lit (.int .u8 60), .lit (.int .u8 41), .lit (.int .u8 37), .lit (.int .u8 16), .lit (.int .u8 46), .lit (.int .u8 35), .lit (.int .u8 44), .lit (.int .u8 21), .lit (.int .u8 52), .lit (.int .u8 32), .lit (.int .u8 23), .lit (.int .u8 11), .lit (.int .u8 54), .lit (.int .u8 26), .lit (.int .u8 40), .lit (.int .u8 15), .lit (.int .u8 34), .lit (.int .u8 20), .lit (.int .u8 31), .lit (.int .u8 10), .lit (.int .u8 25), .lit (.int .u8 14), .lit (.int .u8 19), .lit (.int .u8 9), .lit (.int .u8 13), .lit (.int .u8 8), .lit (.int .u8 7), .lit (.int .u8 6)]
def laid_internal_strconv_uint64pow10 {H : Type} : DataW H := .agg [.lit (.int .u64 1), .lit (.int .u64 10), .lit (.int .u64 100), .lit (.int .u64 1000), .lit (.int .u64 10000), .lit (.int .u64 100000), .lit (.int .u64 1000000), .lit (.int .u64 10000000), .lit (.int .u64 100000000), .lit (.int .u64 1000000000), .lit (.int .u64 10000000000), .lit (.int .u64 100000000000), .lit (.int .u64 1000000000000), .lit (.int .u64 10000000000000), .lit (.int .u64 100000000000000), .lit (.int .u64 1000000000000000), .lit (.int .u64 10000000000000000), .lit (.int .u64 100000000000000000), .lit (.int .u64 1000000000000000000), .lit (.int .u64 10000000000000000000)]
def laid_strconv_ErrRange {H : Type} : DataW H := .iface "*errors.errorString" (.ptr (.agg [.lit (.string [118, 97, 108, 117, 101, 32, 111, 117, 116, 32, 111, 102, 32, 114, 97, 110, 103, 101])]))
def laid_strconv_ErrSyntax {H : Type} : DataW H := .iface "*errors.errorString" (.ptr (.agg [.lit (.string [105, 110, 118, 97, 108, 105, 100, 32, 115, 121, 110, 116, 97, 120])]))

/-- 'apographlaw24.VariantgraphBuilds': WHATEVER THE INPUT: true; the input reads as it did. -/
def variantgraphBuildsSpec : ChangeSpec := { name := "variantgraphBuilds", fn := fun _ => fun
  | [d1, d2] => { results := [.lit (.bool true)], args := [d1, d2] }
  | _ => none }
def variantgraphBuildsRow : OpenClaim := { program := "ytjmebijckcimoaagreatdoor", sum := "f68c7a79ad509e6b515c6be94925d175a6feefe9ecc14d5aa28a1527d129530e", func := "apograph/apographlaw24.VariantgraphBuilds", spec := "variantgraphBuilds", inPlace := ["internal/bytealg.IndexByteString"], unfollowed := true, recurses := true, named := ["strconv.ErrSyntax", "strconv.ErrRange", "internal/strconv.uint64pow10", "math/bits.deBruijn32tab", "math/bits.deBruijn64tab"], plainKeys := false, apart := false, laid := [("math/bits.deBruijn32tab", laid_math_bits_deBruijn32tab), ("math/bits.deBruijn64tab", laid_math_bits_deBruijn64tab), ("internal/strconv.uint64pow10", laid_internal_strconv_uint64pow10), ("strconv.ErrRange", laid_strconv_ErrRange), ("strconv.ErrSyntax", laid_strconv_ErrSyntax)] }
def VariantgraphBuildsSaid : Prop := variantgraphBuildsRow.holds Tryz.pinned (OpenSpec.ofChange variantgraphBuildsSpec)

/-- ITS FALSE NEIGHBOUR: 'it returns false'. Refute it at one input. -/
def variantgraphBuildsWrong : ChangeSpec := { name := "variantgraphBuilds", fn := fun _ => fun
  | [d1, d2] => { results := [.lit (.bool false)], args := [d1, d2] }
  | _ => none }
def VariantgraphBuildsWrongFalsely : Prop := variantgraphBuildsRow.holds Tryz.pinned (OpenSpec.ofChange variantgraphBuildsWrong)

/-- 'apographlaw24.VariantgraphFlows': WHATEVER THE INPUT: true; the input reads as it did. -/
def variantgraphFlowsSpec : ChangeSpec := { name := "variantgraphFlows", fn := fun _ => fun
  | [d] => { results := [.lit (.bool true)], args := [d] }
  | _ => none }
def variantgraphFlowsRow : OpenClaim := { program := "ytjmebijckcimoaagreatdoor", sum := "f68c7a79ad509e6b515c6be94925d175a6feefe9ecc14d5aa28a1527d129530e", func := "apograph/apographlaw24.VariantgraphFlows", spec := "variantgraphFlows", inPlace := ["internal/bytealg.IndexByteString"], unfollowed := true, recurses := true, named := ["strconv.ErrSyntax", "strconv.ErrRange", "internal/strconv.uint64pow10", "math/bits.deBruijn32tab", "math/bits.deBruijn64tab"], plainKeys := false, apart := false, laid := [("math/bits.deBruijn32tab", laid_math_bits_deBruijn32tab), ("math/bits.deBruijn64tab", laid_math_bits_deBruijn64tab), ("internal/strconv.uint64pow10", laid_internal_strconv_uint64pow10), ("strconv.ErrRange", laid_strconv_ErrRange), ("strconv.ErrSyntax", laid_strconv_ErrSyntax)] }
def VariantgraphFlowsSaid : Prop := variantgraphFlowsRow.holds Tryz.pinned (OpenSpec.ofChange variantgraphFlowsSpec)

/-- ITS FALSE NEIGHBOUR: 'it returns false'. Refute it at one input. -/
def variantgraphFlowsWrong : ChangeSpec := { name := "variantgraphFlows", fn := fun _ => fun
  | [d] => { results := [.lit (.bool false)], args := [d] }
  | _ => none }
def VariantgraphFlowsWrongFalsely : Prop := variantgraphFlowsRow.holds Tryz.pinned (OpenSpec.ofChange variantgraphFlowsWrong)

/-- 'apographlaw24.VariantgraphSpells': WHATEVER THE INPUT: true; the input reads as it did. -/
def variantgraphSpellsSpec : ChangeSpec := { name := "variantgraphSpells", fn := fun _ => fun
  | [d] => { results := [.lit (.bool true)], args := [d] }
  | _ => none }
def variantgraphSpellsRow : OpenClaim := { program := "ytjmebijckcimoaagreatdoor", sum := "f68c7a79ad509e6b515c6be94925d175a6feefe9ecc14d5aa28a1527d129530e", func := "apograph/apographlaw24.VariantgraphSpells", spec := "variantgraphSpells", inPlace := ["internal/bytealg.IndexByteString"], unfollowed := true, recurses := true, named := ["internal/strconv.uint64pow10", "math/bits.deBruijn32tab", "math/bits.deBruijn64tab", "strconv.ErrSyntax", "strconv.ErrRange"], plainKeys := false, apart := false, laid := [("math/bits.deBruijn32tab", laid_math_bits_deBruijn32tab), ("math/bits.deBruijn64tab", laid_math_bits_deBruijn64tab), ("internal/strconv.uint64pow10", laid_internal_strconv_uint64pow10), ("strconv.ErrRange", laid_strconv_ErrRange), ("strconv.ErrSyntax", laid_strconv_ErrSyntax)] }
def VariantgraphSpellsSaid : Prop := variantgraphSpellsRow.holds Tryz.pinned (OpenSpec.ofChange variantgraphSpellsSpec)

/-- ITS FALSE NEIGHBOUR: 'it returns false'. Refute it at one input. -/
def variantgraphSpellsWrong : ChangeSpec := { name := "variantgraphSpells", fn := fun _ => fun
  | [d] => { results := [.lit (.bool false)], args := [d] }
  | _ => none }
def VariantgraphSpellsWrongFalsely : Prop := variantgraphSpellsRow.holds Tryz.pinned (OpenSpec.ofChange variantgraphSpellsWrong)

/-- 'apographlaw24.VariantgraphNodes': WHATEVER THE INPUT: true; the input reads as it did. -/
def variantgraphNodesSpec : ChangeSpec := { name := "variantgraphNodes", fn := fun _ => fun
  | [d] => { results := [.lit (.bool true)], args := [d] }
  | _ => none }
def variantgraphNodesRow : OpenClaim := { program := "ytjmebijckcimoaagreatdoor", sum := "f68c7a79ad509e6b515c6be94925d175a6feefe9ecc14d5aa28a1527d129530e", func := "apograph/apographlaw24.VariantgraphNodes", spec := "variantgraphNodes", inPlace := ["internal/bytealg.IndexByteString"], unfollowed := true, recurses := true, named := ["internal/strconv.uint64pow10", "math/bits.deBruijn32tab", "math/bits.deBruijn64tab", "strconv.ErrSyntax", "strconv.ErrRange"], plainKeys := false, apart := false, laid := [("math/bits.deBruijn32tab", laid_math_bits_deBruijn32tab), ("math/bits.deBruijn64tab", laid_math_bits_deBruijn64tab), ("internal/strconv.uint64pow10", laid_internal_strconv_uint64pow10), ("strconv.ErrRange", laid_strconv_ErrRange), ("strconv.ErrSyntax", laid_strconv_ErrSyntax)] }
def VariantgraphNodesSaid : Prop := variantgraphNodesRow.holds Tryz.pinned (OpenSpec.ofChange variantgraphNodesSpec)

/-- ITS FALSE NEIGHBOUR: 'it returns false'. Refute it at one input. -/
def variantgraphNodesWrong : ChangeSpec := { name := "variantgraphNodes", fn := fun _ => fun
  | [d] => { results := [.lit (.bool false)], args := [d] }
  | _ => none }
def VariantgraphNodesWrongFalsely : Prop := variantgraphNodesRow.holds Tryz.pinned (OpenSpec.ofChange variantgraphNodesWrong)

/-- 'apographlaw24.VariantgraphChecks': WHATEVER THE INPUT: true; the input reads as it did. -/
def variantgraphChecksSpec : ChangeSpec := { name := "variantgraphChecks", fn := fun _ => fun
  | [d1, d2, d3] => { results := [.lit (.bool true)], args := [d1, d2, d3] }
  | _ => none }
def variantgraphChecksRow : OpenClaim := { program := "ytjmebijckcimoaagreatdoor", sum := "f68c7a79ad509e6b515c6be94925d175a6feefe9ecc14d5aa28a1527d129530e", func := "apograph/apographlaw24.VariantgraphChecks", spec := "variantgraphChecks", inPlace := ["internal/bytealg.IndexByteString"], unfollowed := true, recurses := true, named := ["strconv.ErrSyntax", "strconv.ErrRange", "internal/strconv.uint64pow10", "math/bits.deBruijn32tab", "math/bits.deBruijn64tab"], plainKeys := false, apart := false, laid := [("math/bits.deBruijn32tab", laid_math_bits_deBruijn32tab), ("math/bits.deBruijn64tab", laid_math_bits_deBruijn64tab), ("internal/strconv.uint64pow10", laid_internal_strconv_uint64pow10), ("strconv.ErrRange", laid_strconv_ErrRange), ("strconv.ErrSyntax", laid_strconv_ErrSyntax)] }
def VariantgraphChecksSaid : Prop := variantgraphChecksRow.holds Tryz.pinned (OpenSpec.ofChange variantgraphChecksSpec)

/-- ITS FALSE NEIGHBOUR: 'it returns false'. Refute it at one input. -/
def variantgraphChecksWrong : ChangeSpec := { name := "variantgraphChecks", fn := fun _ => fun
  | [d1, d2, d3] => { results := [.lit (.bool false)], args := [d1, d2, d3] }
  | _ => none }
def VariantgraphChecksWrongFalsely : Prop := variantgraphChecksRow.holds Tryz.pinned (OpenSpec.ofChange variantgraphChecksWrong)

/-- 'apographlaw24.VariantgraphOrders': WHATEVER THE INPUT: true; the input reads as it did. -/
def variantgraphOrdersSpec : ChangeSpec := { name := "variantgraphOrders", fn := fun _ => fun
  | [d1, d2, d3] => { results := [.lit (.bool true)], args := [d1, d2, d3] }
  | _ => none }
def variantgraphOrdersRow : OpenClaim := { program := "ytjmebijckcimoaagreatdoor", sum := "f68c7a79ad509e6b515c6be94925d175a6feefe9ecc14d5aa28a1527d129530e", func := "apograph/apographlaw24.VariantgraphOrders", spec := "variantgraphOrders", inPlace := ["internal/bytealg.IndexByteString"], unfollowed := true, recurses := true, named := ["internal/strconv.uint64pow10", "math/bits.deBruijn32tab", "math/bits.deBruijn64tab", "strconv.ErrSyntax", "strconv.ErrRange"], plainKeys := false, apart := false, laid := [("math/bits.deBruijn32tab", laid_math_bits_deBruijn32tab), ("math/bits.deBruijn64tab", laid_math_bits_deBruijn64tab), ("internal/strconv.uint64pow10", laid_internal_strconv_uint64pow10), ("strconv.ErrRange", laid_strconv_ErrRange), ("strconv.ErrSyntax", laid_strconv_ErrSyntax)] }
def VariantgraphOrdersSaid : Prop := variantgraphOrdersRow.holds Tryz.pinned (OpenSpec.ofChange variantgraphOrdersSpec)

/-- ITS FALSE NEIGHBOUR: 'it returns false'. Refute it at one input. -/
def variantgraphOrdersWrong : ChangeSpec := { name := "variantgraphOrders", fn := fun _ => fun
  | [d1, d2, d3] => { results := [.lit (.bool false)], args := [d1, d2, d3] }
  | _ => none }
def VariantgraphOrdersWrongFalsely : Prop := variantgraphOrdersRow.holds Tryz.pinned (OpenSpec.ofChange variantgraphOrdersWrong)

/-- 'apographlaw24.VariantgraphContracts': WHATEVER THE INPUT: true; the input reads as it did. -/
def variantgraphContractsSpec : ChangeSpec := { name := "variantgraphContracts", fn := fun _ => fun
  | [d] => { results := [.lit (.bool true)], args := [d] }
  | _ => none }
def variantgraphContractsRow : OpenClaim := { program := "ytjmebijckcimoaagreatdoor", sum := "f68c7a79ad509e6b515c6be94925d175a6feefe9ecc14d5aa28a1527d129530e", func := "apograph/apographlaw24.VariantgraphContracts", spec := "variantgraphContracts", inPlace := ["internal/bytealg.IndexByteString", "internal/abi.NoEscape", "internal/bytealg.MakeNoZero"], unfollowed := true, recurses := true, named := ["strconv.ErrSyntax", "strconv.ErrRange", "internal/strconv.uint64pow10", "math/bits.deBruijn32tab", "math/bits.deBruijn64tab"], plainKeys := false, apart := false, laid := [("math/bits.deBruijn32tab", laid_math_bits_deBruijn32tab), ("math/bits.deBruijn64tab", laid_math_bits_deBruijn64tab), ("internal/strconv.uint64pow10", laid_internal_strconv_uint64pow10), ("strconv.ErrRange", laid_strconv_ErrRange), ("strconv.ErrSyntax", laid_strconv_ErrSyntax)] }
def VariantgraphContractsSaid : Prop := variantgraphContractsRow.holds Tryz.pinned (OpenSpec.ofChange variantgraphContractsSpec)

/-- ITS FALSE NEIGHBOUR: 'it returns false'. Refute it at one input. -/
def variantgraphContractsWrong : ChangeSpec := { name := "variantgraphContracts", fn := fun _ => fun
  | [d] => { results := [.lit (.bool false)], args := [d] }
  | _ => none }
def VariantgraphContractsWrongFalsely : Prop := variantgraphContractsRow.holds Tryz.pinned (OpenSpec.ofChange variantgraphContractsWrong)

/-- 'apographlaw24.VariantgraphPaths': WHATEVER THE INPUT: true; the input reads as it did. -/
def variantgraphPathsSpec : ChangeSpec := { name := "variantgraphPaths", fn := fun _ => fun
  | [d] => { results := [.lit (.bool true)], args := [d] }
  | _ => none }
def variantgraphPathsRow : OpenClaim := { program := "ytjmebijckcimoaagreatdoor", sum := "f68c7a79ad509e6b515c6be94925d175a6feefe9ecc14d5aa28a1527d129530e", func := "apograph/apographlaw24.VariantgraphPaths", spec := "variantgraphPaths", inPlace := ["internal/bytealg.IndexByteString", "internal/abi.NoEscape", "internal/bytealg.MakeNoZero"], unfollowed := true, recurses := true, named := ["internal/strconv.uint64pow10", "math/bits.deBruijn32tab", "math/bits.deBruijn64tab", "strconv.ErrSyntax", "strconv.ErrRange"], plainKeys := false, apart := false, laid := [("math/bits.deBruijn32tab", laid_math_bits_deBruijn32tab), ("math/bits.deBruijn64tab", laid_math_bits_deBruijn64tab), ("internal/strconv.uint64pow10", laid_internal_strconv_uint64pow10), ("strconv.ErrRange", laid_strconv_ErrRange), ("strconv.ErrSyntax", laid_strconv_ErrSyntax)] }
def VariantgraphPathsSaid : Prop := variantgraphPathsRow.holds Tryz.pinned (OpenSpec.ofChange variantgraphPathsSpec)

/-- ITS FALSE NEIGHBOUR: 'it returns false'. Refute it at one input. -/
def variantgraphPathsWrong : ChangeSpec := { name := "variantgraphPaths", fn := fun _ => fun
  | [d] => { results := [.lit (.bool false)], args := [d] }
  | _ => none }
def VariantgraphPathsWrongFalsely : Prop := variantgraphPathsRow.holds Tryz.pinned (OpenSpec.ofChange variantgraphPathsWrong)

/- THE SECOND FORM. 'bulk': how many values and letters a reading holds, each counted each time it is reached (what is shared counts as often as it is met; a slice's spare places count too). A statement '..UptoSaid' is the law's where the arguments, and the package variables that the reading takes, are together of bulk at most 1048576: NARROWER than '..Said'. Prove '..Said' where nothing that the law and all that it calls make is longer than what came in: it says more and counts as full. Else prove '..UptoSaid'. A law counts once. -/
mutual
def uptoBulk {H : Type} : DataW H → Nat
  | .lit (.string bytes) => bytes.length + 1
  | .lit _ => 1
  | .nil => 1
  | .ptr d => uptoBulk d + 1
  | .slice elems spare => uptoBulkAll elems + uptoBulkAll spare + 1
  | .agg parts => uptoBulkAll parts + 1
  | .iface _ d => uptoBulk d + 1
  | .map entries => uptoBulkEntries entries + 1
  | .held _ => 1
def uptoBulkAll {H : Type} : List (DataW H) → Nat
  | [] => 0
  | d :: r => uptoBulk d + uptoBulkAll r
def uptoBulkEntries {H : Type} : List (Lit × DataW H) → Nat
  | [] => 0
  | x :: r => uptoBulkEntry x + uptoBulkEntries r
def uptoBulkEntry {H : Type} : Lit × DataW H → Nat
  | (.string bytes, d) => bytes.length + uptoBulk d + 1
  | (_, d) => uptoBulk d + 1
 end
def uptoSmall : (H : Type) → List (DataW H) → Bool := fun _ ds => decide (uptoBulkAll ds ≤ 1048576)
def OpenSpec.upto (s : _root_.Go.ChangeSpec) : _root_.Go.OpenSpec := { _root_.Go.OpenSpec.ofChange s with cond := some uptoSmall }

/-- 'apographlaw24.VariantgraphBuilds', WHERE WHAT IT READS IS OF BULK AT MOST 1048576: true; the input reads as it did. -/
def variantgraphBuildsUptoRow : OpenClaim := { program := "ytjmebijckcimoaagreatdoor", sum := "f68c7a79ad509e6b515c6be94925d175a6feefe9ecc14d5aa28a1527d129530e", func := "apograph/apographlaw24.VariantgraphBuilds", spec := "variantgraphBuilds", inPlace := ["internal/bytealg.IndexByteString"], unfollowed := true, recurses := true, named := ["strconv.ErrSyntax", "strconv.ErrRange", "internal/strconv.uint64pow10", "math/bits.deBruijn32tab", "math/bits.deBruijn64tab"], plainKeys := false, apart := false, laid := [("math/bits.deBruijn32tab", laid_math_bits_deBruijn32tab), ("math/bits.deBruijn64tab", laid_math_bits_deBruijn64tab), ("internal/strconv.uint64pow10", laid_internal_strconv_uint64pow10), ("strconv.ErrRange", laid_strconv_ErrRange), ("strconv.ErrSyntax", laid_strconv_ErrSyntax)], narrowed := true }
def VariantgraphBuildsUptoSaid : Prop := variantgraphBuildsUptoRow.holds Tryz.pinned (OpenSpec.upto variantgraphBuildsSpec)

/-- 'apographlaw24.VariantgraphFlows', WHERE WHAT IT READS IS OF BULK AT MOST 1048576: true; the input reads as it did. -/
def variantgraphFlowsUptoRow : OpenClaim := { program := "ytjmebijckcimoaagreatdoor", sum := "f68c7a79ad509e6b515c6be94925d175a6feefe9ecc14d5aa28a1527d129530e", func := "apograph/apographlaw24.VariantgraphFlows", spec := "variantgraphFlows", inPlace := ["internal/bytealg.IndexByteString"], unfollowed := true, recurses := true, named := ["strconv.ErrSyntax", "strconv.ErrRange", "internal/strconv.uint64pow10", "math/bits.deBruijn32tab", "math/bits.deBruijn64tab"], plainKeys := false, apart := false, laid := [("math/bits.deBruijn32tab", laid_math_bits_deBruijn32tab), ("math/bits.deBruijn64tab", laid_math_bits_deBruijn64tab), ("internal/strconv.uint64pow10", laid_internal_strconv_uint64pow10), ("strconv.ErrRange", laid_strconv_ErrRange), ("strconv.ErrSyntax", laid_strconv_ErrSyntax)], narrowed := true }
def VariantgraphFlowsUptoSaid : Prop := variantgraphFlowsUptoRow.holds Tryz.pinned (OpenSpec.upto variantgraphFlowsSpec)

/-- 'apographlaw24.VariantgraphSpells', WHERE WHAT IT READS IS OF BULK AT MOST 1048576: true; the input reads as it did. -/
def variantgraphSpellsUptoRow : OpenClaim := { program := "ytjmebijckcimoaagreatdoor", sum := "f68c7a79ad509e6b515c6be94925d175a6feefe9ecc14d5aa28a1527d129530e", func := "apograph/apographlaw24.VariantgraphSpells", spec := "variantgraphSpells", inPlace := ["internal/bytealg.IndexByteString"], unfollowed := true, recurses := true, named := ["internal/strconv.uint64pow10", "math/bits.deBruijn32tab", "math/bits.deBruijn64tab", "strconv.ErrSyntax", "strconv.ErrRange"], plainKeys := false, apart := false, laid := [("math/bits.deBruijn32tab", laid_math_bits_deBruijn32tab), ("math/bits.deBruijn64tab", laid_math_bits_deBruijn64tab), ("internal/strconv.uint64pow10", laid_internal_strconv_uint64pow10), ("strconv.ErrRange", laid_strconv_ErrRange), ("strconv.ErrSyntax", laid_strconv_ErrSyntax)], narrowed := true }
def VariantgraphSpellsUptoSaid : Prop := variantgraphSpellsUptoRow.holds Tryz.pinned (OpenSpec.upto variantgraphSpellsSpec)

/-- 'apographlaw24.VariantgraphNodes', WHERE WHAT IT READS IS OF BULK AT MOST 1048576: true; the input reads as it did. -/
def variantgraphNodesUptoRow : OpenClaim := { program := "ytjmebijckcimoaagreatdoor", sum := "f68c7a79ad509e6b515c6be94925d175a6feefe9ecc14d5aa28a1527d129530e", func := "apograph/apographlaw24.VariantgraphNodes", spec := "variantgraphNodes", inPlace := ["internal/bytealg.IndexByteString"], unfollowed := true, recurses := true, named := ["internal/strconv.uint64pow10", "math/bits.deBruijn32tab", "math/bits.deBruijn64tab", "strconv.ErrSyntax", "strconv.ErrRange"], plainKeys := false, apart := false, laid := [("math/bits.deBruijn32tab", laid_math_bits_deBruijn32tab), ("math/bits.deBruijn64tab", laid_math_bits_deBruijn64tab), ("internal/strconv.uint64pow10", laid_internal_strconv_uint64pow10), ("strconv.ErrRange", laid_strconv_ErrRange), ("strconv.ErrSyntax", laid_strconv_ErrSyntax)], narrowed := true }
def VariantgraphNodesUptoSaid : Prop := variantgraphNodesUptoRow.holds Tryz.pinned (OpenSpec.upto variantgraphNodesSpec)

/-- 'apographlaw24.VariantgraphChecks', WHERE WHAT IT READS IS OF BULK AT MOST 1048576: true; the input reads as it did. -/
def variantgraphChecksUptoRow : OpenClaim := { program := "ytjmebijckcimoaagreatdoor", sum := "f68c7a79ad509e6b515c6be94925d175a6feefe9ecc14d5aa28a1527d129530e", func := "apograph/apographlaw24.VariantgraphChecks", spec := "variantgraphChecks", inPlace := ["internal/bytealg.IndexByteString"], unfollowed := true, recurses := true, named := ["strconv.ErrSyntax", "strconv.ErrRange", "internal/strconv.uint64pow10", "math/bits.deBruijn32tab", "math/bits.deBruijn64tab"], plainKeys := false, apart := false, laid := [("math/bits.deBruijn32tab", laid_math_bits_deBruijn32tab), ("math/bits.deBruijn64tab", laid_math_bits_deBruijn64tab), ("internal/strconv.uint64pow10", laid_internal_strconv_uint64pow10), ("strconv.ErrRange", laid_strconv_ErrRange), ("strconv.ErrSyntax", laid_strconv_ErrSyntax)], narrowed := true }
def VariantgraphChecksUptoSaid : Prop := variantgraphChecksUptoRow.holds Tryz.pinned (OpenSpec.upto variantgraphChecksSpec)

/-- 'apographlaw24.VariantgraphOrders', WHERE WHAT IT READS IS OF BULK AT MOST 1048576: true; the input reads as it did. -/
def variantgraphOrdersUptoRow : OpenClaim := { program := "ytjmebijckcimoaagreatdoor", sum := "f68c7a79ad509e6b515c6be94925d175a6feefe9ecc14d5aa28a1527d129530e", func := "apograph/apographlaw24.VariantgraphOrders", spec := "variantgraphOrders", inPlace := ["internal/bytealg.IndexByteString"], unfollowed := true, recurses := true, named := ["internal/strconv.uint64pow10", "math/bits.deBruijn32tab", "math/bits.deBruijn64tab", "strconv.ErrSyntax", "strconv.ErrRange"], plainKeys := false, apart := false, laid := [("math/bits.deBruijn32tab", laid_math_bits_deBruijn32tab), ("math/bits.deBruijn64tab", laid_math_bits_deBruijn64tab), ("internal/strconv.uint64pow10", laid_internal_strconv_uint64pow10), ("strconv.ErrRange", laid_strconv_ErrRange), ("strconv.ErrSyntax", laid_strconv_ErrSyntax)], narrowed := true }
def VariantgraphOrdersUptoSaid : Prop := variantgraphOrdersUptoRow.holds Tryz.pinned (OpenSpec.upto variantgraphOrdersSpec)

/-- 'apographlaw24.VariantgraphContracts', WHERE WHAT IT READS IS OF BULK AT MOST 1048576: true; the input reads as it did. -/
def variantgraphContractsUptoRow : OpenClaim := { program := "ytjmebijckcimoaagreatdoor", sum := "f68c7a79ad509e6b515c6be94925d175a6feefe9ecc14d5aa28a1527d129530e", func := "apograph/apographlaw24.VariantgraphContracts", spec := "variantgraphContracts", inPlace := ["internal/bytealg.IndexByteString", "internal/abi.NoEscape", "internal/bytealg.MakeNoZero"], unfollowed := true, recurses := true, named := ["strconv.ErrSyntax", "strconv.ErrRange", "internal/strconv.uint64pow10", "math/bits.deBruijn32tab", "math/bits.deBruijn64tab"], plainKeys := false, apart := false, laid := [("math/bits.deBruijn32tab", laid_math_bits_deBruijn32tab), ("math/bits.deBruijn64tab", laid_math_bits_deBruijn64tab), ("internal/strconv.uint64pow10", laid_internal_strconv_uint64pow10), ("strconv.ErrRange", laid_strconv_ErrRange), ("strconv.ErrSyntax", laid_strconv_ErrSyntax)], narrowed := true }
def VariantgraphContractsUptoSaid : Prop := variantgraphContractsUptoRow.holds Tryz.pinned (OpenSpec.upto variantgraphContractsSpec)

/-- 'apographlaw24.VariantgraphPaths', WHERE WHAT IT READS IS OF BULK AT MOST 1048576: true; the input reads as it did. -/
def variantgraphPathsUptoRow : OpenClaim := { program := "ytjmebijckcimoaagreatdoor", sum := "f68c7a79ad509e6b515c6be94925d175a6feefe9ecc14d5aa28a1527d129530e", func := "apograph/apographlaw24.VariantgraphPaths", spec := "variantgraphPaths", inPlace := ["internal/bytealg.IndexByteString", "internal/abi.NoEscape", "internal/bytealg.MakeNoZero"], unfollowed := true, recurses := true, named := ["internal/strconv.uint64pow10", "math/bits.deBruijn32tab", "math/bits.deBruijn64tab", "strconv.ErrSyntax", "strconv.ErrRange"], plainKeys := false, apart := false, laid := [("math/bits.deBruijn32tab", laid_math_bits_deBruijn32tab), ("math/bits.deBruijn64tab", laid_math_bits_deBruijn64tab), ("internal/strconv.uint64pow10", laid_internal_strconv_uint64pow10), ("strconv.ErrRange", laid_strconv_ErrRange), ("strconv.ErrSyntax", laid_strconv_ErrSyntax)], narrowed := true }
def VariantgraphPathsUptoSaid : Prop := variantgraphPathsUptoRow.holds Tryz.pinned (OpenSpec.upto variantgraphPathsSpec)

end Rows
end Go.Proofs.YtjmebijckcimoaaGreatDoor
