/-
  No cell of these rows narrows 'for every input' (looked for: loops, veiled, ifaces, maps, wideKeys, modest, calm, conditions, laid).
  DERIVED. THE GIVEN ROWS OF THIS SEAT. 8 by the template 'for every input the law returns true; each argument reads behind the call as it read before'; 0 by the template 'total and deterministic' (their statements: YtbcnbchpcbglhaaTotals.lean).
  GIVEN WITH THE SEED: the statements are not yours to turn. If you find one false, say at which input.
  Laid BY PROGRAM, IN A SANDBOX (cutbox-rows.mjs): the forced cells as the released guide's own fill.sh prints them over the translation 61b53733ccaa7043… (all of the seat's roots in one cut). By AI agents, Wed Nov 11 2026. No macro, syntax, notation, axiom, sorry.
-/
import Derived.Test.YtbcnbchpcbglhaaChecked
import GoSem.Claim
import GoSem.ClaimJoined
import GoSem.ClaimMapViews
import Derived.JoinedTies
import Derived.KernelRfl
namespace Go.Proofs.Ytbcnbchpcbglhaa
/- THE CELL 'sum', in the pinned program and in every row, IS THE sha256 OF THE DUMP (.gsa) THAT YtbcnbchpcbglhaaProg.lean LOADS. Nothing in Lean hashes anything: it is a label: what it is worth is what the hold of that sum in a sandbox is worth. -/
noncomputable def Try.pinned : Pinned := { name := "ytbcnbchpcbglhaa", sum := "61b53733ccaa704337ed0e69f6e80140ab581374c16320d12dde4da8559732b1", checked := Try.checked }
namespace Rows
def none {H : Type} : Left H := { results := [], args := [] }

/-- 'apographlaw30.AgreementGroups': WHATEVER THE INPUT: true; the input reads as it did. -/
def agreementGroupsSpec : ChangeSpec := { name := "agreementGroups", fn := fun _ => fun
  | [d1, d2, d3, d4] => { results := [.lit (.bool true)], args := [d1, d2, d3, d4] }
  | _ => none }
def agreementGroupsRow : OpenClaim := { program := "ytbcnbchpcbglhaa", sum := "61b53733ccaa704337ed0e69f6e80140ab581374c16320d12dde4da8559732b1", func := "apograph/apographlaw30.AgreementGroups", spec := "agreementGroups", unfollowed := true, recurses := true, apart := false }
def AgreementGroupsSaid : Prop := agreementGroupsRow.holds Try.pinned (OpenSpec.ofChange agreementGroupsSpec)

/-- ITS FALSE NEIGHBOUR: 'it returns false'. Refute it at one input. -/
def agreementGroupsWrong : ChangeSpec := { name := "agreementGroups", fn := fun _ => fun
  | [d1, d2, d3, d4] => { results := [.lit (.bool false)], args := [d1, d2, d3, d4] }
  | _ => none }
def AgreementGroupsWrongFalsely : Prop := agreementGroupsRow.holds Try.pinned (OpenSpec.ofChange agreementGroupsWrong)

/-- 'apographlaw30.AgreementNames': WHATEVER THE INPUT: true; the input reads as it did. -/
def agreementNamesSpec : ChangeSpec := { name := "agreementNames", fn := fun _ => fun
  | [d1, d2, d3] => { results := [.lit (.bool true)], args := [d1, d2, d3] }
  | _ => none }
def agreementNamesRow : OpenClaim := { program := "ytbcnbchpcbglhaa", sum := "61b53733ccaa704337ed0e69f6e80140ab581374c16320d12dde4da8559732b1", func := "apograph/apographlaw30.AgreementNames", spec := "agreementNames", unfollowed := true, recurses := true, apart := false }
def AgreementNamesSaid : Prop := agreementNamesRow.holds Try.pinned (OpenSpec.ofChange agreementNamesSpec)

/-- ITS FALSE NEIGHBOUR: 'it returns false'. Refute it at one input. -/
def agreementNamesWrong : ChangeSpec := { name := "agreementNames", fn := fun _ => fun
  | [d1, d2, d3] => { results := [.lit (.bool false)], args := [d1, d2, d3] }
  | _ => none }
def AgreementNamesWrongFalsely : Prop := agreementNamesRow.holds Try.pinned (OpenSpec.ofChange agreementNamesWrong)

/-- 'apographlaw30.AgreementNearest': WHATEVER THE INPUT: true; the input reads as it did. -/
def agreementNearestSpec : ChangeSpec := { name := "agreementNearest", fn := fun _ => fun
  | [d1, d2] => { results := [.lit (.bool true)], args := [d1, d2] }
  | _ => none }
def agreementNearestRow : OpenClaim := { program := "ytbcnbchpcbglhaa", sum := "61b53733ccaa704337ed0e69f6e80140ab581374c16320d12dde4da8559732b1", func := "apograph/apographlaw30.AgreementNearest", spec := "agreementNearest", unfollowed := true, recurses := true, apart := false }
def AgreementNearestSaid : Prop := agreementNearestRow.holds Try.pinned (OpenSpec.ofChange agreementNearestSpec)

/-- ITS FALSE NEIGHBOUR: 'it returns false'. Refute it at one input. -/
def agreementNearestWrong : ChangeSpec := { name := "agreementNearest", fn := fun _ => fun
  | [d1, d2] => { results := [.lit (.bool false)], args := [d1, d2] }
  | _ => none }
def AgreementNearestWrongFalsely : Prop := agreementNearestRow.holds Try.pinned (OpenSpec.ofChange agreementNearestWrong)

/-- 'apographlaw30.AgreementTables': WHATEVER THE INPUT: true; the input reads as it did. -/
def agreementTablesSpec : ChangeSpec := { name := "agreementTables", fn := fun _ => fun
  | [d] => { results := [.lit (.bool true)], args := [d] }
  | _ => none }
def agreementTablesRow : OpenClaim := { program := "ytbcnbchpcbglhaa", sum := "61b53733ccaa704337ed0e69f6e80140ab581374c16320d12dde4da8559732b1", func := "apograph/apographlaw30.AgreementTables", spec := "agreementTables", unfollowed := true, recurses := true, apart := false }
def AgreementTablesSaid : Prop := agreementTablesRow.holds Try.pinned (OpenSpec.ofChange agreementTablesSpec)

/-- ITS FALSE NEIGHBOUR: 'it returns false'. Refute it at one input. -/
def agreementTablesWrong : ChangeSpec := { name := "agreementTables", fn := fun _ => fun
  | [d] => { results := [.lit (.bool false)], args := [d] }
  | _ => none }
def AgreementTablesWrongFalsely : Prop := agreementTablesRow.holds Try.pinned (OpenSpec.ofChange agreementTablesWrong)

/-- 'apographlaw30.AgreementSymmetric': WHATEVER THE INPUT: true; the input reads as it did. -/
def agreementSymmetricSpec : ChangeSpec := { name := "agreementSymmetric", fn := fun _ => fun
  | [d] => { results := [.lit (.bool true)], args := [d] }
  | _ => none }
def agreementSymmetricRow : OpenClaim := { program := "ytbcnbchpcbglhaa", sum := "61b53733ccaa704337ed0e69f6e80140ab581374c16320d12dde4da8559732b1", func := "apograph/apographlaw30.AgreementSymmetric", spec := "agreementSymmetric", unfollowed := true, recurses := true, apart := false }
def AgreementSymmetricSaid : Prop := agreementSymmetricRow.holds Try.pinned (OpenSpec.ofChange agreementSymmetricSpec)

/-- ITS FALSE NEIGHBOUR: 'it returns false'. Refute it at one input. -/
def agreementSymmetricWrong : ChangeSpec := { name := "agreementSymmetric", fn := fun _ => fun
  | [d] => { results := [.lit (.bool false)], args := [d] }
  | _ => none }
def AgreementSymmetricWrongFalsely : Prop := agreementSymmetricRow.holds Try.pinned (OpenSpec.ofChange agreementSymmetricWrong)

/-- 'apographlaw30.AgreementShared': WHATEVER THE INPUT: true; the input reads as it did. -/
def agreementSharedSpec : ChangeSpec := { name := "agreementShared", fn := fun _ => fun
  | [d1, d2, d3] => { results := [.lit (.bool true)], args := [d1, d2, d3] }
  | _ => none }
def agreementSharedRow : OpenClaim := { program := "ytbcnbchpcbglhaa", sum := "61b53733ccaa704337ed0e69f6e80140ab581374c16320d12dde4da8559732b1", func := "apograph/apographlaw30.AgreementShared", spec := "agreementShared", unfollowed := true, recurses := true, apart := false }
def AgreementSharedSaid : Prop := agreementSharedRow.holds Try.pinned (OpenSpec.ofChange agreementSharedSpec)

/-- ITS FALSE NEIGHBOUR: 'it returns false'. Refute it at one input. -/
def agreementSharedWrong : ChangeSpec := { name := "agreementShared", fn := fun _ => fun
  | [d1, d2, d3] => { results := [.lit (.bool false)], args := [d1, d2, d3] }
  | _ => none }
def AgreementSharedWrongFalsely : Prop := agreementSharedRow.holds Try.pinned (OpenSpec.ofChange agreementSharedWrong)

/-- 'apographlaw30.AgreementPlaces': WHATEVER THE INPUT: true; the input reads as it did. -/
def agreementPlacesSpec : ChangeSpec := { name := "agreementPlaces", fn := fun _ => fun
  | [d1, d2] => { results := [.lit (.bool true)], args := [d1, d2] }
  | _ => none }
def agreementPlacesRow : OpenClaim := { program := "ytbcnbchpcbglhaa", sum := "61b53733ccaa704337ed0e69f6e80140ab581374c16320d12dde4da8559732b1", func := "apograph/apographlaw30.AgreementPlaces", spec := "agreementPlaces", unfollowed := true, recurses := true, apart := false }
def AgreementPlacesSaid : Prop := agreementPlacesRow.holds Try.pinned (OpenSpec.ofChange agreementPlacesSpec)

/-- ITS FALSE NEIGHBOUR: 'it returns false'. Refute it at one input. -/
def agreementPlacesWrong : ChangeSpec := { name := "agreementPlaces", fn := fun _ => fun
  | [d1, d2] => { results := [.lit (.bool false)], args := [d1, d2] }
  | _ => none }
def AgreementPlacesWrongFalsely : Prop := agreementPlacesRow.holds Try.pinned (OpenSpec.ofChange agreementPlacesWrong)

/-- 'apographlaw30.AgreementClusters': WHATEVER THE INPUT: true; the input reads as it did. -/
def agreementClustersSpec : ChangeSpec := { name := "agreementClusters", fn := fun _ => fun
  | [d1, d2, d3] => { results := [.lit (.bool true)], args := [d1, d2, d3] }
  | _ => none }
def agreementClustersRow : OpenClaim := { program := "ytbcnbchpcbglhaa", sum := "61b53733ccaa704337ed0e69f6e80140ab581374c16320d12dde4da8559732b1", func := "apograph/apographlaw30.AgreementClusters", spec := "agreementClusters", unfollowed := true, recurses := true, apart := false }
def AgreementClustersSaid : Prop := agreementClustersRow.holds Try.pinned (OpenSpec.ofChange agreementClustersSpec)

/-- ITS FALSE NEIGHBOUR: 'it returns false'. Refute it at one input. -/
def agreementClustersWrong : ChangeSpec := { name := "agreementClusters", fn := fun _ => fun
  | [d1, d2, d3] => { results := [.lit (.bool false)], args := [d1, d2, d3] }
  | _ => none }
def AgreementClustersWrongFalsely : Prop := agreementClustersRow.holds Try.pinned (OpenSpec.ofChange agreementClustersWrong)

/- THE SECOND FORM. 'bulk': how many values and letters a reading holds, each counted each time it is reached (what is shared counts as often as it is met; a slice's spare places count too). A statement '..UptoSaid' is the law's where the arguments, and the package variables that the reading takes, are together of bulk at most 1048576: NARROWER than '..Said'. Prove '..Said' where nothing that the law and all that it calls make is longer than what came in: it says more and counts as full. Else prove '..UptoSaid'. A law counts once. -/
mutual
def uptoBulk {H : Type} : DataW H → Nat
  | .lit (.string bytes) => bytes.length + 1
  | .lit _ => 1
  | .nil => 1
  | .ptr d => uptoBulk d + 1
  | .slice elems spare => uptoBulkAll elems + uptoBulkAll spare + 1
  | .agg parts => uptoBulkAll parts + 1
  | .iface _ d => uptoBulk d + 1
  | .map entries => uptoBulkEntries entries + 1
  | .held _ => 1
def uptoBulkAll {H : Type} : List (DataW H) → Nat
  | [] => 0
  | d :: r => uptoBulk d + uptoBulkAll r
def uptoBulkEntries {H : Type} : List (Lit × DataW H) → Nat
  | [] => 0
  | x :: r => uptoBulkEntry x + uptoBulkEntries r
def uptoBulkEntry {H : Type} : Lit × DataW H → Nat
  | (.string bytes, d) => bytes.length + uptoBulk d + 1
  | (_, d) => uptoBulk d + 1
 end
def uptoSmall : (H : Type) → List (DataW H) → Bool := fun _ ds => decide (uptoBulkAll ds ≤ 1048576)
def OpenSpec.upto (s : _root_.Go.ChangeSpec) : _root_.Go.OpenSpec := { _root_.Go.OpenSpec.ofChange s with cond := some uptoSmall }

/-- 'apographlaw30.AgreementGroups', WHERE WHAT IT READS IS OF BULK AT MOST 1048576: true; the input reads as it did. -/
def agreementGroupsUptoRow : OpenClaim := { program := "ytbcnbchpcbglhaa", sum := "61b53733ccaa704337ed0e69f6e80140ab581374c16320d12dde4da8559732b1", func := "apograph/apographlaw30.AgreementGroups", spec := "agreementGroups", unfollowed := true, recurses := true, apart := false, narrowed := true }
def AgreementGroupsUptoSaid : Prop := agreementGroupsUptoRow.holds Try.pinned (OpenSpec.upto agreementGroupsSpec)

/-- 'apographlaw30.AgreementNames', WHERE WHAT IT READS IS OF BULK AT MOST 1048576: true; the input reads as it did. -/
def agreementNamesUptoRow : OpenClaim := { program := "ytbcnbchpcbglhaa", sum := "61b53733ccaa704337ed0e69f6e80140ab581374c16320d12dde4da8559732b1", func := "apograph/apographlaw30.AgreementNames", spec := "agreementNames", unfollowed := true, recurses := true, apart := false, narrowed := true }
def AgreementNamesUptoSaid : Prop := agreementNamesUptoRow.holds Try.pinned (OpenSpec.upto agreementNamesSpec)

/-- 'apographlaw30.AgreementNearest', WHERE WHAT IT READS IS OF BULK AT MOST 1048576: true; the input reads as it did. -/
def agreementNearestUptoRow : OpenClaim := { program := "ytbcnbchpcbglhaa", sum := "61b53733ccaa704337ed0e69f6e80140ab581374c16320d12dde4da8559732b1", func := "apograph/apographlaw30.AgreementNearest", spec := "agreementNearest", unfollowed := true, recurses := true, apart := false, narrowed := true }
def AgreementNearestUptoSaid : Prop := agreementNearestUptoRow.holds Try.pinned (OpenSpec.upto agreementNearestSpec)

/-- 'apographlaw30.AgreementTables', WHERE WHAT IT READS IS OF BULK AT MOST 1048576: true; the input reads as it did. -/
def agreementTablesUptoRow : OpenClaim := { program := "ytbcnbchpcbglhaa", sum := "61b53733ccaa704337ed0e69f6e80140ab581374c16320d12dde4da8559732b1", func := "apograph/apographlaw30.AgreementTables", spec := "agreementTables", unfollowed := true, recurses := true, apart := false, narrowed := true }
def AgreementTablesUptoSaid : Prop := agreementTablesUptoRow.holds Try.pinned (OpenSpec.upto agreementTablesSpec)

/-- 'apographlaw30.AgreementSymmetric', WHERE WHAT IT READS IS OF BULK AT MOST 1048576: true; the input reads as it did. -/
def agreementSymmetricUptoRow : OpenClaim := { program := "ytbcnbchpcbglhaa", sum := "61b53733ccaa704337ed0e69f6e80140ab581374c16320d12dde4da8559732b1", func := "apograph/apographlaw30.AgreementSymmetric", spec := "agreementSymmetric", unfollowed := true, recurses := true, apart := false, narrowed := true }
def AgreementSymmetricUptoSaid : Prop := agreementSymmetricUptoRow.holds Try.pinned (OpenSpec.upto agreementSymmetricSpec)

/-- 'apographlaw30.AgreementShared', WHERE WHAT IT READS IS OF BULK AT MOST 1048576: true; the input reads as it did. -/
def agreementSharedUptoRow : OpenClaim := { program := "ytbcnbchpcbglhaa", sum := "61b53733ccaa704337ed0e69f6e80140ab581374c16320d12dde4da8559732b1", func := "apograph/apographlaw30.AgreementShared", spec := "agreementShared", unfollowed := true, recurses := true, apart := false, narrowed := true }
def AgreementSharedUptoSaid : Prop := agreementSharedUptoRow.holds Try.pinned (OpenSpec.upto agreementSharedSpec)

/-- 'apographlaw30.AgreementPlaces', WHERE WHAT IT READS IS OF BULK AT MOST 1048576: true; the input reads as it did. -/
def agreementPlacesUptoRow : OpenClaim := { program := "ytbcnbchpcbglhaa", sum := "61b53733ccaa704337ed0e69f6e80140ab581374c16320d12dde4da8559732b1", func := "apograph/apographlaw30.AgreementPlaces", spec := "agreementPlaces", unfollowed := true, recurses := true, apart := false, narrowed := true }
def AgreementPlacesUptoSaid : Prop := agreementPlacesUptoRow.holds Try.pinned (OpenSpec.upto agreementPlacesSpec)

/-- 'apographlaw30.AgreementClusters', WHERE WHAT IT READS IS OF BULK AT MOST 1048576: true; the input reads as it did. -/
def agreementClustersUptoRow : OpenClaim := { program := "ytbcnbchpcbglhaa", sum := "61b53733ccaa704337ed0e69f6e80140ab581374c16320d12dde4da8559732b1", func := "apograph/apographlaw30.AgreementClusters", spec := "agreementClusters", unfollowed := true, recurses := true, apart := false, narrowed := true }
def AgreementClustersUptoSaid : Prop := agreementClustersUptoRow.holds Try.pinned (OpenSpec.upto agreementClustersSpec)

end Rows
end Go.Proofs.Ytbcnbchpcbglhaa
