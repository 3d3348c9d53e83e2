/-
  No cell of these rows narrows 'for every input' (looked for: loops, veiled, ifaces, maps, wideKeys, modest, calm, conditions, laid).
  DERIVED. THE GIVEN ROWS OF THIS SEAT. 8 by the template 'for every input the law returns true; each argument reads behind the call as it read before'; 0 by the template 'total and deterministic' (their statements: YtcmckcmckbdmhaaTotals.lean).
  GIVEN WITH THE SEED: the statements are not yours to turn. If you find one false, say at which input.
  Laid BY PROGRAM, IN A SANDBOX (cutbox-rows.mjs): the forced cells as the released guide's own fill.sh prints them over the translation 0e67342776eba90d… (all of the seat's roots in one cut). By AI agents, Wed Nov 11 2026. No macro, syntax, notation, axiom, sorry.
-/
import Derived.Test.YtcmckcmckbdmhaaChecked
import GoSem.Claim
import GoSem.ClaimJoined
import GoSem.ClaimMapViews
import Derived.JoinedTies
import Derived.KernelRfl
namespace Go.Proofs.Ytcmckcmckbdmhaa
/- THE CELL 'sum', in the pinned program and in every row, IS THE sha256 OF THE DUMP (.gsa) THAT YtcmckcmckbdmhaaProg.lean LOADS. Nothing in Lean hashes anything: it is a label: what it is worth is what the hold of that sum in a sandbox is worth. -/
noncomputable def Try.pinned : Pinned := { name := "ytcmckcmckbdmhaa", sum := "0e67342776eba90d50720377a57db49b9e0c7becc855cf774cad80d07b7a48b9", checked := Try.checked }
namespace Rows
def none {H : Type} : Left H := { results := [], args := [] }

/-- 'apographlaw04.IntsetComplements': WHATEVER THE INPUT: true; the input reads as it did. -/
def intsetComplementsSpec : ChangeSpec := { name := "intsetComplements", fn := fun _ => fun
  | [d1, d2] => { results := [.lit (.bool true)], args := [d1, d2] }
  | _ => none }
def intsetComplementsRow : OpenClaim := { program := "ytcmckcmckbdmhaa", sum := "0e67342776eba90d50720377a57db49b9e0c7becc855cf774cad80d07b7a48b9", func := "apograph/apographlaw04.IntsetComplements", spec := "intsetComplements", unfollowed := true, recurses := true, apart := false }
def IntsetComplementsSaid : Prop := intsetComplementsRow.holds Try.pinned (OpenSpec.ofChange intsetComplementsSpec)

/-- ITS FALSE NEIGHBOUR: 'it returns false'. Refute it at one input. -/
def intsetComplementsWrong : ChangeSpec := { name := "intsetComplements", fn := fun _ => fun
  | [d1, d2] => { results := [.lit (.bool false)], args := [d1, d2] }
  | _ => none }
def IntsetComplementsWrongFalsely : Prop := intsetComplementsRow.holds Try.pinned (OpenSpec.ofChange intsetComplementsWrong)

/-- 'apographlaw04.IntsetAlgebra': WHATEVER THE INPUT: true; the input reads as it did. -/
def intsetAlgebraSpec : ChangeSpec := { name := "intsetAlgebra", fn := fun _ => fun
  | [d1, d2, d3] => { results := [.lit (.bool true)], args := [d1, d2, d3] }
  | _ => none }
def intsetAlgebraRow : OpenClaim := { program := "ytcmckcmckbdmhaa", sum := "0e67342776eba90d50720377a57db49b9e0c7becc855cf774cad80d07b7a48b9", func := "apograph/apographlaw04.IntsetAlgebra", spec := "intsetAlgebra", unfollowed := true, recurses := true, apart := false }
def IntsetAlgebraSaid : Prop := intsetAlgebraRow.holds Try.pinned (OpenSpec.ofChange intsetAlgebraSpec)

/-- ITS FALSE NEIGHBOUR: 'it returns false'. Refute it at one input. -/
def intsetAlgebraWrong : ChangeSpec := { name := "intsetAlgebra", fn := fun _ => fun
  | [d1, d2, d3] => { results := [.lit (.bool false)], args := [d1, d2, d3] }
  | _ => none }
def IntsetAlgebraWrongFalsely : Prop := intsetAlgebraRow.holds Try.pinned (OpenSpec.ofChange intsetAlgebraWrong)

/-- 'apographlaw04.IntsetSubsets': WHATEVER THE INPUT: true; the input reads as it did. -/
def intsetSubsetsSpec : ChangeSpec := { name := "intsetSubsets", fn := fun _ => fun
  | [d1, d2] => { results := [.lit (.bool true)], args := [d1, d2] }
  | _ => none }
def intsetSubsetsRow : OpenClaim := { program := "ytcmckcmckbdmhaa", sum := "0e67342776eba90d50720377a57db49b9e0c7becc855cf774cad80d07b7a48b9", func := "apograph/apographlaw04.IntsetSubsets", spec := "intsetSubsets", unfollowed := true, recurses := true, apart := false }
def IntsetSubsetsSaid : Prop := intsetSubsetsRow.holds Try.pinned (OpenSpec.ofChange intsetSubsetsSpec)

/-- ITS FALSE NEIGHBOUR: 'it returns false'. Refute it at one input. -/
def intsetSubsetsWrong : ChangeSpec := { name := "intsetSubsets", fn := fun _ => fun
  | [d1, d2] => { results := [.lit (.bool false)], args := [d1, d2] }
  | _ => none }
def IntsetSubsetsWrongFalsely : Prop := intsetSubsetsRow.holds Try.pinned (OpenSpec.ofChange intsetSubsetsWrong)

/-- 'apographlaw04.IntsetOperations': WHATEVER THE INPUT: true; the input reads as it did. -/
def intsetOperationsSpec : ChangeSpec := { name := "intsetOperations", fn := fun _ => fun
  | [d1, d2, d3] => { results := [.lit (.bool true)], args := [d1, d2, d3] }
  | _ => none }
def intsetOperationsRow : OpenClaim := { program := "ytcmckcmckbdmhaa", sum := "0e67342776eba90d50720377a57db49b9e0c7becc855cf774cad80d07b7a48b9", func := "apograph/apographlaw04.IntsetOperations", spec := "intsetOperations", unfollowed := true, recurses := true, apart := false }
def IntsetOperationsSaid : Prop := intsetOperationsRow.holds Try.pinned (OpenSpec.ofChange intsetOperationsSpec)

/-- ITS FALSE NEIGHBOUR: 'it returns false'. Refute it at one input. -/
def intsetOperationsWrong : ChangeSpec := { name := "intsetOperations", fn := fun _ => fun
  | [d1, d2, d3] => { results := [.lit (.bool false)], args := [d1, d2, d3] }
  | _ => none }
def IntsetOperationsWrongFalsely : Prop := intsetOperationsRow.holds Try.pinned (OpenSpec.ofChange intsetOperationsWrong)

/-- 'apographlaw04.IntsetMembers': WHATEVER THE INPUT: true; the input reads as it did. -/
def intsetMembersSpec : ChangeSpec := { name := "intsetMembers", fn := fun _ => fun
  | [d1, d2] => { results := [.lit (.bool true)], args := [d1, d2] }
  | _ => none }
def intsetMembersRow : OpenClaim := { program := "ytcmckcmckbdmhaa", sum := "0e67342776eba90d50720377a57db49b9e0c7becc855cf774cad80d07b7a48b9", func := "apograph/apographlaw04.IntsetMembers", spec := "intsetMembers", unfollowed := true, recurses := true, apart := false }
def IntsetMembersSaid : Prop := intsetMembersRow.holds Try.pinned (OpenSpec.ofChange intsetMembersSpec)

/-- ITS FALSE NEIGHBOUR: 'it returns false'. Refute it at one input. -/
def intsetMembersWrong : ChangeSpec := { name := "intsetMembers", fn := fun _ => fun
  | [d1, d2] => { results := [.lit (.bool false)], args := [d1, d2] }
  | _ => none }
def IntsetMembersWrongFalsely : Prop := intsetMembersRow.holds Try.pinned (OpenSpec.ofChange intsetMembersWrong)

/-- 'apographlaw04.IntsetPartitions': WHATEVER THE INPUT: true; the input reads as it did. -/
def intsetPartitionsSpec : ChangeSpec := { name := "intsetPartitions", fn := fun _ => fun
  | [d1, d2] => { results := [.lit (.bool true)], args := [d1, d2] }
  | _ => none }
def intsetPartitionsRow : OpenClaim := { program := "ytcmckcmckbdmhaa", sum := "0e67342776eba90d50720377a57db49b9e0c7becc855cf774cad80d07b7a48b9", func := "apograph/apographlaw04.IntsetPartitions", spec := "intsetPartitions", unfollowed := true, recurses := true, apart := false }
def IntsetPartitionsSaid : Prop := intsetPartitionsRow.holds Try.pinned (OpenSpec.ofChange intsetPartitionsSpec)

/-- ITS FALSE NEIGHBOUR: 'it returns false'. Refute it at one input. -/
def intsetPartitionsWrong : ChangeSpec := { name := "intsetPartitions", fn := fun _ => fun
  | [d1, d2] => { results := [.lit (.bool false)], args := [d1, d2] }
  | _ => none }
def IntsetPartitionsWrongFalsely : Prop := intsetPartitionsRow.holds Try.pinned (OpenSpec.ofChange intsetPartitionsWrong)

/-- 'apographlaw04.IntsetCovers': WHATEVER THE INPUT: true; the input reads as it did. -/
def intsetCoversSpec : ChangeSpec := { name := "intsetCovers", fn := fun _ => fun
  | [d1, d2, d3] => { results := [.lit (.bool true)], args := [d1, d2, d3] }
  | _ => none }
def intsetCoversRow : OpenClaim := { program := "ytcmckcmckbdmhaa", sum := "0e67342776eba90d50720377a57db49b9e0c7becc855cf774cad80d07b7a48b9", func := "apograph/apographlaw04.IntsetCovers", spec := "intsetCovers", unfollowed := true, recurses := true, apart := false }
def IntsetCoversSaid : Prop := intsetCoversRow.holds Try.pinned (OpenSpec.ofChange intsetCoversSpec)

/-- ITS FALSE NEIGHBOUR: 'it returns false'. Refute it at one input. -/
def intsetCoversWrong : ChangeSpec := { name := "intsetCovers", fn := fun _ => fun
  | [d1, d2, d3] => { results := [.lit (.bool false)], args := [d1, d2, d3] }
  | _ => none }
def IntsetCoversWrongFalsely : Prop := intsetCoversRow.holds Try.pinned (OpenSpec.ofChange intsetCoversWrong)

/-- 'apographlaw04.IntsetChecks': WHATEVER THE INPUT: true; the input reads as it did. -/
def intsetChecksSpec : ChangeSpec := { name := "intsetChecks", fn := fun _ => fun
  | [d1, d2, d3] => { results := [.lit (.bool true)], args := [d1, d2, d3] }
  | _ => none }
def intsetChecksRow : OpenClaim := { program := "ytcmckcmckbdmhaa", sum := "0e67342776eba90d50720377a57db49b9e0c7becc855cf774cad80d07b7a48b9", func := "apograph/apographlaw04.IntsetChecks", spec := "intsetChecks", unfollowed := true, recurses := true, apart := false }
def IntsetChecksSaid : Prop := intsetChecksRow.holds Try.pinned (OpenSpec.ofChange intsetChecksSpec)

/-- ITS FALSE NEIGHBOUR: 'it returns false'. Refute it at one input. -/
def intsetChecksWrong : ChangeSpec := { name := "intsetChecks", fn := fun _ => fun
  | [d1, d2, d3] => { results := [.lit (.bool false)], args := [d1, d2, d3] }
  | _ => none }
def IntsetChecksWrongFalsely : Prop := intsetChecksRow.holds Try.pinned (OpenSpec.ofChange intsetChecksWrong)

/- THE SECOND FORM. 'bulk': how many values and letters a reading holds, each counted each time it is reached (what is shared counts as often as it is met; a slice's spare places count too). A statement '..UptoSaid' is the law's where the arguments, and the package variables that the reading takes, are together of bulk at most 1048576: NARROWER than '..Said'. Prove '..Said' where nothing that the law and all that it calls make is longer than what came in: it says more and counts as full. Else prove '..UptoSaid'. A law counts once. -/
mutual
def uptoBulk {H : Type} : DataW H → Nat
  | .lit (.string bytes) => bytes.length + 1
  | .lit _ => 1
  | .nil => 1
  | .ptr d => uptoBulk d + 1
  | .slice elems spare => uptoBulkAll elems + uptoBulkAll spare + 1
  | .agg parts => uptoBulkAll parts + 1
  | .iface _ d => uptoBulk d + 1
  | .map entries => uptoBulkEntries entries + 1
  | .held _ => 1
def uptoBulkAll {H : Type} : List (DataW H) → Nat
  | [] => 0
  | d :: r => uptoBulk d + uptoBulkAll r
def uptoBulkEntries {H : Type} : List (Lit × DataW H) → Nat
  | [] => 0
  | x :: r => uptoBulkEntry x + uptoBulkEntries r
def uptoBulkEntry {H : Type} : Lit × DataW H → Nat
  | (.string bytes, d) => bytes.length + uptoBulk d + 1
  | (_, d) => uptoBulk d + 1
 end
def uptoSmall : (H : Type) → List (DataW H) → Bool := fun _ ds => decide (uptoBulkAll ds ≤ 1048576)
def OpenSpec.upto (s : _root_.Go.ChangeSpec) : _root_.Go.OpenSpec := { _root_.Go.OpenSpec.ofChange s with cond := some uptoSmall }

/-- 'apographlaw04.IntsetComplements', WHERE WHAT IT READS IS OF BULK AT MOST 1048576: true; the input reads as it did. -/
def intsetComplementsUptoRow : OpenClaim := { program := "ytcmckcmckbdmhaa", sum := "0e67342776eba90d50720377a57db49b9e0c7becc855cf774cad80d07b7a48b9", func := "apograph/apographlaw04.IntsetComplements", spec := "intsetComplements", unfollowed := true, recurses := true, apart := false, narrowed := true }
def IntsetComplementsUptoSaid : Prop := intsetComplementsUptoRow.holds Try.pinned (OpenSpec.upto intsetComplementsSpec)

/-- 'apographlaw04.IntsetAlgebra', WHERE WHAT IT READS IS OF BULK AT MOST 1048576: true; the input reads as it did. -/
def intsetAlgebraUptoRow : OpenClaim := { program := "ytcmckcmckbdmhaa", sum := "0e67342776eba90d50720377a57db49b9e0c7becc855cf774cad80d07b7a48b9", func := "apograph/apographlaw04.IntsetAlgebra", spec := "intsetAlgebra", unfollowed := true, recurses := true, apart := false, narrowed := true }
def IntsetAlgebraUptoSaid : Prop := intsetAlgebraUptoRow.holds Try.pinned (OpenSpec.upto intsetAlgebraSpec)

/-- 'apographlaw04.IntsetSubsets', WHERE WHAT IT READS IS OF BULK AT MOST 1048576: true; the input reads as it did. -/
def intsetSubsetsUptoRow : OpenClaim := { program := "ytcmckcmckbdmhaa", sum := "0e67342776eba90d50720377a57db49b9e0c7becc855cf774cad80d07b7a48b9", func := "apograph/apographlaw04.IntsetSubsets", spec := "intsetSubsets", unfollowed := true, recurses := true, apart := false, narrowed := true }
def IntsetSubsetsUptoSaid : Prop := intsetSubsetsUptoRow.holds Try.pinned (OpenSpec.upto intsetSubsetsSpec)

/-- 'apographlaw04.IntsetOperations', WHERE WHAT IT READS IS OF BULK AT MOST 1048576: true; the input reads as it did. -/
def intsetOperationsUptoRow : OpenClaim := { program := "ytcmckcmckbdmhaa", sum := "0e67342776eba90d50720377a57db49b9e0c7becc855cf774cad80d07b7a48b9", func := "apograph/apographlaw04.IntsetOperations", spec := "intsetOperations", unfollowed := true, recurses := true, apart := false, narrowed := true }
def IntsetOperationsUptoSaid : Prop := intsetOperationsUptoRow.holds Try.pinned (OpenSpec.upto intsetOperationsSpec)

/-- 'apographlaw04.IntsetMembers', WHERE WHAT IT READS IS OF BULK AT MOST 1048576: true; the input reads as it did. -/
def intsetMembersUptoRow : OpenClaim := { program := "ytcmckcmckbdmhaa", sum := "0e67342776eba90d50720377a57db49b9e0c7becc855cf774cad80d07b7a48b9", func := "apograph/apographlaw04.IntsetMembers", spec := "intsetMembers", unfollowed := true, recurses := true, apart := false, narrowed := true }
def IntsetMembersUptoSaid : Prop := intsetMembersUptoRow.holds Try.pinned (OpenSpec.upto intsetMembersSpec)

/-- 'apographlaw04.IntsetPartitions', WHERE WHAT IT READS IS OF BULK AT MOST 1048576: true; the input reads as it did. -/
def intsetPartitionsUptoRow : OpenClaim := { program := "ytcmckcmckbdmhaa", sum := "0e67342776eba90d50720377a57db49b9e0c7becc855cf774cad80d07b7a48b9", func := "apograph/apographlaw04.IntsetPartitions", spec := "intsetPartitions", unfollowed := true, recurses := true, apart := false, narrowed := true }
def IntsetPartitionsUptoSaid : Prop := intsetPartitionsUptoRow.holds Try.pinned (OpenSpec.upto intsetPartitionsSpec)

/-- 'apographlaw04.IntsetCovers', WHERE WHAT IT READS IS OF BULK AT MOST 1048576: true; the input reads as it did. -/
def intsetCoversUptoRow : OpenClaim := { program := "ytcmckcmckbdmhaa", sum := "0e67342776eba90d50720377a57db49b9e0c7becc855cf774cad80d07b7a48b9", func := "apograph/apographlaw04.IntsetCovers", spec := "intsetCovers", unfollowed := true, recurses := true, apart := false, narrowed := true }
def IntsetCoversUptoSaid : Prop := intsetCoversUptoRow.holds Try.pinned (OpenSpec.upto intsetCoversSpec)

/-- 'apographlaw04.IntsetChecks', WHERE WHAT IT READS IS OF BULK AT MOST 1048576: true; the input reads as it did. -/
def intsetChecksUptoRow : OpenClaim := { program := "ytcmckcmckbdmhaa", sum := "0e67342776eba90d50720377a57db49b9e0c7becc855cf774cad80d07b7a48b9", func := "apograph/apographlaw04.IntsetChecks", spec := "intsetChecks", unfollowed := true, recurses := true, apart := false, narrowed := true }
def IntsetChecksUptoSaid : Prop := intsetChecksUptoRow.holds Try.pinned (OpenSpec.upto intsetChecksSpec)

end Rows
end Go.Proofs.Ytcmckcmckbdmhaa
