/-
  No cell of these rows narrows 'for every input' (looked for: loops, veiled, ifaces, maps, wideKeys, modest, calm, conditions, laid).
  DERIVED. THE GIVEN ROWS OF THIS SEAT. 8 by the template 'for every input the law returns true; each argument reads behind the call as it read before'; 0 by the template 'total and deterministic' (their statements: YtamdonlncfmmmaaTotals.lean).
  GIVEN WITH THE SEED: the statements are not yours to turn. If you find one false, say at which input.
  Laid BY PROGRAM, IN A SANDBOX (cutbox-rows.mjs): the forced cells as the released guide's own fill.sh prints them over the translation 2ce9ab457922d519… (all of the seat's roots in one cut). By AI agents, Wed Nov 11 2026. No macro, syntax, notation, axiom, sorry.
-/
import Derived.Test.YtamdonlncfmmmaaChecked
import GoSem.Claim
import GoSem.ClaimJoined
import GoSem.ClaimMapViews
import Derived.JoinedTies
import Derived.KernelRfl
namespace Go.Proofs.Ytamdonlncfmmmaa
/- THE CELL 'sum', in the pinned program and in every row, IS THE sha256 OF THE DUMP (.gsa) THAT YtamdonlncfmmmaaProg.lean LOADS. Nothing in Lean hashes anything: it is a label: what it is worth is what the hold of that sum in a sandbox is worth. -/
noncomputable def Try.pinned : Pinned := { name := "ytamdonlncfmmmaa", sum := "2ce9ab457922d519c625bd2fe017ebeed4e5450d531c64680ca67573b9de567f", checked := Try.checked }
namespace Rows
def none {H : Type} : Left H := { results := [], args := [] }

/-- 'apographlaw14.RewritingOrders': WHATEVER THE INPUT: true; the input reads as it did. -/
def rewritingOrdersSpec : ChangeSpec := { name := "rewritingOrders", fn := fun _ => fun
  | [d1, d2] => { results := [.lit (.bool true)], args := [d1, d2] }
  | _ => none }
def rewritingOrdersRow : OpenClaim := { program := "ytamdonlncfmmmaa", sum := "2ce9ab457922d519c625bd2fe017ebeed4e5450d531c64680ca67573b9de567f", func := "apograph/apographlaw14.RewritingOrders", spec := "rewritingOrders", inPlace := ["internal/bytealg.IndexByteString"], unfollowed := true, recurses := true, apart := false }
def RewritingOrdersSaid : Prop := rewritingOrdersRow.holds Try.pinned (OpenSpec.ofChange rewritingOrdersSpec)

/-- ITS FALSE NEIGHBOUR: 'it returns false'. Refute it at one input. -/
def rewritingOrdersWrong : ChangeSpec := { name := "rewritingOrders", fn := fun _ => fun
  | [d1, d2] => { results := [.lit (.bool false)], args := [d1, d2] }
  | _ => none }
def RewritingOrdersWrongFalsely : Prop := rewritingOrdersRow.holds Try.pinned (OpenSpec.ofChange rewritingOrdersWrong)

/-- 'apographlaw14.RewritingSteps': WHATEVER THE INPUT: true; the input reads as it did. -/
def rewritingStepsSpec : ChangeSpec := { name := "rewritingSteps", fn := fun _ => fun
  | [d1, d2] => { results := [.lit (.bool true)], args := [d1, d2] }
  | _ => none }
def rewritingStepsRow : OpenClaim := { program := "ytamdonlncfmmmaa", sum := "2ce9ab457922d519c625bd2fe017ebeed4e5450d531c64680ca67573b9de567f", func := "apograph/apographlaw14.RewritingSteps", spec := "rewritingSteps", inPlace := ["internal/bytealg.IndexByteString"], unfollowed := true, recurses := true, apart := false }
def RewritingStepsSaid : Prop := rewritingStepsRow.holds Try.pinned (OpenSpec.ofChange rewritingStepsSpec)

/-- ITS FALSE NEIGHBOUR: 'it returns false'. Refute it at one input. -/
def rewritingStepsWrong : ChangeSpec := { name := "rewritingSteps", fn := fun _ => fun
  | [d1, d2] => { results := [.lit (.bool false)], args := [d1, d2] }
  | _ => none }
def RewritingStepsWrongFalsely : Prop := rewritingStepsRow.holds Try.pinned (OpenSpec.ofChange rewritingStepsWrong)

/-- 'apographlaw14.RewritingConfluence': WHATEVER THE INPUT: true; the input reads as it did. -/
def rewritingConfluenceSpec : ChangeSpec := { name := "rewritingConfluence", fn := fun _ => fun
  | [d1, d2] => { results := [.lit (.bool true)], args := [d1, d2] }
  | _ => none }
def rewritingConfluenceRow : OpenClaim := { program := "ytamdonlncfmmmaa", sum := "2ce9ab457922d519c625bd2fe017ebeed4e5450d531c64680ca67573b9de567f", func := "apograph/apographlaw14.RewritingConfluence", spec := "rewritingConfluence", inPlace := ["internal/bytealg.IndexByteString"], unfollowed := true, recurses := true, apart := false }
def RewritingConfluenceSaid : Prop := rewritingConfluenceRow.holds Try.pinned (OpenSpec.ofChange rewritingConfluenceSpec)

/-- ITS FALSE NEIGHBOUR: 'it returns false'. Refute it at one input. -/
def rewritingConfluenceWrong : ChangeSpec := { name := "rewritingConfluence", fn := fun _ => fun
  | [d1, d2] => { results := [.lit (.bool false)], args := [d1, d2] }
  | _ => none }
def RewritingConfluenceWrongFalsely : Prop := rewritingConfluenceRow.holds Try.pinned (OpenSpec.ofChange rewritingConfluenceWrong)

/-- 'apographlaw14.RewritingContradicts': WHATEVER THE INPUT: true; the input reads as it did. -/
def rewritingContradictsSpec : ChangeSpec := { name := "rewritingContradicts", fn := fun _ => fun
  | [d] => { results := [.lit (.bool true)], args := [d] }
  | _ => none }
def rewritingContradictsRow : OpenClaim := { program := "ytamdonlncfmmmaa", sum := "2ce9ab457922d519c625bd2fe017ebeed4e5450d531c64680ca67573b9de567f", func := "apograph/apographlaw14.RewritingContradicts", spec := "rewritingContradicts", inPlace := ["internal/bytealg.IndexByteString"], unfollowed := true, recurses := true, apart := false }
def RewritingContradictsSaid : Prop := rewritingContradictsRow.holds Try.pinned (OpenSpec.ofChange rewritingContradictsSpec)

/-- ITS FALSE NEIGHBOUR: 'it returns false'. Refute it at one input. -/
def rewritingContradictsWrong : ChangeSpec := { name := "rewritingContradicts", fn := fun _ => fun
  | [d] => { results := [.lit (.bool false)], args := [d] }
  | _ => none }
def RewritingContradictsWrongFalsely : Prop := rewritingContradictsRow.holds Try.pinned (OpenSpec.ofChange rewritingContradictsWrong)

/-- 'apographlaw14.RewritingCritical': WHATEVER THE INPUT: true; the input reads as it did. -/
def rewritingCriticalSpec : ChangeSpec := { name := "rewritingCritical", fn := fun _ => fun
  | [d] => { results := [.lit (.bool true)], args := [d] }
  | _ => none }
def rewritingCriticalRow : OpenClaim := { program := "ytamdonlncfmmmaa", sum := "2ce9ab457922d519c625bd2fe017ebeed4e5450d531c64680ca67573b9de567f", func := "apograph/apographlaw14.RewritingCritical", spec := "rewritingCritical", inPlace := ["internal/bytealg.IndexByteString"], unfollowed := true, recurses := true, apart := false }
def RewritingCriticalSaid : Prop := rewritingCriticalRow.holds Try.pinned (OpenSpec.ofChange rewritingCriticalSpec)

/-- ITS FALSE NEIGHBOUR: 'it returns false'. Refute it at one input. -/
def rewritingCriticalWrong : ChangeSpec := { name := "rewritingCritical", fn := fun _ => fun
  | [d] => { results := [.lit (.bool false)], args := [d] }
  | _ => none }
def RewritingCriticalWrongFalsely : Prop := rewritingCriticalRow.holds Try.pinned (OpenSpec.ofChange rewritingCriticalWrong)

/-- 'apographlaw14.RewritingShrinks': WHATEVER THE INPUT: true; the input reads as it did. -/
def rewritingShrinksSpec : ChangeSpec := { name := "rewritingShrinks", fn := fun _ => fun
  | [d1, d2] => { results := [.lit (.bool true)], args := [d1, d2] }
  | _ => none }
def rewritingShrinksRow : OpenClaim := { program := "ytamdonlncfmmmaa", sum := "2ce9ab457922d519c625bd2fe017ebeed4e5450d531c64680ca67573b9de567f", func := "apograph/apographlaw14.RewritingShrinks", spec := "rewritingShrinks", inPlace := ["internal/bytealg.IndexByteString"], unfollowed := true, recurses := true, apart := false }
def RewritingShrinksSaid : Prop := rewritingShrinksRow.holds Try.pinned (OpenSpec.ofChange rewritingShrinksSpec)

/-- ITS FALSE NEIGHBOUR: 'it returns false'. Refute it at one input. -/
def rewritingShrinksWrong : ChangeSpec := { name := "rewritingShrinks", fn := fun _ => fun
  | [d1, d2] => { results := [.lit (.bool false)], args := [d1, d2] }
  | _ => none }
def RewritingShrinksWrongFalsely : Prop := rewritingShrinksRow.holds Try.pinned (OpenSpec.ofChange rewritingShrinksWrong)

/-- 'apographlaw14.RewritingParts': WHATEVER THE INPUT: true; the input reads as it did. -/
def rewritingPartsSpec : ChangeSpec := { name := "rewritingParts", fn := fun _ => fun
  | [d1, d2, d3] => { results := [.lit (.bool true)], args := [d1, d2, d3] }
  | _ => none }
def rewritingPartsRow : OpenClaim := { program := "ytamdonlncfmmmaa", sum := "2ce9ab457922d519c625bd2fe017ebeed4e5450d531c64680ca67573b9de567f", func := "apograph/apographlaw14.RewritingParts", spec := "rewritingParts", inPlace := ["internal/bytealg.IndexByteString"], unfollowed := true, recurses := true, apart := false }
def RewritingPartsSaid : Prop := rewritingPartsRow.holds Try.pinned (OpenSpec.ofChange rewritingPartsSpec)

/-- ITS FALSE NEIGHBOUR: 'it returns false'. Refute it at one input. -/
def rewritingPartsWrong : ChangeSpec := { name := "rewritingParts", fn := fun _ => fun
  | [d1, d2, d3] => { results := [.lit (.bool false)], args := [d1, d2, d3] }
  | _ => none }
def RewritingPartsWrongFalsely : Prop := rewritingPartsRow.holds Try.pinned (OpenSpec.ofChange rewritingPartsWrong)

/-- 'apographlaw14.RewritingForms': WHATEVER THE INPUT: true; the input reads as it did. -/
def rewritingFormsSpec : ChangeSpec := { name := "rewritingForms", fn := fun _ => fun
  | [d1, d2] => { results := [.lit (.bool true)], args := [d1, d2] }
  | _ => none }
def rewritingFormsRow : OpenClaim := { program := "ytamdonlncfmmmaa", sum := "2ce9ab457922d519c625bd2fe017ebeed4e5450d531c64680ca67573b9de567f", func := "apograph/apographlaw14.RewritingForms", spec := "rewritingForms", inPlace := ["internal/bytealg.IndexByteString"], unfollowed := true, recurses := true, apart := false }
def RewritingFormsSaid : Prop := rewritingFormsRow.holds Try.pinned (OpenSpec.ofChange rewritingFormsSpec)

/-- ITS FALSE NEIGHBOUR: 'it returns false'. Refute it at one input. -/
def rewritingFormsWrong : ChangeSpec := { name := "rewritingForms", fn := fun _ => fun
  | [d1, d2] => { results := [.lit (.bool false)], args := [d1, d2] }
  | _ => none }
def RewritingFormsWrongFalsely : Prop := rewritingFormsRow.holds Try.pinned (OpenSpec.ofChange rewritingFormsWrong)

/- THE SECOND FORM. 'bulk': how many values and letters a reading holds, each counted each time it is reached (what is shared counts as often as it is met; a slice's spare places count too). A statement '..UptoSaid' is the law's where the arguments, and the package variables that the reading takes, are together of bulk at most 1048576: NARROWER than '..Said'. Prove '..Said' where nothing that the law and all that it calls make is longer than what came in: it says more and counts as full. Else prove '..UptoSaid'. A law counts once. -/
mutual
def uptoBulk {H : Type} : DataW H → Nat
  | .lit (.string bytes) => bytes.length + 1
  | .lit _ => 1
  | .nil => 1
  | .ptr d => uptoBulk d + 1
  | .slice elems spare => uptoBulkAll elems + uptoBulkAll spare + 1
  | .agg parts => uptoBulkAll parts + 1
  | .iface _ d => uptoBulk d + 1
  | .map entries => uptoBulkEntries entries + 1
  | .held _ => 1
def uptoBulkAll {H : Type} : List (DataW H) → Nat
  | [] => 0
  | d :: r => uptoBulk d + uptoBulkAll r
def uptoBulkEntries {H : Type} : List (Lit × DataW H) → Nat
  | [] => 0
  | x :: r => uptoBulkEntry x + uptoBulkEntries r
def uptoBulkEntry {H : Type} : Lit × DataW H → Nat
  | (.string bytes, d) => bytes.length + uptoBulk d + 1
  | (_, d) => uptoBulk d + 1
 end
def uptoSmall : (H : Type) → List (DataW H) → Bool := fun _ ds => decide (uptoBulkAll ds ≤ 1048576)
def OpenSpec.upto (s : _root_.Go.ChangeSpec) : _root_.Go.OpenSpec := { _root_.Go.OpenSpec.ofChange s with cond := some uptoSmall }

/-- 'apographlaw14.RewritingOrders', WHERE WHAT IT READS IS OF BULK AT MOST 1048576: true; the input reads as it did. -/
def rewritingOrdersUptoRow : OpenClaim := { program := "ytamdonlncfmmmaa", sum := "2ce9ab457922d519c625bd2fe017ebeed4e5450d531c64680ca67573b9de567f", func := "apograph/apographlaw14.RewritingOrders", spec := "rewritingOrders", inPlace := ["internal/bytealg.IndexByteString"], unfollowed := true, recurses := true, apart := false, narrowed := true }
def RewritingOrdersUptoSaid : Prop := rewritingOrdersUptoRow.holds Try.pinned (OpenSpec.upto rewritingOrdersSpec)

/-- 'apographlaw14.RewritingSteps', WHERE WHAT IT READS IS OF BULK AT MOST 1048576: true; the input reads as it did. -/
def rewritingStepsUptoRow : OpenClaim := { program := "ytamdonlncfmmmaa", sum := "2ce9ab457922d519c625bd2fe017ebeed4e5450d531c64680ca67573b9de567f", func := "apograph/apographlaw14.RewritingSteps", spec := "rewritingSteps", inPlace := ["internal/bytealg.IndexByteString"], unfollowed := true, recurses := true, apart := false, narrowed := true }
def RewritingStepsUptoSaid : Prop := rewritingStepsUptoRow.holds Try.pinned (OpenSpec.upto rewritingStepsSpec)

/-- 'apographlaw14.RewritingConfluence', WHERE WHAT IT READS IS OF BULK AT MOST 1048576: true; the input reads as it did. -/
def rewritingConfluenceUptoRow : OpenClaim := { program := "ytamdonlncfmmmaa", sum := "2ce9ab457922d519c625bd2fe017ebeed4e5450d531c64680ca67573b9de567f", func := "apograph/apographlaw14.RewritingConfluence", spec := "rewritingConfluence", inPlace := ["internal/bytealg.IndexByteString"], unfollowed := true, recurses := true, apart := false, narrowed := true }
def RewritingConfluenceUptoSaid : Prop := rewritingConfluenceUptoRow.holds Try.pinned (OpenSpec.upto rewritingConfluenceSpec)

/-- 'apographlaw14.RewritingContradicts', WHERE WHAT IT READS IS OF BULK AT MOST 1048576: true; the input reads as it did. -/
def rewritingContradictsUptoRow : OpenClaim := { program := "ytamdonlncfmmmaa", sum := "2ce9ab457922d519c625bd2fe017ebeed4e5450d531c64680ca67573b9de567f", func := "apograph/apographlaw14.RewritingContradicts", spec := "rewritingContradicts", inPlace := ["internal/bytealg.IndexByteString"], unfollowed := true, recurses := true, apart := false, narrowed := true }
def RewritingContradictsUptoSaid : Prop := rewritingContradictsUptoRow.holds Try.pinned (OpenSpec.upto rewritingContradictsSpec)

/-- 'apographlaw14.RewritingCritical', WHERE WHAT IT READS IS OF BULK AT MOST 1048576: true; the input reads as it did. -/
def rewritingCriticalUptoRow : OpenClaim := { program := "ytamdonlncfmmmaa", sum := "2ce9ab457922d519c625bd2fe017ebeed4e5450d531c64680ca67573b9de567f", func := "apograph/apographlaw14.RewritingCritical", spec := "rewritingCritical", inPlace := ["internal/bytealg.IndexByteString"], unfollowed := true, recurses := true, apart := false, narrowed := true }
def RewritingCriticalUptoSaid : Prop := rewritingCriticalUptoRow.holds Try.pinned (OpenSpec.upto rewritingCriticalSpec)

/-- 'apographlaw14.RewritingShrinks', WHERE WHAT IT READS IS OF BULK AT MOST 1048576: true; the input reads as it did. -/
def rewritingShrinksUptoRow : OpenClaim := { program := "ytamdonlncfmmmaa", sum := "2ce9ab457922d519c625bd2fe017ebeed4e5450d531c64680ca67573b9de567f", func := "apograph/apographlaw14.RewritingShrinks", spec := "rewritingShrinks", inPlace := ["internal/bytealg.IndexByteString"], unfollowed := true, recurses := true, apart := false, narrowed := true }
def RewritingShrinksUptoSaid : Prop := rewritingShrinksUptoRow.holds Try.pinned (OpenSpec.upto rewritingShrinksSpec)

/-- 'apographlaw14.RewritingParts', WHERE WHAT IT READS IS OF BULK AT MOST 1048576: true; the input reads as it did. -/
def rewritingPartsUptoRow : OpenClaim := { program := "ytamdonlncfmmmaa", sum := "2ce9ab457922d519c625bd2fe017ebeed4e5450d531c64680ca67573b9de567f", func := "apograph/apographlaw14.RewritingParts", spec := "rewritingParts", inPlace := ["internal/bytealg.IndexByteString"], unfollowed := true, recurses := true, apart := false, narrowed := true }
def RewritingPartsUptoSaid : Prop := rewritingPartsUptoRow.holds Try.pinned (OpenSpec.upto rewritingPartsSpec)

/-- 'apographlaw14.RewritingForms', WHERE WHAT IT READS IS OF BULK AT MOST 1048576: true; the input reads as it did. -/
def rewritingFormsUptoRow : OpenClaim := { program := "ytamdonlncfmmmaa", sum := "2ce9ab457922d519c625bd2fe017ebeed4e5450d531c64680ca67573b9de567f", func := "apograph/apographlaw14.RewritingForms", spec := "rewritingForms", inPlace := ["internal/bytealg.IndexByteString"], unfollowed := true, recurses := true, apart := false, narrowed := true }
def RewritingFormsUptoSaid : Prop := rewritingFormsUptoRow.holds Try.pinned (OpenSpec.upto rewritingFormsSpec)

end Rows
end Go.Proofs.Ytamdonlncfmmmaa
