/- ConcordanceMerges: for every input, whatever lies in memory, the law returns true and leaves its arguments as they were. Its condition: the package-level variables (the tables of math/bits and strconv) that it comes to hold what the program text lays. -/
import Derived.Test.YtngdmpkoedpgdaaGreatDoorConcordanceMergesR
namespace Go.Proofs.YtngdmpkoedpgdaaGreatDoor
open Go.RowKit Go.Ap Go.Shelf Go.ChangeShapes Go.WideShapes Go.ChangeAt
theorem named56 : Tryz.prog.funcNamed "apograph/apographlaw56.ConcordanceMerges" = some 5 := by kernel_rfl
theorem stand_strs : Tryz.prog.wantsStandIn 22 = false := by kernel_rfl
theorem stand_u8s : Tryz.prog.wantsStandIn 23 = false := by kernel_rfl
theorem concordanceMerges_holds : Rows.ConcordanceMergesCardSaid :=
  Claim7.holds_tied_plain_at .later [] [.data, .data, .data] true Rows.concordanceMergesCard.stood.harness true
    concordanceMerges_row (fun _ h => by cases h) (by as_aux_lemma => kernel_rfl) (fun _ h => by cases h) concordanceMerges_row_tie rfl ⟨rfl, rfl⟩ (by as_aux_lemma => kernel_rfl) rfl
    (fun f fn hf hfn => by
      obtain rfl : f = 5 := Option.some.inj ((show Tryz.prog.funcNamed "apograph/apographlaw56.ConcordanceMerges" = some 5 from named56).symm.trans hf) |>.symm
      obtain rfl : fn = Tryz.f5 := (Option.some.inj (Tryz.func5.symm.trans hfn)).symm
      exact ⟨by as_aux_lemma => kernel_rfl, fun j t ht => by
        rw [Tryz.params5] at ht
        have hm : t ∈ [22, 22, 23, 23] := by simpa using Array.mem_of_getElem? ht
        have hall : ([22, 22, 23, 23].all fun u => !Tryz.prog.wantsStandIn u) = true := by simp only [List.all_cons, List.all_nil, stand_strs, stand_u8s, Bool.not_false, Bool.and_self]
        exact (show Tryz.prog.wantsStandIn t = false by simpa using List.all_eq_true.1 hall t hm)⟩)
    (by as_aux_lemma => kernel_rfl)
end Go.Proofs.YtngdmpkoedpgdaaGreatDoor
