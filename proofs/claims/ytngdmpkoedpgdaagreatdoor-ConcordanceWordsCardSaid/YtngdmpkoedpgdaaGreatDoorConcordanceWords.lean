/- ConcordanceWords: for every input, whatever lies in memory, the law returns true and leaves its arguments as they were. Its condition: the package-level variables (the tables of math/bits and strconv, the two errors of strconv) that it comes to hold what the program text lays. -/
import Derived.Test.YtngdmpkoedpgdaaGreatDoorConcordanceWordsR
namespace Go.Proofs.YtngdmpkoedpgdaaGreatDoor
open Go.RowKit Go.Ap Go.Shelf Go.ChangeShapes Go.WideShapes Go.ChangeAt
theorem named56 : Tryz.prog.funcNamed "apograph/apographlaw56.ConcordanceWords" = some 9 := by kernel_rfl
theorem stand_str : Tryz.prog.wantsStandIn 9 = false := by kernel_rfl
theorem stand_coll : Tryz.prog.wantsStandIn 68 = false := by kernel_rfl
theorem stand_strs : Tryz.prog.wantsStandIn 22 = false := by kernel_rfl
theorem stand_wds : Tryz.prog.wantsStandIn 69 = false := by kernel_rfl
theorem stand_ints : Tryz.prog.wantsStandIn 26 = false := by kernel_rfl
theorem stand_int : Tryz.prog.wantsStandIn 3 = false := by kernel_rfl
theorem concordanceWords_holds : Rows.ConcordanceWordsCardSaid :=
  Claim7.holds_tied_plain_at .later [] [.data, .data, .data, .sentinel, .sentinel] true Rows.concordanceWordsCard.stood.harness true
    concordanceWords_row (fun _ h => by cases h) (by as_aux_lemma => kernel_rfl) (fun _ h => by cases h) concordanceWords_row_tie rfl ⟨rfl, rfl⟩ (by as_aux_lemma => kernel_rfl) rfl
    (fun f fn hf hfn => by
      obtain rfl : f = 9 := Option.some.inj ((show Tryz.prog.funcNamed "apograph/apographlaw56.ConcordanceWords" = some 9 from named56).symm.trans hf) |>.symm
      obtain rfl : fn = Tryz.f9 := (Option.some.inj (Tryz.func9.symm.trans hfn)).symm
      exact ⟨by as_aux_lemma => kernel_rfl, fun j t ht => by
        rw [Tryz.params9] at ht
        have hm : t ∈ [9, 68, 22, 69, 26, 3, 3] := by simpa using Array.mem_of_getElem? ht
        have hall : ([9, 68, 22, 69, 26, 3, 3].all fun u => !Tryz.prog.wantsStandIn u) = true := by simp only [List.all_cons, List.all_nil, stand_str, stand_coll, stand_strs, stand_wds, stand_ints, stand_int, Bool.not_false, Bool.and_self]
        exact (show Tryz.prog.wantsStandIn t = false by simpa using List.all_eq_true.1 hall t hm)⟩)
    (by as_aux_lemma => kernel_rfl)
end Go.Proofs.YtngdmpkoedpgdaaGreatDoor
