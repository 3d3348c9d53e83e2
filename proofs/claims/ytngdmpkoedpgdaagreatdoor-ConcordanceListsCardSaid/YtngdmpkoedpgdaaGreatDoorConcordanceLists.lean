/- ConcordanceLists: for every input, whatever lies in memory, the law returns true and leaves its arguments as they were. Its condition: the package-level variables (the tables of math/bits and strconv) that it comes to hold what the program text lays. -/
import Derived.Test.YtngdmpkoedpgdaaGreatDoorConcordanceListsR
namespace Go.Proofs.YtngdmpkoedpgdaaGreatDoor
open Go.RowKit Go.Ap Go.Shelf Go.ChangeShapes Go.WideShapes Go.ChangeAt
theorem named56 : Tryz.prog.funcNamed "apograph/apographlaw56.ConcordanceLists" = some 11 := by kernel_rfl
theorem stand_posts2 : Tryz.prog.wantsStandIn 52 = false := by kernel_rfl
theorem stand_posts : Tryz.prog.wantsStandIn 27 = false := by kernel_rfl
theorem stand_str : Tryz.prog.wantsStandIn 9 = false := by kernel_rfl
theorem stand_int : Tryz.prog.wantsStandIn 3 = false := by kernel_rfl
theorem concordanceLists_holds : Rows.ConcordanceListsCardSaid :=
  Claim7.holds_tied_plain_at .later [] [.data, .data, .data, .data, .sentinel, .sentinel, .pinned] true Rows.concordanceListsCard.stood.harness true
    concordanceLists_row (fun _ h => by cases h) (by as_aux_lemma => kernel_rfl) (fun _ h => by cases h) concordanceLists_row_tie rfl ⟨rfl, rfl⟩ (by as_aux_lemma => kernel_rfl) rfl
    (fun f fn hf hfn => by
      obtain rfl : f = 11 := Option.some.inj ((show Tryz.prog.funcNamed "apograph/apographlaw56.ConcordanceLists" = some 11 from named56).symm.trans hf) |>.symm
      obtain rfl : fn = Tryz.f11 := (Option.some.inj (Tryz.func11.symm.trans hfn)).symm
      exact ⟨by as_aux_lemma => kernel_rfl, fun j t ht => by
        rw [Tryz.params11] at ht
        have hm : t ∈ [52, 27, 9, 9, 3] := by simpa using Array.mem_of_getElem? ht
        have hall : ([52, 27, 9, 9, 3].all fun u => !Tryz.prog.wantsStandIn u) = true := by simp only [List.all_cons, List.all_nil, stand_posts2, stand_posts, stand_str, stand_int, Bool.not_false, Bool.and_self]
        exact (show Tryz.prog.wantsStandIn t = false by simpa using List.all_eq_true.1 hall t hm)⟩)
    (by as_aux_lemma => kernel_rfl)
end Go.Proofs.YtngdmpkoedpgdaaGreatDoor
