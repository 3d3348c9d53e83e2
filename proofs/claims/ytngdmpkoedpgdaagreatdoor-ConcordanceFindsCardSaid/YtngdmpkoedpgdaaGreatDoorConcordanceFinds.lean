/- ConcordanceFinds: for every input, whatever lies in memory, the law returns true and leaves its arguments as they were. Its condition: the package-level variables (the tables of math/bits, strconv, unicode and unicode/utf8) that it comes to hold what the program text lays. -/
import Derived.Test.YtngdmpkoedpgdaaGreatDoorConcordanceFindsR
namespace Go.Proofs.YtngdmpkoedpgdaaGreatDoor
open Go.RowKit Go.Ap Go.Shelf Go.ChangeShapes Go.WideShapes Go.ChangeAt
theorem named56 : Tryz.prog.funcNamed "apograph/apographlaw56.ConcordanceFinds" = some 7 := by kernel_rfl
theorem stand_posts : Tryz.prog.wantsStandIn 27 = false := by kernel_rfl
theorem stand_str : Tryz.prog.wantsStandIn 9 = false := by kernel_rfl
theorem concordanceFinds_holds : Rows.ConcordanceFindsCardSaid :=
  Claim7.holds_tied_plain_at .later [] [.data, .data, .data, .data, .data, .data, .pinned, .pinned] true Rows.concordanceFindsCard.stood.harness true
    concordanceFinds_row (fun _ h => by cases h) (by as_aux_lemma => kernel_rfl) (fun _ h => by cases h) concordanceFinds_row_tie rfl ⟨rfl, rfl⟩ (by as_aux_lemma => kernel_rfl) rfl
    (fun f fn hf hfn => by
      obtain rfl : f = 7 := Option.some.inj ((show Tryz.prog.funcNamed "apograph/apographlaw56.ConcordanceFinds" = some 7 from named56).symm.trans hf) |>.symm
      obtain rfl : fn = Tryz.f7 := (Option.some.inj (Tryz.func7.symm.trans hfn)).symm
      exact ⟨by as_aux_lemma => kernel_rfl, fun j t ht => by
        rw [Tryz.params7] at ht
        have hm : t ∈ [27, 9] := by simpa using Array.mem_of_getElem? ht
        have hall : ([27, 9].all fun u => !Tryz.prog.wantsStandIn u) = true := by simp only [List.all_cons, List.all_nil, stand_posts, stand_str, Bool.not_false, Bool.and_self]
        exact (show Tryz.prog.wantsStandIn t = false by simpa using List.all_eq_true.1 hall t hm)⟩)
    (by as_aux_lemma => kernel_rfl)
end Go.Proofs.YtngdmpkoedpgdaaGreatDoor
