/- ConcordanceFrequent: for every input, whatever lies in memory, the law returns true and leaves its arguments as they were. Its condition: the package-level variables (the tables of math/bits and strconv) that it comes to hold what the program text lays. -/
import Derived.Test.YtngdmpkoedpgdaaGreatDoorConcordanceFrequentR
namespace Go.Proofs.YtngdmpkoedpgdaaGreatDoor
open Go.RowKit Go.Ap Go.Shelf Go.ChangeShapes Go.WideShapes Go.ChangeAt
theorem named56 : Tryz.prog.funcNamed "apograph/apographlaw56.ConcordanceFrequent" = some 4 := by kernel_rfl
theorem stand_posts : Tryz.prog.wantsStandIn 27 = false := by kernel_rfl
theorem stand_u8 : Tryz.prog.wantsStandIn 5 = false := by kernel_rfl
theorem concordanceFrequent_holds : Rows.ConcordanceFrequentCardSaid :=
  Claim7.holds_tied_plain_at .later [] [.data, .data, .data] true Rows.concordanceFrequentCard.stood.harness true
    concordanceFrequent_row (fun _ h => by cases h) (by as_aux_lemma => kernel_rfl) (fun _ h => by cases h) concordanceFrequent_row_tie rfl ⟨rfl, rfl⟩ (by as_aux_lemma => kernel_rfl) rfl
    (fun f fn hf hfn => by
      obtain rfl : f = 4 := Option.some.inj ((show Tryz.prog.funcNamed "apograph/apographlaw56.ConcordanceFrequent" = some 4 from named56).symm.trans hf) |>.symm
      obtain rfl : fn = Tryz.f4 := (Option.some.inj (Tryz.func4.symm.trans hfn)).symm
      exact ⟨by as_aux_lemma => kernel_rfl, fun j t ht => by
        rw [Tryz.params4] at ht
        have hm : t ∈ [27, 5] := by simpa using Array.mem_of_getElem? ht
        have hall : ([27, 5].all fun u => !Tryz.prog.wantsStandIn u) = true := by simp only [List.all_cons, List.all_nil, stand_posts, stand_u8, Bool.not_false, Bool.and_self]
        exact (show Tryz.prog.wantsStandIn t = false by simpa using List.all_eq_true.1 hall t hm)⟩)
    (by as_aux_lemma => kernel_rfl)
end Go.Proofs.YtngdmpkoedpgdaaGreatDoor
