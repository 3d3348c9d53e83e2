/- VariationOthers: for every input, whatever lies in memory, the law returns true and leaves its arguments as they were. Its condition: the five package-level variables that it comes to hold what the program text lays. -/
import Derived.Test.YthfppkcefnmdoaaGreatDoorL8
import Derived.Test.YthfppkcefnmdoaaGreatDoorOpP
import Derived.Test.YthfppkcefnmdoaaGreatDoorEvl
import Derived.Test.YthfppkcefnmdoaaGreatDoorTie
import Derived.Test.YthfppkcefnmdoaaGreatDoorCards
import Derived.SevenTiedAt
import Derived.JoinedOf
import Derived.JoinedAt
import Derived.LaidLaws
namespace Go.Proofs.YthfppkcefnmdoaaGreatDoor
open Go.RowKit Go.Ap Go.Shelf Go.ChangeShapes Go.WideShapes Go.ChangeAt
namespace RowVariationOthers

theorem own : ownKnob Tryz.prog.godebug = none := by kernel_rfl
theorem laidOut : laidOutB Tryz.prog = true := by kernel_rfl
set_option maxHeartbeats 800000 in
set_option maxRecDepth 100000 in
theorem lifted (os : Os) (started : os.Started) (H : Type) (enc : TypeId × Value → H) :
    ReturnsInHanded {} Tryz.checked os 8 .any (fun w args => (Rows.variationOthersSpec.pre enc Tryz.prog Tryz.f8 Rows.variationOthersRow.domain false w args ∧ laidMet Tryz.prog laidL w) ∧ sizedMet enc Tryz.prog Tryz.f8 (OpenSpec.ofChange Rows.variationOthersSpec) false w args)
      (Rows.variationOthersSpec.post enc Tryz.prog Tryz.f8 false true false false) := by
  refine returnsInHanded_of_change_and (C := Tryz.checked) (X := fun w _ => laidMet Tryz.prog laidL w) (fun _ _ _ hh h => h.of_heap hh) own started (by kernel_rfl) Tryz.func8
    (ChangeSpec.witness_shaped (enc := enc) (C := Tryz.checked) (os := os) (X := fun w _ => laidMet Tryz.prog laidL w) false (World.doorLaid Tryz.prog 62 os) #[.agg #[.string ⟨#[]⟩, .slice none 0 0, .slice none 0 0, .slice none 0 0], .slice none 0 0, .int .i64 0, .int .i64 0] 8 rfl (World.shaped_of_RefB (by kernel_rfl) (by kernel_rfl)) (by kernel_rfl) (by kernel_rfl) (by kernel_rfl) (door_met os _)) ?_
  intro W base args ds gs before hval0 hW _ hsz0 hL _
  have hsz : (DataW.weightsEach Tryz.prog (Tryz.f8.params.toList ++ Rows.variationOthersSpec.plain.varTypes Tryz.prog) (ds ++ gs)).all (· ≤ reachBytes) = true := hsz0
  clear hsz0
  have hval : ∀ (j : Nat) t v, Tryz.f8.params[j]? = some t → args[j]? = some v → Value.okWide Tryz.prog W .any base t v := hval0
  have hW' := hW
  obtain ⟨p, q, hA0, hV, rfl, _, _⟩ := hW
  have hA : DataW.TrodAll enc Tryz.prog W 0 (fun _ => true) true Tryz.f8.params.toList args.toList ds p := hA0
  rw [Tryz.params8] at hA hval hsz
  obtain ⟨v0, v1, v2, v3, d0, d1, d2, d3, p0, p1, p2, p3, rfl, rfl, rfl, h0, h1, h2, h3⟩ := trodAll_four hA
  obtain ⟨rfl, rfl⟩ := trodVars_none hV
  have h0k := h0
  have h1k := h1
  have h2k := h2
  have h3k := h3
  clear hA0 hval0
  simp only [List.append_nil] at hW'
  have hlt : ∀ y ∈ p0 ++ p1 ++ p2 ++ p3, y.block < W.heap.size := fun y hy => by simpa using hW'.lt y (by simpa using hy)
  have hev := ev_of_laid hL
  obtain ⟨x0, a01, n01, c01, a02, n02, c02, a03, n03, c03, rfl, hx0, hc0⟩ := open_Coll ⟨_, hval 0 _ v0 rfl rfl⟩ h0 (Fit.each hsz (j := 0) rfl rfl)
  obtain ⟨a1, n1, c1, rfl⟩ := okWide_slice Tryz.underlying31 (hval 1 31 v1 rfl rfl)
  obtain ⟨fuel1, h1⟩ := h1
  obtain ⟨us1, hx1⟩ := open_Plcs h1 (Fit.each hsz (j := 1) rfl rfl)
  obtain ⟨z2, rfl, rfl, rfl, wz2⟩ := open_int Tryz.underlying3 (hval 2 3 v2 rfl rfl) h2
  have hx2 := i64_of_wf wz2
  obtain ⟨z3, rfl, rfl, rfl, wz3⟩ := open_int Tryz.underlying3 (hval 3 3 v3 rfl rfl) h3
  have hx3 := i64_of_wf wz3
  refine (law8 x0 a01 n01 c01 a02 n02 c02 a03 n03 c03 a1 n1 c1 us1 z2 z3 W hx0 hc0 hx1 hx2 hx3 hev).mono fun e W' ⟨he, hn⟩ => ?_
  subst he
  exact ⟨_, rfl, _, _, _, [], _, [], hW', trodAll_mk1 (shut_bool Tryz.underlying4 true),
    trodAll_mk4 (Below.trod laidOut (by kernel_rfl) (of_decide_eq_true (by kernel_rfl)) h0k hn (fun y hy => hlt y (by simp [hy]))) (Below.trod laidOut (by kernel_rfl) (of_decide_eq_true (by kernel_rfl)) h1k hn (fun y hy => hlt y (by simp [hy]))) (Below.trod laidOut (by kernel_rfl) (of_decide_eq_true (by kernel_rfl)) h2k hn (fun y hy => by cases hy)) (Below.trod laidOut (by kernel_rfl) (of_decide_eq_true (by kernel_rfl)) h3k hn (fun y hy => by cases hy)),
    rfl, hn.frame _, fun h => by cases h⟩

end RowVariationOthers
theorem variationOthers_row : Rows.VariationOthersSaid :=
  OpenClaim.holds_of_wide 8 Tryz.f8 rfl rfl rfl rfl rfl rfl rfl ⟨rfl, rfl, rfl, rfl, rfl⟩ rfl rfl rfl rfl rfl (by kernel_rfl) Tryz.func8 (by kernel_rfl)
    (of_decide_eq_true (by kernel_rfl)) (by unfold Func.isWrapper; first | (rw [if_pos (by decide +kernel)]; kernel_rfl) | (rw [if_neg (by decide +kernel)]; exact ⟨rfl, rfl⟩))
    (fun os started H enc _ => RowVariationOthers.lifted os started H enc)
theorem variationOthers_holds : Rows.VariationOthersCardSaid :=
  Claim7.holds_tied_plain_at .later [] [.data, .data, .data, .sentinel, .sentinel] true Rows.variationOthersCard.stood.harness true
    variationOthers_row (fun _ h => by cases h) (by kernel_rfl) (fun _ h => by cases h) variationOthers_row_tie rfl ⟨rfl, rfl⟩ (by kernel_rfl) rfl
    (fun f fn hf hfn => by
      obtain rfl : f = 8 := Option.some.inj ((show Tryz.prog.funcNamed "apograph/apographlaw25.VariationOthers" = some 8 by kernel_rfl).symm.trans hf) |>.symm
      obtain rfl : fn = Tryz.f8 := (Option.some.inj (Tryz.func8.symm.trans hfn)).symm
      exact ⟨by kernel_rfl, fun j t ht => by
        rw [Tryz.params8] at ht
        have hm : t ∈ [26, 31, 3, 3] := by simpa using Array.mem_of_getElem? ht
        have hall : ([26, 31, 3, 3].all fun u => !Tryz.prog.wantsStandIn u) = true := by kernel_rfl
        exact (show Tryz.prog.wantsStandIn t = false by simpa using List.all_eq_true.1 hall t hm)⟩)
    (by kernel_rfl)
end Go.Proofs.YthfppkcefnmdoaaGreatDoor
