/- VariantgraphChecks: for every input, whatever lies in memory, the law returns true and leaves its arguments as they were. Its condition: the five package-level variables that it comes to hold what the program text lays. -/
import Derived.Test.YtjmebijckcimoaaGreatDoorLk24
import Derived.Test.YtjmebijckcimoaaGreatDoorEvg24
import Derived.Test.YtjmebijckcimoaaGreatDoorTie
import Derived.Test.YtjmebijckcimoaaGreatDoorCards
import Derived.SevenTiedAt
import Derived.JoinedOf
import Derived.JoinedAt
import Derived.LaidLaws
namespace Go.Proofs.YtjmebijckcimoaaGreatDoor
open Go.RowKit Go.Ap Go.Shelf Go.ChangeShapes Go.WideShapes Go.ChangeAt
namespace RowVariantgraphChecks

theorem own : ownKnob Tryz.prog.godebug = none := by kernel_rfl
theorem laidOut : laidOutB Tryz.prog = true := by kernel_rfl
set_option maxHeartbeats 800000 in
set_option maxRecDepth 100000 in
theorem lifted (os : Os) (started : os.Started) (H : Type) (enc : TypeId × Value → H) :
    ReturnsInHanded {} Tryz.checked os 7 .any (fun w args => (Rows.variantgraphChecksSpec.pre enc Tryz.prog Tryz.f7 Rows.variantgraphChecksRow.domain false w args ∧ laidMet Tryz.prog laidL w) ∧ sizedMet enc Tryz.prog Tryz.f7 (OpenSpec.ofChange Rows.variantgraphChecksSpec) false w args)
      (Rows.variantgraphChecksSpec.post enc Tryz.prog Tryz.f7 false true false false) := by
  refine returnsInHanded_of_change_and (C := Tryz.checked) (X := fun w _ => laidMet Tryz.prog laidL w) (fun _ _ _ hh h => h.of_heap hh) own started (by kernel_rfl) Tryz.func7
    (ChangeSpec.witness_shaped (enc := enc) (C := Tryz.checked) (os := os) (X := fun w _ => laidMet Tryz.prog laidL w) false (World.doorLaid Tryz.prog 62 os) #[.agg #[.slice none 0 0, .slice none 0 0], .agg #[.slice none 0 0, .slice none 0 0], .int .i64 0] 8 rfl (World.shaped_of_RefB (by kernel_rfl) (by kernel_rfl)) (by kernel_rfl) (by kernel_rfl) (by kernel_rfl) (door_met os _)) ?_
  intro W base args ds gs before hval0 hW _ hsz0 hL _
  have hsz : (DataW.weightsEach Tryz.prog (Tryz.f7.params.toList ++ Rows.variantgraphChecksSpec.plain.varTypes Tryz.prog) (ds ++ gs)).all (· ≤ reachBytes) = true := hsz0
  clear hsz0
  have hval : ∀ (j : Nat) t v, Tryz.f7.params[j]? = some t → args[j]? = some v → Value.okWide Tryz.prog W .any base t v := hval0
  have hW' := hW
  obtain ⟨p, q, hA0, hV, rfl, _, _⟩ := hW
  have hA : DataW.TrodAll enc Tryz.prog W 0 (fun _ => true) true Tryz.f7.params.toList args.toList ds p := hA0
  rw [Tryz.params7] at hA hval hsz
  obtain ⟨v0, v1, v2, d0, d1, d2, p0, p1, p2, rfl, rfl, rfl, h0, h1, h2⟩ := trodAll_three hA
  obtain ⟨rfl, rfl⟩ := trodVars_none hV
  have h0k := h0
  have h1k := h1
  have h2k := h2
  clear hA0 hval0
  simp only [List.append_nil] at hW'
  have hlt : ∀ y ∈ p0 ++ p1 ++ p2, y.block < W.heap.size := fun y hy => by simpa using hW'.lt y (by simpa using hy)
  have hev := ev_of_laid hL
  obtain ⟨ws0, al0, a01, n01, c01, a02, n02, c02, rfl, hx0⟩ := open_Graph ⟨_, hval 0 _ v0 rfl rfl⟩ h0 (Fit.each hsz (j := 0) rfl rfl)
  obtain ⟨ws1, al1, a11, n11, c11, a12, n12, c12, rfl, hx1⟩ := open_Graph ⟨_, hval 1 _ v1 rfl rfl⟩ h1 (Fit.each hsz (j := 1) rfl rfl)
  obtain ⟨z2, rfl, rfl, rfl, wz2⟩ := open_int Tryz.underlying3 (hval 2 3 v2 rfl rfl) h2
  have hx2 := i64_of_wf wz2
  refine (law7 ws0 al0 a01 n01 c01 a02 n02 c02 ws1 al1 a11 n11 c11 a12 n12 c12 z2 W hx0 hx1 hx2 hev).mono fun e W' ⟨he, hn⟩ => ?_
  subst he
  exact ⟨_, rfl, _, _, _, [], _, [], hW', trodAll_mk1 (shut_bool Tryz.underlying4 true),
    trodAll_mk3 (Below.trod laidOut (by kernel_rfl) (of_decide_eq_true (by kernel_rfl)) h0k hn (fun y hy => hlt y (by simp [hy]))) (Below.trod laidOut (by kernel_rfl) (of_decide_eq_true (by kernel_rfl)) h1k hn (fun y hy => hlt y (by simp [hy]))) (Below.trod laidOut (by kernel_rfl) (of_decide_eq_true (by kernel_rfl)) h2k hn (fun y hy => by cases hy)),
    rfl, hn.frame _, fun h => by cases h⟩

end RowVariantgraphChecks
theorem variantgraphChecks_row : Rows.VariantgraphChecksSaid :=
  OpenClaim.holds_of_wide 7 Tryz.f7 rfl rfl rfl rfl rfl rfl rfl ⟨rfl, rfl, rfl, rfl, rfl⟩ rfl rfl rfl rfl rfl (by kernel_rfl) Tryz.func7 (by kernel_rfl)
    (of_decide_eq_true (by kernel_rfl)) (by unfold Func.isWrapper; first | (rw [if_pos (by decide +kernel)]; kernel_rfl) | (rw [if_neg (by decide +kernel)]; exact ⟨rfl, rfl⟩))
    (fun os started H enc _ => RowVariantgraphChecks.lifted os started H enc)
theorem variantgraphChecks_holds : Rows.VariantgraphChecksCardSaid :=
  Claim7.holds_tied_plain_at .later [] [.data, .data, .data, .sentinel, .sentinel] true Rows.variantgraphChecksCard.stood.harness true
    variantgraphChecks_row (fun _ h => by cases h) (by kernel_rfl) (fun _ h => by cases h) variantgraphChecks_row_tie rfl ⟨rfl, rfl⟩ (by kernel_rfl) rfl
    (fun f fn hf hfn => by
      obtain rfl : f = 7 := Option.some.inj ((show Tryz.prog.funcNamed "apograph/apographlaw24.VariantgraphChecks" = some 7 by kernel_rfl).symm.trans hf) |>.symm
      obtain rfl : fn = Tryz.f7 := (Option.some.inj (Tryz.func7.symm.trans hfn)).symm
      exact ⟨by kernel_rfl, fun j t ht => by
        rw [Tryz.params7] at ht
        have hm : t ∈ [31, 31, 3] := by simpa using Array.mem_of_getElem? ht
        have hall : ([31, 31, 3].all fun u => !Tryz.prog.wantsStandIn u) = true := by kernel_rfl
        exact (show Tryz.prog.wantsStandIn t = false by simpa using List.all_eq_true.1 hall t hm)⟩)
    (by kernel_rfl)
end Go.Proofs.YtjmebijckcimoaaGreatDoor
