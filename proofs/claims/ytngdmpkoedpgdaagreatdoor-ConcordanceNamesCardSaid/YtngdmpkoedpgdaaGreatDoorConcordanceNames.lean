/- ConcordanceNames: for every input, whatever lies in memory, the law returns true and leaves its arguments as they were. Its condition: the package-level variables (the tables of math/bits and strconv, the two errors of strconv) that it comes to hold what the program text lays. -/
import Derived.Test.YtngdmpkoedpgdaaGreatDoorV8
import Derived.Test.YtngdmpkoedpgdaaGreatDoorE6
import Derived.Test.YtngdmpkoedpgdaaGreatDoorE5
import Derived.Test.YtngdmpkoedpgdaaGreatDoorJf
import Derived.Test.YtngdmpkoedpgdaaGreatDoorTie
import Derived.Test.YtngdmpkoedpgdaaGreatDoorCards
import Derived.SevenTiedAt
import Derived.JoinedOf
import Derived.JoinedAt
import Derived.LaidLaws
namespace Go.Proofs.YtngdmpkoedpgdaaGreatDoor
open Go.RowKit Go.Ap Go.Shelf Go.ChangeShapes Go.WideShapes Go.ChangeAt
namespace RowConcordanceNames

theorem own : ownKnob Tryz.prog.godebug = none := by kernel_rfl
theorem laidOut : laidOutB Tryz.prog = true := jf_laidOut
abbrev laidL : List (String × DataW Unit) := [("math/bits.deBruijn32tab", Rows.laid_math_bits_deBruijn32tab), ("math/bits.deBruijn64tab", Rows.laid_math_bits_deBruijn64tab), ("internal/strconv.uint64pow10", Rows.laid_internal_strconv_uint64pow10), ("strconv.ErrRange", Rows.laid_strconv_ErrRange), ("strconv.ErrSyntax", Rows.laid_strconv_ErrSyntax)]
theorem door_met (os : Os) (args : Array Value) : laidMet Tryz.prog laidL ((World.doorLaid Tryz.prog 62 os).forCall (fun _ _ => 0) ⟨#[], args, []⟩).memory :=
  laidMet_of_run' 8 (by kernel_rfl) (by kernel_rfl)
theorem fact0 : (Rows.concordanceNamesRow.wf (OpenSpec.ofChange Rows.concordanceNamesSpec)) = true := by kernel_rfl
theorem fact3 : (Tryz.f8.params.all (Tryz.prog.readableRec ·)) = true := by kernel_rfl
theorem fact4 : (namedTie Tryz.prog Rows.concordanceNamesRow.named Rows.concordanceNamesSpec.vars) = true := by kernel_rfl
theorem fact5 : ((Rows.concordanceNamesRow.stops == [])) = true := by kernel_rfl
theorem fact7 : ((Rows.concordanceNamesRow.knobs == [])) = true := by kernel_rfl
theorem fact9 : ((Rows.concordanceNamesRow.inPlace == Tryz.prog.inPlace 8)) = true := by kernel_rfl
theorem fact10 : ((Rows.concordanceNamesRow.unfollowed == Tryz.prog.unfollowed 8)) = true := by kernel_rfl
theorem fact11 : ((Rows.concordanceNamesRow.recurses == Tryz.prog.recurses 8)) = true := by kernel_rfl
theorem fact12 : ((Rows.concordanceNamesRow.named == Tryz.prog.varsNamed 8)) = true := by kernel_rfl
theorem fact13 : ((Rows.concordanceNamesRow.maps == (Tryz.f8.params.toList ++ Rows.concordanceNamesSpec.plain.varTypes Tryz.prog).any (Tryz.prog.mapsRec ·))) = true := by kernel_rfl
theorem fact14 : ((Rows.concordanceNamesRow.ifaces == (Tryz.f8.params.toList ++ Rows.concordanceNamesSpec.plain.varTypes Tryz.prog).any (Tryz.prog.ifacesRec ·))) = true := by kernel_rfl
theorem fact15 : ((Rows.concordanceNamesRow.mapsOut == Tryz.prog.mapsAmong Tryz.f8.resultTypes.toList)) = true := by kernel_rfl
theorem fact16 : ((Rows.concordanceNamesRow.loops == (Tryz.f8.params.toList ++ Rows.concordanceNamesSpec.plain.varTypes Tryz.prog).any (Tryz.prog.loopsFrom ·))) = true := by kernel_rfl
theorem fact17 : ((Rows.concordanceNamesRow.wideKeys == (Tryz.f8.params.toList ++ Rows.concordanceNamesSpec.plain.varTypes Tryz.prog ++ Tryz.f8.resultTypes.toList).any (Tryz.prog.wideKeysFrom ·))) = true := by kernel_rfl
theorem fact18 : (Rows.concordanceNamesSpec.vars.all (Tryz.prog.varReadable ·)) = true := by kernel_rfl
theorem fact19 : (Tryz.f8.resultTypes.all (fun t => Tryz.prog.readableRec t && decide (t < Tryz.prog.types.size))) = true := by kernel_rfl
theorem fact20 : ((Rows.concordanceNamesRow.ifacesOut == Tryz.f8.resultTypes.toList.any (Tryz.prog.ifacesRec ·))) = true := by kernel_rfl
theorem fact21 : ((Rows.concordanceNamesRow.loopsOut == Tryz.f8.resultTypes.toList.any (Tryz.prog.loopsFrom ·))) = true := by kernel_rfl
theorem fact22 : ((Rows.concordanceNamesRow.plainKeys == Tryz.prog.plainKeys)) = true := jf_plainKeys
theorem fact23 : (Rows.concordanceNamesRow.shortTexts.isNone) = true := by kernel_rfl
theorem fact26 : ((Rows.concordanceNamesRow.lifted == Tryz.prog.liftsFinal)) = true := jf_lifted
theorem fact27 : ((Tryz.prog.make == some Rows.concordanceNamesRow.make)) = true := jf_make
theorem fact29 : ((Rows.concordanceNamesRow.pinned == Rows.concordanceNamesRow.pinnedBy)) = true := by kernel_rfl
theorem fact30 : ((Rows.concordanceNamesRow.veiled == (Tryz.f8.params.toList ++ Rows.concordanceNamesSpec.plain.varTypes Tryz.prog ++ Tryz.f8.resultTypes.toList).any (Tryz.prog.veiledRec ·))) = true := by kernel_rfl
theorem fact31 : (Rows.concordanceNamesRow.veiledFits Tryz.prog Tryz.f8.params.toList (Tryz.f8.params.toList ++ Rows.concordanceNamesSpec.plain.varTypes Tryz.prog ++ Tryz.f8.resultTypes.toList)) = true := by kernel_rfl
theorem closed : joinedFacts Tryz.prog 8 Tryz.f8 Rows.concordanceNamesSpec Rows.concordanceNamesRow = true := by
  unfold joinedFacts
  refine and_t ?_ fact31
  refine and_t ?_ fact30
  refine and_t ?_ fact29
  refine and_t ?_ (by kernel_rfl)
  refine and_t ?_ fact27
  refine and_t ?_ fact26
  refine and_t ?_ jf_mayEnter
  refine and_t ?_ jf_stopsHeard
  refine and_t ?_ fact23
  refine and_t ?_ fact22
  refine and_t ?_ fact21
  refine and_t ?_ fact20
  refine and_t ?_ fact19
  refine and_t ?_ fact18
  refine and_t ?_ fact17
  refine and_t ?_ fact16
  refine and_t ?_ fact15
  refine and_t ?_ fact14
  refine and_t ?_ fact13
  refine and_t ?_ fact12
  refine and_t ?_ fact11
  refine and_t ?_ fact10
  refine and_t ?_ fact9
  refine and_t ?_ jf_stopKnobs
  refine and_t ?_ fact7
  refine and_t ?_ jf_stops
  refine and_t ?_ fact5
  refine and_t ?_ fact4
  refine and_t ?_ fact3
  refine and_t ?_ jf_mapsRowed
  refine and_t ?_ jf_laidOut
  exact fact0
theorem inst : Tryz.f8.isInstance Tryz.prog Rows.concordanceNamesRow.origin Rows.concordanceNamesRow.targs := of_decide_eq_true (by kernel_rfl)
theorem wrapped : Tryz.f8.isWrapper Tryz.prog Rows.concordanceNamesRow.wrapper Rows.concordanceNamesRow.mainSum := by unfold Func.isWrapper; first | (rw [if_pos (by decide +kernel)]; kernel_rfl) | (rw [if_neg (by decide +kernel)]; exact ⟨rfl, rfl⟩)
set_option maxHeartbeats 800000 in
set_option maxRecDepth 100000 in
theorem lifted (os : Os) (started : os.Started) (H : Type) (enc : TypeId × Value → H) :
    ReturnsInHanded {} Tryz.checked os 8 .any (fun w args => (Rows.concordanceNamesSpec.pre enc Tryz.prog Tryz.f8 Rows.concordanceNamesRow.domain false w args ∧ laidMet Tryz.prog laidL w) ∧ sizedMet enc Tryz.prog Tryz.f8 (OpenSpec.ofChange Rows.concordanceNamesSpec) false w args)
      (Rows.concordanceNamesSpec.post enc Tryz.prog Tryz.f8 false true false false) := by
  refine returnsInHanded_of_change_and (C := Tryz.checked) (X := fun w _ => laidMet Tryz.prog laidL w) (fun _ _ _ hh h => h.of_heap hh) own started (by kernel_rfl) Tryz.func8
    (ChangeSpec.witness_shaped (enc := enc) (C := Tryz.checked) (os := os) (X := fun w _ => laidMet Tryz.prog laidL w) false (World.doorLaid Tryz.prog 62 os) #[.agg #[.string ⟨#[]⟩, .slice none 0 0, .slice none 0 0, .slice none 0 0], .slice none 0 0, .slice none 0 0] 8 rfl (World.shaped_of_RefB (by kernel_rfl) (by kernel_rfl)) (by kernel_rfl) (by kernel_rfl) (by kernel_rfl) (door_met os _)) ?_
  intro W base args ds gs before hval0 hW _ hsz0 hL _
  have hsz : (DataW.weightsEach Tryz.prog (Tryz.f8.params.toList ++ Rows.concordanceNamesSpec.plain.varTypes Tryz.prog) (ds ++ gs)).all (· ≤ reachBytes) = true := hsz0
  clear hsz0
  have hval : ∀ (j : Nat) t v, Tryz.f8.params[j]? = some t → args[j]? = some v → Value.okWide Tryz.prog W .any base t v := hval0
  have hW' := hW
  obtain ⟨p, q, hA0, hV, rfl, _, _⟩ := hW
  have hA : DataW.TrodAll enc Tryz.prog W 0 (fun _ => true) true Tryz.f8.params.toList args.toList ds p := hA0
  rw [Tryz.params8] at hA hval hsz
  obtain ⟨v0, v1, v2, d0, d1, d2, p0, p1, p2, rfl, rfl, rfl, h0, h1, h2⟩ := trodAll_three hA
  obtain ⟨rfl, rfl⟩ := trodVars_none hV
  have h0k := h0
  have h1k := h1
  have h2k := h2
  clear hA0 hval0
  simp only [List.append_nil] at hW'
  have hlt : ∀ y ∈ p0 ++ p1 ++ p2, y.block < W.heap.size := fun y hy => by simpa using hW'.lt y (by simpa using hy)
  have het : ET W := et_of_laid hL
  have hev : EV W := ev_of_laid5 hL
  obtain ⟨x0, ax0, nx0, cx0, ay0, ny0, cy0, az0, nz0, cz0, rfl, hx0, hy0⟩ := open_Coll ⟨_, hval 0 68 v0 rfl rfl⟩ h0 (Fit.each hsz (j := 0) rfl rfl)
  obtain ⟨a1, n1, c1, rfl⟩ := okWide_slice Tryz.underlying69 (hval 1 69 v1 rfl rfl)
  obtain ⟨fuel1, h1⟩ := h1
  obtain ⟨us1, hx1⟩ := open_Ws h1 (Fit.each hsz (j := 1) rfl rfl)
  obtain ⟨a2, n2, c2, rfl⟩ := okWide_slice Tryz.underlying23 (hval 2 23 v2 rfl rfl)
  obtain ⟨fuel2, h2⟩ := h2
  obtain ⟨us2, hx2⟩ := open_Us h2 (Fit.each hsz (j := 2) rfl rfl)
  refine (law8 x0 ax0 nx0 cx0 ay0 ny0 cy0 az0 nz0 cz0 a1 n1 c1 us1 a2 n2 c2 us2 W hx0 hy0 hx1 hx2 het hev).mono fun e W' ⟨he, hn⟩ => ?_
  subst he
  exact ⟨_, rfl, _, _, _, [], _, [], hW', trodAll_mk1 (shut_bool Tryz.underlying4 true),
    trodAll_mk3 (Below.trod laidOut (by kernel_rfl) (of_decide_eq_true (by kernel_rfl)) h0k hn (fun y hy => hlt y (by simp [hy]))) (Below.trod laidOut (by kernel_rfl) (of_decide_eq_true (by kernel_rfl)) h1k hn (fun y hy => hlt y (by simp [hy]))) (Below.trod laidOut (by kernel_rfl) (of_decide_eq_true (by kernel_rfl)) h2k hn (fun y hy => hlt y (by simp [hy]))),
    rfl, hn.frame _, fun h => by cases h⟩

end RowConcordanceNames
theorem concordanceNames_row : Rows.ConcordanceNamesSaid :=
  OpenClaim.holds_of_wide 8 Tryz.f8 rfl rfl rfl rfl rfl rfl rfl ⟨rfl, rfl, rfl, rfl, rfl⟩ rfl rfl rfl rfl rfl (by kernel_rfl) Tryz.func8 RowConcordanceNames.closed
    RowConcordanceNames.inst RowConcordanceNames.wrapped
    (fun os started H enc _ => RowConcordanceNames.lifted os started H enc)
theorem concordanceNames_holds : Rows.ConcordanceNamesCardSaid :=
  Claim7.holds_tied_plain_at .later [] [.data, .data, .data, .sentinel, .sentinel] true Rows.concordanceNamesCard.stood.harness true
    concordanceNames_row (fun _ h => by cases h) (by kernel_rfl) (fun _ h => by cases h) concordanceNames_row_tie rfl ⟨rfl, rfl⟩ (by kernel_rfl) rfl
    (fun f fn hf hfn => by
      obtain rfl : f = 8 := Option.some.inj ((show Tryz.prog.funcNamed "apograph/apographlaw56.ConcordanceNames" = some 8 by kernel_rfl).symm.trans hf) |>.symm
      obtain rfl : fn = Tryz.f8 := (Option.some.inj (Tryz.func8.symm.trans hfn)).symm
      exact ⟨by kernel_rfl, fun j t ht => by
        rw [Tryz.params8] at ht
        have hm : t ∈ [68, 69, 23] := by simpa using Array.mem_of_getElem? ht
        have hall : ([68, 69, 23].all fun u => !Tryz.prog.wantsStandIn u) = true := by kernel_rfl
        exact (show Tryz.prog.wantsStandIn t = false by simpa using List.all_eq_true.1 hall t hm)⟩)
    (by kernel_rfl)
end Go.Proofs.YtngdmpkoedpgdaaGreatDoor
