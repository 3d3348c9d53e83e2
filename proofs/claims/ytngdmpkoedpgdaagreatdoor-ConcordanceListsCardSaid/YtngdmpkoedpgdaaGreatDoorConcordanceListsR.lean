/- ConcordanceLists, its row: for every input, whatever lies in memory, the law returns true and leaves its arguments as they were. Its condition: the package-level variables (the tables of math/bits and strconv) that it comes to hold what the program text lays. -/
import Derived.Test.YtngdmpkoedpgdaaGreatDoorV11
import Derived.Test.YtngdmpkoedpgdaaGreatDoorQf
import Derived.Test.YtngdmpkoedpgdaaGreatDoorJf
import Derived.Test.YtngdmpkoedpgdaaGreatDoorTie
import Derived.Test.YtngdmpkoedpgdaaGreatDoorCards
import Derived.SevenTiedAt
import Derived.JoinedOf
import Derived.JoinedAt
import Derived.LaidLaws
import Derived.Lay
import Derived.LaidOnce
namespace Go.Proofs.YtngdmpkoedpgdaaGreatDoor
open Go.RowKit Go.Ap Go.Shelf Go.ChangeShapes Go.WideShapes Go.ChangeAt
namespace RowConcordanceLists

theorem own : ownKnob Tryz.prog.godebug = none := by kernel_rfl
theorem laidOut : laidOutB Tryz.prog = true := jf_laidOut
abbrev laidL : List (String × DataW Unit) := [("math/bits.deBruijn32tab", Rows.laid_math_bits_deBruijn32tab), ("math/bits.deBruijn64tab", Rows.laid_math_bits_deBruijn64tab), ("internal/strconv.uint64pow10", Rows.laid_internal_strconv_uint64pow10), ("unicode/utf8.acceptRanges", Rows.laid_unicode_utf8_acceptRanges), ("strconv.ErrRange", Rows.laid_strconv_ErrRange), ("strconv.ErrSyntax", Rows.laid_strconv_ErrSyntax), ("unicode/utf8.first", Rows.laid_unicode_utf8_first)]
theorem door_met (os : Os) (args : Array Value) : laidMet Tryz.prog laidL ((World.laidAll Tryz.prog os laidL).forCall (fun _ _ => 0) ⟨#[], args, []⟩).memory :=
  laidMet_laidAll _ (by kernel_rfl) (by kernel_rfl)
theorem fact0 : (Rows.concordanceListsRow.wf (OpenSpec.ofChange Rows.concordanceListsSpec)) = true := by kernel_rfl
theorem fact3 : (Tryz.f11.params.all (Tryz.prog.readableRec ·)) = true := by kernel_rfl
theorem fact4 : (namedTie Tryz.prog Rows.concordanceListsRow.named Rows.concordanceListsSpec.vars) = true := by kernel_rfl
theorem fact5 : ((Rows.concordanceListsRow.stops == [])) = true := by kernel_rfl
theorem fact7 : ((Rows.concordanceListsRow.knobs == [])) = true := by kernel_rfl
theorem fact9 : ((Rows.concordanceListsRow.inPlace == Tryz.prog.inPlace 11)) = true := by kernel_rfl
theorem fact10 : ((Rows.concordanceListsRow.unfollowed == Tryz.prog.unfollowed 11)) = true := by kernel_rfl
theorem fact11 : ((Rows.concordanceListsRow.recurses == Tryz.prog.recurses 11)) = true := by kernel_rfl
theorem fact12 : ((Rows.concordanceListsRow.named == Tryz.prog.varsNamed 11)) = true := by kernel_rfl
theorem fact13 : ((Rows.concordanceListsRow.maps == (Tryz.f11.params.toList ++ Rows.concordanceListsSpec.plain.varTypes Tryz.prog).any (Tryz.prog.mapsRec ·))) = true := by kernel_rfl
theorem fact14 : ((Rows.concordanceListsRow.ifaces == (Tryz.f11.params.toList ++ Rows.concordanceListsSpec.plain.varTypes Tryz.prog).any (Tryz.prog.ifacesRec ·))) = true := by kernel_rfl
theorem fact15 : ((Rows.concordanceListsRow.mapsOut == Tryz.prog.mapsAmong Tryz.f11.resultTypes.toList)) = true := by kernel_rfl
theorem fact16 : ((Rows.concordanceListsRow.loops == (Tryz.f11.params.toList ++ Rows.concordanceListsSpec.plain.varTypes Tryz.prog).any (Tryz.prog.loopsFrom ·))) = true := by kernel_rfl
theorem fact17 : ((Rows.concordanceListsRow.wideKeys == (Tryz.f11.params.toList ++ Rows.concordanceListsSpec.plain.varTypes Tryz.prog ++ Tryz.f11.resultTypes.toList).any (Tryz.prog.wideKeysFrom ·))) = true := by kernel_rfl
theorem fact18 : (Rows.concordanceListsSpec.vars.all (Tryz.prog.varReadable ·)) = true := by kernel_rfl
theorem fact19 : (Tryz.f11.resultTypes.all (fun t => Tryz.prog.readableRec t && decide (t < Tryz.prog.types.size))) = true := by kernel_rfl
theorem fact20 : ((Rows.concordanceListsRow.ifacesOut == Tryz.f11.resultTypes.toList.any (Tryz.prog.ifacesRec ·))) = true := by kernel_rfl
theorem fact21 : ((Rows.concordanceListsRow.loopsOut == Tryz.f11.resultTypes.toList.any (Tryz.prog.loopsFrom ·))) = true := by kernel_rfl
theorem fact22 : ((Rows.concordanceListsRow.plainKeys == Tryz.prog.plainKeys)) = true := jf_plainKeys
theorem fact23 : (Rows.concordanceListsRow.shortTexts.isNone) = true := by kernel_rfl
theorem fact26 : ((Rows.concordanceListsRow.lifted == Tryz.prog.liftsFinal)) = true := jf_lifted
theorem fact27 : ((Tryz.prog.make == some Rows.concordanceListsRow.make)) = true := jf_make
theorem fact29 : ((Rows.concordanceListsRow.pinned == Rows.concordanceListsRow.pinnedBy)) = true := by kernel_rfl
theorem fact30 : ((Rows.concordanceListsRow.veiled == (Tryz.f11.params.toList ++ Rows.concordanceListsSpec.plain.varTypes Tryz.prog ++ Tryz.f11.resultTypes.toList).any (Tryz.prog.veiledRec ·))) = true := by kernel_rfl
theorem fact31 : (Rows.concordanceListsRow.veiledFits Tryz.prog Tryz.f11.params.toList (Tryz.f11.params.toList ++ Rows.concordanceListsSpec.plain.varTypes Tryz.prog ++ Tryz.f11.resultTypes.toList)) = true := by kernel_rfl
theorem closed : joinedFacts Tryz.prog 11 Tryz.f11 Rows.concordanceListsSpec Rows.concordanceListsRow = true := by
  unfold joinedFacts
  refine and_t ?_ fact31
  refine and_t ?_ fact30
  refine and_t ?_ fact29
  refine and_t ?_ (by kernel_rfl)
  refine and_t ?_ fact27
  refine and_t ?_ fact26
  refine and_t ?_ jf_mayEnter
  refine and_t ?_ jf_stopsHeard
  refine and_t ?_ fact23
  refine and_t ?_ fact22
  refine and_t ?_ fact21
  refine and_t ?_ fact20
  refine and_t ?_ fact19
  refine and_t ?_ fact18
  refine and_t ?_ fact17
  refine and_t ?_ fact16
  refine and_t ?_ fact15
  refine and_t ?_ fact14
  refine and_t ?_ fact13
  refine and_t ?_ fact12
  refine and_t ?_ fact11
  refine and_t ?_ fact10
  refine and_t ?_ fact9
  refine and_t ?_ jf_stopKnobs
  refine and_t ?_ fact7
  refine and_t ?_ jf_stops
  refine and_t ?_ fact5
  refine and_t ?_ fact4
  refine and_t ?_ fact3
  refine and_t ?_ jf_mapsRowed
  refine and_t ?_ jf_laidOut
  exact fact0
theorem inst : Tryz.f11.isInstance Tryz.prog Rows.concordanceListsRow.origin Rows.concordanceListsRow.targs := of_decide_eq_true (by kernel_rfl)
theorem wrapped : Tryz.f11.isWrapper Tryz.prog Rows.concordanceListsRow.wrapper Rows.concordanceListsRow.mainSum := by unfold Func.isWrapper; first | (rw [if_pos (by decide +kernel)]; kernel_rfl) | (rw [if_neg (by decide +kernel)]; exact ⟨rfl, rfl⟩)
set_option maxHeartbeats 800000 in
set_option maxRecDepth 100000 in
theorem lifted (os : Os) (started : os.Started) (H : Type) (enc : TypeId × Value → H) :
    ReturnsInHanded {} Tryz.checked os 11 .any (fun w args => (Rows.concordanceListsSpec.pre enc Tryz.prog Tryz.f11 Rows.concordanceListsRow.domain false w args ∧ laidMet Tryz.prog laidL w) ∧ sizedMet enc Tryz.prog Tryz.f11 (OpenSpec.ofChange Rows.concordanceListsSpec) false w args)
      (Rows.concordanceListsSpec.post enc Tryz.prog Tryz.f11 false true false false) := by
  refine returns_and_shaped (C := Tryz.checked) (X := fun w _ => laidMet Tryz.prog laidL w) (fun _ _ _ hh h => h.of_heap hh) own started (by kernel_rfl) Tryz.func11
    (ChangeSpec.witness_shaped (enc := enc) (C := Tryz.checked) (os := os) (X := fun w _ => laidMet Tryz.prog laidL w) false (World.laidAll Tryz.prog os laidL) #[.slice none 0 0, .slice none 0 0, .string ⟨#[]⟩, .string ⟨#[]⟩, .int .i64 0] 8 (World.laidAll_os _ _ _) (World.shaped_of_ZipB (by kernel_rfl) (by kernel_rfl)) (by kernel_rfl) (by kernel_rfl) (by kernel_rfl) (door_met os _)) ?_
  intro W base args ds gs before hval0 hW hsz0 hL hsh
  have hsz : (DataW.weightsEach Tryz.prog (Tryz.f11.params.toList ++ Rows.concordanceListsSpec.plain.varTypes Tryz.prog) (ds ++ gs)).all (· ≤ reachBytes) = true := hsz0
  clear hsz0
  have hval : ∀ (j : Nat) t v, Tryz.f11.params[j]? = some t → args[j]? = some v → Value.okWide Tryz.prog W .any base t v := hval0
  have hW' := hW
  obtain ⟨p, q, hA0, hV, rfl, _, _⟩ := hW
  have hA : DataW.TrodAll enc Tryz.prog W 0 (fun _ => true) true Tryz.f11.params.toList args.toList ds p := hA0
  rw [Tryz.params11] at hA hval hsz
  obtain ⟨v0, vs0, d0, ds0, p0, q0, hargs, rfl, rfl, h0, r0⟩ := trodAll_cons hA
  obtain ⟨v1, vs1, d1, ds1, p1, q1, rfl, rfl, rfl, h1, r1⟩ := trodAll_cons r0
  obtain ⟨v2, vs2, d2, ds2, p2, q2, rfl, rfl, rfl, h2, r2⟩ := trodAll_cons r1
  obtain ⟨v3, vs3, d3, ds3, p3, q3, rfl, rfl, rfl, h3, r3⟩ := trodAll_cons r2
  obtain ⟨v4, vs4, d4, ds4, p4, q4, rfl, rfl, rfl, h4, r4⟩ := trodAll_cons r3
  obtain ⟨rfl, rfl, rfl⟩ := trodAll_nil r4
  obtain rfl : args = #[v0, v1, v2, v3, v4] := by apply Array.toList_inj.1; simpa using hargs
  clear hargs
  obtain ⟨rfl, rfl⟩ := trodVars_none hV
  have h0k := h0
  have h1k := h1
  have h2k := h2
  have h3k := h3
  have h4k := h4
  clear hA0 hval0
  simp only [List.append_nil] at hW'
  have hlt : ∀ y ∈ (p0 ++ (p1 ++ (p2 ++ (p3 ++ (p4 ++ []))))), y.block < W.heap.size := fun y hy => by simpa using hW'.lt y (by simpa using hy)
  have het : ET W := et_of_laid hL
  have hev : EV W := ev_of_laid7 hL
  have hem : EM W := em_of_shaped hsh
  obtain ⟨a0, n0, c0, rfl⟩ := okWide_slice Tryz.underlying52 (hval 0 52 v0 rfl rfl)
  obtain ⟨fuel0, h0⟩ := h0
  obtain ⟨us0, hx0⟩ := open_Ps2 h0 (Fit.each hsz (j := 0) rfl rfl)
  obtain ⟨a1, n1, c1, rfl⟩ := okWide_slice Tryz.underlying27 (hval 1 27 v1 rfl rfl)
  obtain ⟨fuel1, h1⟩ := h1
  obtain ⟨us1, hx1⟩ := open_Ps h1 (Fit.each hsz (j := 1) rfl rfl)
  obtain ⟨s2, rfl⟩ := okWide_string Tryz.underlying9 (hval 2 9 v2 rfl rfl)
  obtain ⟨fuel2, h2⟩ := h2
  obtain ⟨l2, rfl, hx2⟩ := open_Str Tryz.underlying9 h2 (Fit.each hsz (j := 2) rfl rfl)
  obtain ⟨s3, rfl⟩ := okWide_string Tryz.underlying9 (hval 3 9 v3 rfl rfl)
  obtain ⟨fuel3, h3⟩ := h3
  obtain ⟨l3, rfl, hx3⟩ := open_Str Tryz.underlying9 h3 (Fit.each hsz (j := 3) rfl rfl)
  obtain ⟨z4, rfl, rfl, rfl, wz4⟩ := open_int Tryz.underlying3 (hval 4 3 v4 rfl rfl) h4
  have hx4 := i64_of_wf wz4
  refine (law11r a0 n0 c0 us0 a1 n1 c1 us1 l2 l3 z4 W hx0 hx1 hx2 hx3 hx4 het hev hem).mono fun e W' ⟨he, hn⟩ => ?_
  subst he
  exact ⟨_, rfl, _, _, _, [], _, [], hW', trodAll_mk1 (shut_bool Tryz.underlying4 true),
    (trodAll_cons_mk (Below.trod laidOut (by kernel_rfl) (of_decide_eq_true (by kernel_rfl)) h0k hn (fun y hy => hlt y (by simp [hy]))) (trodAll_cons_mk (Below.trod laidOut (by kernel_rfl) (of_decide_eq_true (by kernel_rfl)) h1k hn (fun y hy => hlt y (by simp [hy]))) (trodAll_cons_mk (Below.trod laidOut (by kernel_rfl) (of_decide_eq_true (by kernel_rfl)) h2k hn (fun y hy => hlt y (by simp [hy]))) (trodAll_cons_mk (Below.trod laidOut (by kernel_rfl) (of_decide_eq_true (by kernel_rfl)) h3k hn (fun y hy => hlt y (by simp [hy]))) (trodAll_cons_mk (Below.trod laidOut (by kernel_rfl) (of_decide_eq_true (by kernel_rfl)) h4k hn (fun y hy => by cases hy)) trodAll_mk0))))),
    rfl, hn.frame _, fun h => by cases h⟩

end RowConcordanceLists
theorem concordanceLists_row : Rows.ConcordanceListsSaid :=
  OpenClaim.holds_of_wide 11 Tryz.f11 rfl rfl rfl rfl rfl rfl rfl ⟨rfl, rfl, rfl, rfl, rfl⟩ rfl rfl rfl rfl rfl (by kernel_rfl) Tryz.func11 RowConcordanceLists.closed
    RowConcordanceLists.inst RowConcordanceLists.wrapped
    (fun os started H enc _ => RowConcordanceLists.lifted os started H enc)
end Go.Proofs.YtngdmpkoedpgdaaGreatDoor
