/- ConcordanceWords, its row: for every input, whatever lies in memory, the law returns true and leaves its arguments as they were. Its condition: the package-level variables (the tables of math/bits and strconv, the two errors of strconv) that it comes to hold what the program text lays. -/
import Derived.Test.YtngdmpkoedpgdaaGreatDoorV9
import Derived.Test.YtngdmpkoedpgdaaGreatDoorQe
import Derived.Test.YtngdmpkoedpgdaaGreatDoorQe
import Derived.Test.YtngdmpkoedpgdaaGreatDoorJf
import Derived.Test.YtngdmpkoedpgdaaGreatDoorTie
import Derived.Test.YtngdmpkoedpgdaaGreatDoorCards
import Derived.SevenTiedAt
import Derived.JoinedOf
import Derived.JoinedAt
import Derived.LaidLaws
namespace Go.Proofs.YtngdmpkoedpgdaaGreatDoor
open Go.RowKit Go.Ap Go.Shelf Go.ChangeShapes Go.WideShapes Go.ChangeAt
namespace RowConcordanceWords

theorem own : ownKnob Tryz.prog.godebug = none := by kernel_rfl
theorem laidOut : laidOutB Tryz.prog = true := jf_laidOut
abbrev laidL : List (String × DataW Unit) := [("math/bits.deBruijn32tab", Rows.laid_math_bits_deBruijn32tab), ("math/bits.deBruijn64tab", Rows.laid_math_bits_deBruijn64tab), ("internal/strconv.uint64pow10", Rows.laid_internal_strconv_uint64pow10), ("strconv.ErrRange", Rows.laid_strconv_ErrRange), ("strconv.ErrSyntax", Rows.laid_strconv_ErrSyntax)]
theorem door_met (os : Os) (args : Array Value) : laidMet Tryz.prog laidL ((World.doorLaid Tryz.prog 62 os).forCall (fun _ _ => 0) ⟨#[], args, []⟩).memory :=
  laidMet_of_run' 8 (by kernel_rfl) (by kernel_rfl)
theorem fact0 : (Rows.concordanceWordsRow.wf (OpenSpec.ofChange Rows.concordanceWordsSpec)) = true := by kernel_rfl
theorem fact3 : (Tryz.f9.params.all (Tryz.prog.readableRec ·)) = true := by kernel_rfl
theorem fact4 : (namedTie Tryz.prog Rows.concordanceWordsRow.named Rows.concordanceWordsSpec.vars) = true := by kernel_rfl
theorem fact5 : ((Rows.concordanceWordsRow.stops == [])) = true := by kernel_rfl
theorem fact7 : ((Rows.concordanceWordsRow.knobs == [])) = true := by kernel_rfl
theorem fact9 : ((Rows.concordanceWordsRow.inPlace == Tryz.prog.inPlace 9)) = true := by kernel_rfl
theorem fact10 : ((Rows.concordanceWordsRow.unfollowed == Tryz.prog.unfollowed 9)) = true := by kernel_rfl
theorem fact11 : ((Rows.concordanceWordsRow.recurses == Tryz.prog.recurses 9)) = true := by kernel_rfl
theorem fact12 : ((Rows.concordanceWordsRow.named == Tryz.prog.varsNamed 9)) = true := by kernel_rfl
theorem fact13 : ((Rows.concordanceWordsRow.maps == (Tryz.f9.params.toList ++ Rows.concordanceWordsSpec.plain.varTypes Tryz.prog).any (Tryz.prog.mapsRec ·))) = true := by kernel_rfl
theorem fact14 : ((Rows.concordanceWordsRow.ifaces == (Tryz.f9.params.toList ++ Rows.concordanceWordsSpec.plain.varTypes Tryz.prog).any (Tryz.prog.ifacesRec ·))) = true := by kernel_rfl
theorem fact15 : ((Rows.concordanceWordsRow.mapsOut == Tryz.prog.mapsAmong Tryz.f9.resultTypes.toList)) = true := by kernel_rfl
theorem fact16 : ((Rows.concordanceWordsRow.loops == (Tryz.f9.params.toList ++ Rows.concordanceWordsSpec.plain.varTypes Tryz.prog).any (Tryz.prog.loopsFrom ·))) = true := by kernel_rfl
theorem fact17 : ((Rows.concordanceWordsRow.wideKeys == (Tryz.f9.params.toList ++ Rows.concordanceWordsSpec.plain.varTypes Tryz.prog ++ Tryz.f9.resultTypes.toList).any (Tryz.prog.wideKeysFrom ·))) = true := by kernel_rfl
theorem fact18 : (Rows.concordanceWordsSpec.vars.all (Tryz.prog.varReadable ·)) = true := by kernel_rfl
theorem fact19 : (Tryz.f9.resultTypes.all (fun t => Tryz.prog.readableRec t && decide (t < Tryz.prog.types.size))) = true := by kernel_rfl
theorem fact20 : ((Rows.concordanceWordsRow.ifacesOut == Tryz.f9.resultTypes.toList.any (Tryz.prog.ifacesRec ·))) = true := by kernel_rfl
theorem fact21 : ((Rows.concordanceWordsRow.loopsOut == Tryz.f9.resultTypes.toList.any (Tryz.prog.loopsFrom ·))) = true := by kernel_rfl
theorem fact22 : ((Rows.concordanceWordsRow.plainKeys == Tryz.prog.plainKeys)) = true := jf_plainKeys
theorem fact23 : (Rows.concordanceWordsRow.shortTexts.isNone) = true := by kernel_rfl
theorem fact26 : ((Rows.concordanceWordsRow.lifted == Tryz.prog.liftsFinal)) = true := jf_lifted
theorem fact27 : ((Tryz.prog.make == some Rows.concordanceWordsRow.make)) = true := jf_make
theorem fact29 : ((Rows.concordanceWordsRow.pinned == Rows.concordanceWordsRow.pinnedBy)) = true := by kernel_rfl
theorem fact30 : ((Rows.concordanceWordsRow.veiled == (Tryz.f9.params.toList ++ Rows.concordanceWordsSpec.plain.varTypes Tryz.prog ++ Tryz.f9.resultTypes.toList).any (Tryz.prog.veiledRec ·))) = true := by kernel_rfl
theorem fact31 : (Rows.concordanceWordsRow.veiledFits Tryz.prog Tryz.f9.params.toList (Tryz.f9.params.toList ++ Rows.concordanceWordsSpec.plain.varTypes Tryz.prog ++ Tryz.f9.resultTypes.toList)) = true := by kernel_rfl
theorem closed : joinedFacts Tryz.prog 9 Tryz.f9 Rows.concordanceWordsSpec Rows.concordanceWordsRow = true := by
  unfold joinedFacts
  refine and_t ?_ fact31
  refine and_t ?_ fact30
  refine and_t ?_ fact29
  refine and_t ?_ (by kernel_rfl)
  refine and_t ?_ fact27
  refine and_t ?_ fact26
  refine and_t ?_ jf_mayEnter
  refine and_t ?_ jf_stopsHeard
  refine and_t ?_ fact23
  refine and_t ?_ fact22
  refine and_t ?_ fact21
  refine and_t ?_ fact20
  refine and_t ?_ fact19
  refine and_t ?_ fact18
  refine and_t ?_ fact17
  refine and_t ?_ fact16
  refine and_t ?_ fact15
  refine and_t ?_ fact14
  refine and_t ?_ fact13
  refine and_t ?_ fact12
  refine and_t ?_ fact11
  refine and_t ?_ fact10
  refine and_t ?_ fact9
  refine and_t ?_ jf_stopKnobs
  refine and_t ?_ fact7
  refine and_t ?_ jf_stops
  refine and_t ?_ fact5
  refine and_t ?_ fact4
  refine and_t ?_ fact3
  refine and_t ?_ jf_mapsRowed
  refine and_t ?_ jf_laidOut
  exact fact0
theorem inst : Tryz.f9.isInstance Tryz.prog Rows.concordanceWordsRow.origin Rows.concordanceWordsRow.targs := of_decide_eq_true (by kernel_rfl)
theorem wrapped : Tryz.f9.isWrapper Tryz.prog Rows.concordanceWordsRow.wrapper Rows.concordanceWordsRow.mainSum := by unfold Func.isWrapper; first | (rw [if_pos (by decide +kernel)]; kernel_rfl) | (rw [if_neg (by decide +kernel)]; exact ⟨rfl, rfl⟩)
set_option maxHeartbeats 800000 in
set_option maxRecDepth 100000 in
theorem lifted (os : Os) (started : os.Started) (H : Type) (enc : TypeId × Value → H) :
    ReturnsInHanded {} Tryz.checked os 9 .any (fun w args => (Rows.concordanceWordsSpec.pre enc Tryz.prog Tryz.f9 Rows.concordanceWordsRow.domain false w args ∧ laidMet Tryz.prog laidL w) ∧ sizedMet enc Tryz.prog Tryz.f9 (OpenSpec.ofChange Rows.concordanceWordsSpec) false w args)
      (Rows.concordanceWordsSpec.post enc Tryz.prog Tryz.f9 false true false false) := by
  refine returnsInHanded_of_change_and (C := Tryz.checked) (X := fun w _ => laidMet Tryz.prog laidL w) (fun _ _ _ hh h => h.of_heap hh) own started (by kernel_rfl) Tryz.func9
    (ChangeSpec.witness_shaped (enc := enc) (C := Tryz.checked) (os := os) (X := fun w _ => laidMet Tryz.prog laidL w) false (World.doorLaid Tryz.prog 62 os) #[.string ⟨#[]⟩, .agg #[.string ⟨#[]⟩, .slice none 0 0, .slice none 0 0, .slice none 0 0], .slice none 0 0, .slice none 0 0, .slice none 0 0, .int .i64 0, .int .i64 0] 8 rfl (World.shaped_of_RefB (by kernel_rfl) (by kernel_rfl)) (by kernel_rfl) (by kernel_rfl) (by kernel_rfl) (door_met os _)) ?_
  intro W base args ds gs before hval0 hW _ hsz0 hL _
  have hsz : (DataW.weightsEach Tryz.prog (Tryz.f9.params.toList ++ Rows.concordanceWordsSpec.plain.varTypes Tryz.prog) (ds ++ gs)).all (· ≤ reachBytes) = true := hsz0
  clear hsz0
  have hval : ∀ (j : Nat) t v, Tryz.f9.params[j]? = some t → args[j]? = some v → Value.okWide Tryz.prog W .any base t v := hval0
  have hW' := hW
  obtain ⟨p, q, hA0, hV, rfl, _, _⟩ := hW
  have hA : DataW.TrodAll enc Tryz.prog W 0 (fun _ => true) true Tryz.f9.params.toList args.toList ds p := hA0
  rw [Tryz.params9] at hA hval hsz
  obtain ⟨v0, vs0, d0, ds0, p0, q0, hargs, rfl, rfl, h0, r0⟩ := trodAll_cons hA
  obtain ⟨v1, vs1, d1, ds1, p1, q1, rfl, rfl, rfl, h1, r1⟩ := trodAll_cons r0
  obtain ⟨v2, vs2, d2, ds2, p2, q2, rfl, rfl, rfl, h2, r2⟩ := trodAll_cons r1
  obtain ⟨v3, vs3, d3, ds3, p3, q3, rfl, rfl, rfl, h3, r3⟩ := trodAll_cons r2
  obtain ⟨v4, vs4, d4, ds4, p4, q4, rfl, rfl, rfl, h4, r4⟩ := trodAll_cons r3
  obtain ⟨v5, vs5, d5, ds5, p5, q5, rfl, rfl, rfl, h5, r5⟩ := trodAll_cons r4
  obtain ⟨v6, vs6, d6, ds6, p6, q6, rfl, rfl, rfl, h6, r6⟩ := trodAll_cons r5
  obtain ⟨rfl, rfl, rfl⟩ := trodAll_nil r6
  obtain rfl : args = #[v0, v1, v2, v3, v4, v5, v6] := by apply Array.toList_inj.1; simpa using hargs
  clear hargs
  obtain ⟨rfl, rfl⟩ := trodVars_none hV
  have h0k := h0
  have h1k := h1
  have h2k := h2
  have h3k := h3
  have h4k := h4
  have h5k := h5
  have h6k := h6
  clear hA0 hval0
  simp only [List.append_nil] at hW'
  have hlt : ∀ y ∈ (p0 ++ (p1 ++ (p2 ++ (p3 ++ (p4 ++ (p5 ++ (p6 ++ []))))))), y.block < W.heap.size := fun y hy => by simpa using hW'.lt y (by simpa using hy)
  have het : ET W := et_of_laid hL
  have hev : EV W := ev_of_laid5 hL
  obtain ⟨s0, rfl⟩ := okWide_string Tryz.underlying9 (hval 0 9 v0 rfl rfl)
  obtain ⟨fuel0, h0⟩ := h0
  obtain ⟨l0, rfl, hx0⟩ := open_Str Tryz.underlying9 h0 (Fit.each hsz (j := 0) rfl rfl)
  obtain ⟨x1, ax1, nx1, cx1, ay1, ny1, cy1, az1, nz1, cz1, rfl, hx1, hy1⟩ := open_Coll ⟨_, hval 1 68 v1 rfl rfl⟩ h1 (Fit.each hsz (j := 1) rfl rfl)
  obtain ⟨a2, n2, c2, rfl⟩ := okWide_slice Tryz.underlying22 (hval 2 22 v2 rfl rfl)
  obtain ⟨fuel2, h2⟩ := h2
  obtain ⟨us2, hx2⟩ := open_Ss h2 (Fit.each hsz (j := 2) rfl rfl)
  obtain ⟨a3, n3, c3, rfl⟩ := okWide_slice Tryz.underlying69 (hval 3 69 v3 rfl rfl)
  obtain ⟨fuel3, h3⟩ := h3
  obtain ⟨us3, hx3⟩ := open_Ws h3 (Fit.each hsz (j := 3) rfl rfl)
  obtain ⟨a4, n4, c4, rfl⟩ := okWide_slice Tryz.underlying26 (hval 4 26 v4 rfl rfl)
  obtain ⟨fuel4, h4⟩ := h4
  obtain ⟨us4, hx4⟩ := open_Is h4 (Fit.each hsz (j := 4) rfl rfl)
  obtain ⟨z5, rfl, rfl, rfl, wz5⟩ := open_int Tryz.underlying3 (hval 5 3 v5 rfl rfl) h5
  have hx5 := i64_of_wf wz5
  obtain ⟨z6, rfl, rfl, rfl, wz6⟩ := open_int Tryz.underlying3 (hval 6 3 v6 rfl rfl) h6
  have hx6 := i64_of_wf wz6
  refine (law9r l0 x1 ax1 nx1 cx1 ay1 ny1 cy1 az1 nz1 cz1 a2 n2 c2 us2 a3 n3 c3 us3 a4 n4 c4 us4 z5 z6 W hx0 hx1 hy1 hx2 hx3 hx4 hx5 hx6 het hev).mono fun e W' ⟨he, hn⟩ => ?_
  subst he
  exact ⟨_, rfl, _, _, _, [], _, [], hW', trodAll_mk1 (shut_bool Tryz.underlying4 true),
    (trodAll_cons_mk (Below.trod laidOut (by kernel_rfl) (of_decide_eq_true (by kernel_rfl)) h0k hn (fun y hy => hlt y (by simp [hy]))) (trodAll_cons_mk (Below.trod laidOut (by kernel_rfl) (of_decide_eq_true (by kernel_rfl)) h1k hn (fun y hy => hlt y (by simp [hy]))) (trodAll_cons_mk (Below.trod laidOut (by kernel_rfl) (of_decide_eq_true (by kernel_rfl)) h2k hn (fun y hy => hlt y (by simp [hy]))) (trodAll_cons_mk (Below.trod laidOut (by kernel_rfl) (of_decide_eq_true (by kernel_rfl)) h3k hn (fun y hy => hlt y (by simp [hy]))) (trodAll_cons_mk (Below.trod laidOut (by kernel_rfl) (of_decide_eq_true (by kernel_rfl)) h4k hn (fun y hy => hlt y (by simp [hy]))) (trodAll_cons_mk (Below.trod laidOut (by kernel_rfl) (of_decide_eq_true (by kernel_rfl)) h5k hn (fun y hy => by cases hy)) (trodAll_cons_mk (Below.trod laidOut (by kernel_rfl) (of_decide_eq_true (by kernel_rfl)) h6k hn (fun y hy => by cases hy)) trodAll_mk0))))))),
    rfl, hn.frame _, fun h => by cases h⟩

end RowConcordanceWords
theorem concordanceWords_row : Rows.ConcordanceWordsSaid :=
  OpenClaim.holds_of_wide 9 Tryz.f9 rfl rfl rfl rfl rfl rfl rfl ⟨rfl, rfl, rfl, rfl, rfl⟩ rfl rfl rfl rfl rfl (by kernel_rfl) Tryz.func9 RowConcordanceWords.closed
    RowConcordanceWords.inst RowConcordanceWords.wrapped
    (fun os started H enc _ => RowConcordanceWords.lifted os started H enc)
end Go.Proofs.YtngdmpkoedpgdaaGreatDoor
