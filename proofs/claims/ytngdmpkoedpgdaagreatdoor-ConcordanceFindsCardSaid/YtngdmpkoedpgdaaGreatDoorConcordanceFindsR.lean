/- ConcordanceFinds, its row: for every input, whatever lies in memory, the law returns true and leaves its arguments as they were. Its condition: the package-level variables (the tables of math/bits, strconv, unicode and unicode/utf8) that it comes to hold what the program text lays. -/
import Derived.Test.YtngdmpkoedpgdaaGreatDoorV7
import Derived.Test.YtngdmpkoedpgdaaGreatDoorFo5
import Derived.Test.YtngdmpkoedpgdaaGreatDoorQf
import Derived.Test.YtngdmpkoedpgdaaGreatDoorJf
import Derived.Test.YtngdmpkoedpgdaaGreatDoorTie
import Derived.Test.YtngdmpkoedpgdaaGreatDoorCards
import Derived.SevenTiedAt
import Derived.JoinedOf
import Derived.JoinedAt
import Derived.LaidLaws
import Derived.Lay
import Derived.LaidOnce
namespace Go.Proofs.YtngdmpkoedpgdaaGreatDoor
open Go.RowKit Go.Ap Go.Shelf Go.ChangeShapes Go.WideShapes Go.ChangeAt
namespace RowConcordanceFinds

theorem own : ownKnob Tryz.prog.godebug = none := by kernel_rfl
theorem laidOut : laidOutB Tryz.prog = true := jf_laidOut
abbrev laidL : List (String × DataW Unit) := [("math/bits.deBruijn32tab", Rows.laid_math_bits_deBruijn32tab), ("math/bits.deBruijn64tab", Rows.laid_math_bits_deBruijn64tab), ("internal/strconv.uint64pow10", Rows.laid_internal_strconv_uint64pow10), ("unicode/utf8.acceptRanges", Rows.laid_unicode_utf8_acceptRanges), ("unicode.asciiFold", Rows.laid_unicode_asciiFold), ("unicode.caseOrbit", Rows.laid_unicode_caseOrbit), ("unicode.CaseRanges", Rows.laid_unicode_CaseRanges), ("unicode/utf8.first", Rows.laid_unicode_utf8_first)]
theorem door_met (os : Os) (args : Array Value) : laidMet Tryz.prog laidL ((World.laidAll Tryz.prog os laidL).forCall (fun _ _ => 0) ⟨#[], args, []⟩).memory :=
  laidMet_laidAll _ (by kernel_rfl) (by kernel_rfl)
theorem fact0 : (Rows.concordanceFindsRow.wf (OpenSpec.ofChange Rows.concordanceFindsSpec)) = true := by kernel_rfl
theorem fact3 : (Tryz.f7.params.all (Tryz.prog.readableRec ·)) = true := by kernel_rfl
theorem fact4 : (namedTie Tryz.prog Rows.concordanceFindsRow.named Rows.concordanceFindsSpec.vars) = true := by kernel_rfl
theorem fact5 : ((Rows.concordanceFindsRow.stops == [])) = true := by kernel_rfl
theorem fact7 : ((Rows.concordanceFindsRow.knobs == [])) = true := by kernel_rfl
theorem fact9 : ((Rows.concordanceFindsRow.inPlace == Tryz.prog.inPlace 7)) = true := by kernel_rfl
theorem fact10 : ((Rows.concordanceFindsRow.unfollowed == Tryz.prog.unfollowed 7)) = true := by kernel_rfl
theorem fact11 : ((Rows.concordanceFindsRow.recurses == Tryz.prog.recurses 7)) = true := by kernel_rfl
theorem fact12 : ((Rows.concordanceFindsRow.named == Tryz.prog.varsNamed 7)) = true := by kernel_rfl
theorem fact13 : ((Rows.concordanceFindsRow.maps == (Tryz.f7.params.toList ++ Rows.concordanceFindsSpec.plain.varTypes Tryz.prog).any (Tryz.prog.mapsRec ·))) = true := by kernel_rfl
theorem fact14 : ((Rows.concordanceFindsRow.ifaces == (Tryz.f7.params.toList ++ Rows.concordanceFindsSpec.plain.varTypes Tryz.prog).any (Tryz.prog.ifacesRec ·))) = true := by kernel_rfl
theorem fact15 : ((Rows.concordanceFindsRow.mapsOut == Tryz.prog.mapsAmong Tryz.f7.resultTypes.toList)) = true := by kernel_rfl
theorem fact16 : ((Rows.concordanceFindsRow.loops == (Tryz.f7.params.toList ++ Rows.concordanceFindsSpec.plain.varTypes Tryz.prog).any (Tryz.prog.loopsFrom ·))) = true := by kernel_rfl
theorem fact17 : ((Rows.concordanceFindsRow.wideKeys == (Tryz.f7.params.toList ++ Rows.concordanceFindsSpec.plain.varTypes Tryz.prog ++ Tryz.f7.resultTypes.toList).any (Tryz.prog.wideKeysFrom ·))) = true := by kernel_rfl
theorem fact18 : (Rows.concordanceFindsSpec.vars.all (Tryz.prog.varReadable ·)) = true := by kernel_rfl
theorem fact19 : (Tryz.f7.resultTypes.all (fun t => Tryz.prog.readableRec t && decide (t < Tryz.prog.types.size))) = true := by kernel_rfl
theorem fact20 : ((Rows.concordanceFindsRow.ifacesOut == Tryz.f7.resultTypes.toList.any (Tryz.prog.ifacesRec ·))) = true := by kernel_rfl
theorem fact21 : ((Rows.concordanceFindsRow.loopsOut == Tryz.f7.resultTypes.toList.any (Tryz.prog.loopsFrom ·))) = true := by kernel_rfl
theorem fact22 : ((Rows.concordanceFindsRow.plainKeys == Tryz.prog.plainKeys)) = true := jf_plainKeys
theorem fact23 : (Rows.concordanceFindsRow.shortTexts.isNone) = true := by kernel_rfl
theorem fact26 : ((Rows.concordanceFindsRow.lifted == Tryz.prog.liftsFinal)) = true := jf_lifted
theorem fact27 : ((Tryz.prog.make == some Rows.concordanceFindsRow.make)) = true := jf_make
theorem fact29 : ((Rows.concordanceFindsRow.pinned == Rows.concordanceFindsRow.pinnedBy)) = true := by kernel_rfl
theorem fact30 : ((Rows.concordanceFindsRow.veiled == (Tryz.f7.params.toList ++ Rows.concordanceFindsSpec.plain.varTypes Tryz.prog ++ Tryz.f7.resultTypes.toList).any (Tryz.prog.veiledRec ·))) = true := by kernel_rfl
theorem fact31 : (Rows.concordanceFindsRow.veiledFits Tryz.prog Tryz.f7.params.toList (Tryz.f7.params.toList ++ Rows.concordanceFindsSpec.plain.varTypes Tryz.prog ++ Tryz.f7.resultTypes.toList)) = true := by kernel_rfl
theorem closed : joinedFacts Tryz.prog 7 Tryz.f7 Rows.concordanceFindsSpec Rows.concordanceFindsRow = true := by
  unfold joinedFacts
  refine and_t ?_ fact31
  refine and_t ?_ fact30
  refine and_t ?_ fact29
  refine and_t ?_ (by kernel_rfl)
  refine and_t ?_ fact27
  refine and_t ?_ fact26
  refine and_t ?_ jf_mayEnter
  refine and_t ?_ jf_stopsHeard
  refine and_t ?_ fact23
  refine and_t ?_ fact22
  refine and_t ?_ fact21
  refine and_t ?_ fact20
  refine and_t ?_ fact19
  refine and_t ?_ fact18
  refine and_t ?_ fact17
  refine and_t ?_ fact16
  refine and_t ?_ fact15
  refine and_t ?_ fact14
  refine and_t ?_ fact13
  refine and_t ?_ fact12
  refine and_t ?_ fact11
  refine and_t ?_ fact10
  refine and_t ?_ fact9
  refine and_t ?_ jf_stopKnobs
  refine and_t ?_ fact7
  refine and_t ?_ jf_stops
  refine and_t ?_ fact5
  refine and_t ?_ fact4
  refine and_t ?_ fact3
  refine and_t ?_ jf_mapsRowed
  refine and_t ?_ jf_laidOut
  exact fact0
theorem inst : Tryz.f7.isInstance Tryz.prog Rows.concordanceFindsRow.origin Rows.concordanceFindsRow.targs := of_decide_eq_true (by kernel_rfl)
theorem wrapped : Tryz.f7.isWrapper Tryz.prog Rows.concordanceFindsRow.wrapper Rows.concordanceFindsRow.mainSum := by unfold Func.isWrapper; first | (rw [if_pos (by decide +kernel)]; kernel_rfl) | (rw [if_neg (by decide +kernel)]; exact ⟨rfl, rfl⟩)
set_option maxHeartbeats 800000 in
set_option maxRecDepth 100000 in
theorem lifted (os : Os) (started : os.Started) (H : Type) (enc : TypeId × Value → H) :
    ReturnsInHanded {} Tryz.checked os 7 .any (fun w args => (Rows.concordanceFindsSpec.pre enc Tryz.prog Tryz.f7 Rows.concordanceFindsRow.domain false w args ∧ laidMet Tryz.prog laidL w) ∧ sizedMet enc Tryz.prog Tryz.f7 (OpenSpec.ofChange Rows.concordanceFindsSpec) false w args)
      (Rows.concordanceFindsSpec.post enc Tryz.prog Tryz.f7 false true false false) := by
  refine returns_and_shaped (C := Tryz.checked) (X := fun w _ => laidMet Tryz.prog laidL w) (fun _ _ _ hh h => h.of_heap hh) own started (by kernel_rfl) Tryz.func7
    (ChangeSpec.witness_shaped (enc := enc) (C := Tryz.checked) (os := os) (X := fun w _ => laidMet Tryz.prog laidL w) false (World.laidAll Tryz.prog os laidL) #[.slice none 0 0, .string ⟨#[]⟩] 8 (World.laidAll_os _ _ _) (World.shaped_of_ZipB (by kernel_rfl) (by kernel_rfl)) (by kernel_rfl) (by kernel_rfl) (by kernel_rfl) (door_met os _)) ?_
  intro W base args ds gs before hval0 hW hsz0 hL _
  have hsz : (DataW.weightsEach Tryz.prog (Tryz.f7.params.toList ++ Rows.concordanceFindsSpec.plain.varTypes Tryz.prog) (ds ++ gs)).all (· ≤ reachBytes) = true := hsz0
  clear hsz0
  have hval : ∀ (j : Nat) t v, Tryz.f7.params[j]? = some t → args[j]? = some v → Value.okWide Tryz.prog W .any base t v := hval0
  have hW' := hW
  obtain ⟨p, q, hA0, hV, rfl, _, _⟩ := hW
  have hA : DataW.TrodAll enc Tryz.prog W 0 (fun _ => true) true Tryz.f7.params.toList args.toList ds p := hA0
  rw [Tryz.params7] at hA hval hsz
  obtain ⟨v0, v1, d0, d1, p0, p1, rfl, rfl, rfl, h0, h1⟩ := trodAll_two hA
  obtain ⟨rfl, rfl⟩ := trodVars_none hV
  have h0k := h0
  have h1k := h1
  clear hA0 hval0
  simp only [List.append_nil] at hW'
  have hlt : ∀ y ∈ p0 ++ p1, y.block < W.heap.size := fun y hy => by simpa using hW'.lt y (by simpa using hy)
  have het : ET W := et_of_laid hL
  have hft : FT W := ft_of_laid hL (.tail _ (.tail _ (.tail _ (.tail _ (.head _))))) (.tail _ (.tail _ (.tail _ (.tail _ (.tail _ (.head _))))))
  have hut : UT W := ut_of_laid hL (.tail _ (.tail _ (.tail _ (.tail _ (.tail _ (.tail _ (.tail _ (.head _)))))))) (.tail _ (.tail _ (.tail _ (.head _))))
  have hcv : CV W := cv_of_laid hL (.tail _ (.tail _ (.tail _ (.tail _ (.tail _ (.tail _ (.head _)))))))
  obtain ⟨a0, n0, c0, rfl⟩ := okWide_slice Tryz.underlying27 (hval 0 27 v0 rfl rfl)
  obtain ⟨fuel0, h0⟩ := h0
  obtain ⟨us0, hx0⟩ := open_Ps h0 (Fit.each hsz (j := 0) rfl rfl)
  obtain ⟨s1, rfl⟩ := okWide_string Tryz.underlying9 (hval 1 9 v1 rfl rfl)
  obtain ⟨fuel1, h1⟩ := h1
  obtain ⟨l1, rfl, hx1⟩ := open_Str Tryz.underlying9 h1 (Fit.each hsz (j := 1) rfl rfl)
  refine (law7r a0 n0 c0 us0 l1 W hx0 hx1 het hft hut hcv).mono fun e W' ⟨he, hn⟩ => ?_
  subst he
  exact ⟨_, rfl, _, _, _, [], _, [], hW', trodAll_mk1 (shut_bool Tryz.underlying4 true),
    trodAll_mk2 (Below.trod laidOut (by kernel_rfl) (of_decide_eq_true (by kernel_rfl)) h0k hn (fun y hy => hlt y (by simp [hy]))) (Below.trod laidOut (by kernel_rfl) (of_decide_eq_true (by kernel_rfl)) h1k hn (fun y hy => hlt y (by simp [hy]))),
    rfl, hn.frame _, fun h => by cases h⟩

end RowConcordanceFinds
theorem concordanceFinds_row : Rows.ConcordanceFindsSaid :=
  OpenClaim.holds_of_wide 7 Tryz.f7 rfl rfl rfl rfl rfl rfl rfl ⟨rfl, rfl, rfl, rfl, rfl⟩ rfl rfl rfl rfl rfl (by kernel_rfl) Tryz.func7 RowConcordanceFinds.closed
    RowConcordanceFinds.inst RowConcordanceFinds.wrapped
    (fun os started H enc _ => RowConcordanceFinds.lifted os started H enc)
end Go.Proofs.YtngdmpkoedpgdaaGreatDoor
