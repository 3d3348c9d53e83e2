/-
  Why a token is not valid, as the reference says it.
-/
import Derived.Test.YtjmebijckcimoaaGreatDoorNc
import Derived.Deep.RegionHeld3
namespace Go.Proofs.YtjmebijckcimoaaGreatDoor
open Go.RowKit Go.Ap Go.Shelf Go.Proofs

attribute [local go_sem] Oper.semAt_some bs_toList empty_toList bs_size bs_extract
theorem heap_keep {w w' : World} {b : Nat} {o : Obj} (hb : Below w.heap.size w w') (h : w.heap[b]? = some o) : w'.heap[b]? = some o := (hb.block _ (lt_of_heap h)).trans h

set_option maxRecDepth 100000 in
set_option maxHeartbeats 4000000 in
theorem tokr_word (t : Tok) (w : World) (hs : TokS t) (d1 : 0 ≤ t.flags) (d2 : t.flags ≤ 31) (hg : isGap t.flags = false) (hm : isMark t.flags = false) :
    Calls Tryz.prog 103 #[tokV t] w fun e W' => e = .returned (.int .i64 (tokC t)) ∧ Below w.heap.size w W' := by
  have e0 : decide (t.flags < 0) = false := by simp; omega
  have e1 : decide (31 < t.flags) = false := by simp; omega
  have H2 := Lib.hid (fun f hf w => hasR t f hf w d1 d2)
  have E2 := Lib.hid (show decide (t.flags / 2 % 2 = 1) = false from hg)
  have E8 := Lib.hid (show decide (t.flags / 8 % 2 = 1) = false from hm)
  have HTC := Lib.hid (show tokC t = (if isWordB t.text = false then 11 else if normB t.norm = false then 11 else if t.line < 0 then 2 else if namedB t.page = false ∨ namedB t.name = false then 14 else 0) from by
    unfold tokC formB
    rw [if_neg (by omega), hg, hm]
    simp)
  have HN1 := Lib.hid (fun w => namedR t.page w hs.page)
  have HN2 := Lib.hid (fun w => namedR t.name w hs.name)
  have HF := Lib.hid (fun w => isWordR t.text w (Nat.le_trans hs.text (by omega)))
  clear hs hg hm d1 d2
  unfold tokV at H2 ⊢
  go_enter Tryz.func103, Tryz.ntmps103
  go_wp2_with (fail)
  obtain ⟨W4, hW4⟩ : ∃ W4, w.alloc (.cells #[.string (bs t.text), .string (bs t.norm), .string (bs t.page), .int .i64 t.line, .int .i64 t.flags, .string (bs t.name)] 65) = W4 := ⟨_, rfl⟩
  have B4 : Below w.heap.size w W4 := by rw [← hW4]; exact balloc _ _
  have h4 : W4.heap[w.heap.size]? = some (.cells #[.string (bs t.text), .string (bs t.norm), .string (bs t.page), .int .i64 t.line, .int .i64 t.flags, .string (bs t.name)] 65) := by rw [← hW4]; exact heap_fresh rfl
  rw [hW4]
  have HKP := Lib.hid (show ∀ W, Below W4.heap.size W4 W → (W.cell? ⟨w.heap.size, 0, none⟩ = some (.string (bs t.text)) ∧ W.cell? ⟨w.heap.size, 1, none⟩ = some (.string (bs t.norm)) ∧ W.cell? ⟨w.heap.size, 2, none⟩ = some (.string (bs t.page)) ∧ W.cell? ⟨w.heap.size, 3, none⟩ = some (.int .i64 t.line) ∧ W.cell? ⟨w.heap.size, 4, none⟩ = some (.int .i64 t.flags) ∧ W.cell? ⟨w.heap.size, 5, none⟩ = some (.string (bs t.name)) ∧ Below W4.heap.size W4 W) from fun W hb => by obtain ⟨c0, c1, c2, c3, c4, c5⟩ := tokb (heap_keep hb h4); exact ⟨c0, c1, c2, c3, c4, c5, hb⟩)
  obtain ⟨c0, c1, c2, c3, c4, c5⟩ := tokb h4
  clear hW4
  go_region_held3 (fun W => W.cell? ⟨w.heap.size, 0, none⟩ = some (.string (bs t.text)) ∧ W.cell? ⟨w.heap.size, 1, none⟩ = some (.string (bs t.norm)) ∧ W.cell? ⟨w.heap.size, 2, none⟩ = some (.string (bs t.page)) ∧ W.cell? ⟨w.heap.size, 3, none⟩ = some (.int .i64 t.line) ∧ W.cell? ⟨w.heap.size, 4, none⟩ = some (.int .i64 t.flags) ∧ W.cell? ⟨w.heap.size, 5, none⟩ = some (.string (bs t.name)) ∧ Below W4.heap.size W4 W)
    ((refine HKP.out _ ?_; first | exact (Below.refl _ _).drew | (refine bstep ?_ hb2; exact (‹_ ∧ _ ∧ _ ∧ _ ∧ _ ∧ _ ∧ Below W4.heap.size W4 _›).2.2.2.2.2.2) | exact (‹_ ∧ _ ∧ _ ∧ _ ∧ _ ∧ _ ∧ Below W4.heap.size W4 _›).2.2.2.2.2.2))
    (first | (go_at_call 134; refine Calls.mono (H2.out _ ?_ _) ?_; (first | exact .inl rfl | exact .inr rfl); rintro e w' ⟨rfl, hb2⟩))
  have hbX := (‹_ ∧ _ ∧ _ ∧ _ ∧ _ ∧ _ ∧ Below W4.heap.size W4 _›).2.2.2.2.2.2
  rename_i hHeld
  have B5 := bstep B4 hbX
  have h5 := heap_keep hbX h4
  clear hHeld hbX hb2 c0 c1 c2 c3 c4 c5 h4 B4 HKP
  obtain ⟨c0, c1, c2, c3, c4, c5⟩ := tokb h5
  rw [E2.out, E8.out]
  go_wp2_with (fail)
  refine (HF.out _).mono ?_
  rintro e w1 ⟨rfl, hb1⟩
  have BA := bstep B5 hb1
  have hA := heap_keep hb1 h5
  clear c0 c1 c2 c3 c4 c5 h5 hb1 B5
  obtain ⟨c0, c1, c2, c3, c4, c5⟩ := tokb hA
  cases hfb : isWordB t.text
  · have HFB := Lib.hid hfb
    clear hfb
    go_wp2_with (fail)
    go_ret
    exact ⟨ret_i (by rw [HTC.out, HFB.out]; simp), BA⟩
  · have HFB := Lib.hid hfb
    clear hfb
    by_cases hne : t.norm = []
    · have eN : (t.norm == []) = true := by rw [hne]; rfl
      have HNB := Lib.hid (show normB t.norm = false by rw [hne]; rfl)
      clear hne
      go_wp2_with (fail)
      go_ret
      exact ⟨ret_i (by rw [HTC.out, HFB.out, HNB.out]; simp), BA⟩
    · have eN : (t.norm == []) = false := by rw [beq_eq_false_iff_ne]; exact hne
      by_cases hl : 64 < t.norm.length
      · have dL : decide ((64 : Int) < (t.norm.length : Int)) = true := by simp; omega
        have HNB := Lib.hid (show normB t.norm = false by rw [normB, show decide (t.norm.length ≤ 64) = false by simp; omega]; simp)
        clear hne hl
        go_wp2_with (fail)
        go_ret
        exact ⟨ret_i (by rw [HTC.out, HFB.out, HNB.out]; simp), BA⟩
      · have dL : decide ((64 : Int) < (t.norm.length : Int)) = false := by simp; omega
        have HNE := Lib.hid (show normB t.norm = (t.norm.drop 0).all wch by rw [normB, show decide (t.norm.length ≤ 64) = true by simp; omega, show decide (t.norm ≠ []) = true by simpa using hne]; rfl)
        clear hne
        go_wp2_with (fail)
        go_loopw [5] (fun iv wr => ∃ i : Nat, i ≤ t.norm.length ∧ iv = .int .i64 i ∧ w1 = wr ∧ normB t.norm = (t.norm.drop i).all wch) (fun iv _ => t.norm.length - (intOf iv).toNat)
        case atStart => exact ⟨0, Nat.zero_le _, rfl, rfl, HNE.out⟩
        case round =>
          obtain ⟨i, hi0, rfl, rfl, hm⟩ := hrel
          have HM := Lib.hid hm
          clear hm HNE
          by_cases hlt : i < t.norm.length
          · have HKi := Lib.hid (fun w => wordlyR t.norm[i] w)
            have HAL := Lib.hid (all_at (p := wch) hlt)
            cases hc : wch t.norm[i]
            · have HCC := Lib.hid hc
              rw [hc] at HKi
              clear hc
              have HNB := Lib.hid (show normB t.norm = false by rw [HM.out, HAL.out, HCC.out]; rfl)
              go_wp2_with (fail)
              refine (HKi.out _).mono ?_
              rintro e w2 ⟨rfl, rfl⟩
              go_wp2_with (fail)
              go_ret
              exact ⟨ret_i (by rw [HTC.out, HFB.out, HNB.out]; simp), BA⟩
            · have HCC := Lib.hid hc
              rw [hc] at HKi
              clear hc
              go_wp2_with (fail)
              refine (HKi.out _).mono ?_
              rintro e w2 ⟨rfl, rfl⟩
              go_wp2_with (fail)
              exact ⟨⟨i + 1, by omega, by simp, trivial, by rw [HM.out, HAL.out, HCC.out, Bool.true_and]⟩, by simp [intOf]; omega⟩
          · obtain rfl : i = t.norm.length := by omega
            have HNB := Lib.hid (show normB t.norm = true by rw [HM.out, List.drop_length]; rfl)
            clear HM
            by_cases hl : t.line < 0
            · have eL : decide (t.line < 0) = true := by simpa using hl
              have HL := Lib.hid hl
              clear hl
              go_wp2_with (fail)
              go_ret
              exact ⟨ret_i (by rw [HTC.out, HFB.out, if_neg (by simp), if_neg (by rw [HNB.out]; simp), if_pos HL.out]), BA⟩
            · have eL : decide (t.line < 0) = false := by simpa using hl
              have HL := Lib.hid hl
              clear hl
              go_wp2_with (fail)
              refine (HN1.out _).mono ?_
              rintro e w4 ⟨rfl, hb6⟩
              have B6 := bstep BA hb6
              have h6 := heap_keep hb6 hA
              clear BA hb6 hA c0 c1 c2 c3 c4 c5
              obtain ⟨c0, c1, c2, c3, c4, c5⟩ := tokb h6
              cases hp : namedB t.page
              · have HP := Lib.hid hp
                clear hp
                go_wp2_with (fail)
                go_ret
                exact ⟨ret_i (by rw [HTC.out, HFB.out, if_neg (by simp), if_neg (by rw [HNB.out]; simp), if_neg (Int.not_lt.2 HL.out), if_pos (.inl HP.out)]), B6⟩
              · have HP := Lib.hid hp
                clear hp
                go_wp2_with (fail)
                refine (HN2.out _).mono ?_
                rintro e w4 ⟨rfl, hb7⟩
                have B7 := bstep B6 hb7
                clear B6 hb7 h6 c0 c1 c2 c3 c4 c5
                cases hp : namedB t.name
                · have HP2 := Lib.hid hp
                  clear hp
                  go_wp2_with (fail)
                  go_ret
                  exact ⟨ret_i (by rw [HTC.out, HFB.out, if_neg (by simp), if_neg (by rw [HNB.out]; simp), if_neg (Int.not_lt.2 HL.out), if_pos (.inr HP2.out)]), B7⟩
                · have HP2 := Lib.hid hp
                  clear hp
                  go_wp2_with (fail)
                  go_ret
                  exact ⟨ret_i (by rw [HTC.out, HFB.out, if_neg (by simp), if_neg (by rw [HNB.out]; simp), if_neg (Int.not_lt.2 HL.out), if_neg (by rw [HP.out, HP2.out]; simp)]), B7⟩
set_option maxRecDepth 100000 in
set_option maxHeartbeats 4000000 in
theorem tokr_gap (t : Tok) (w : World) (hs : TokS t) (d1 : 0 ≤ t.flags) (d2 : t.flags ≤ 31) (hg : isGap t.flags = true) (hm : isMark t.flags = false) :
    Calls Tryz.prog 103 #[tokV t] w fun e W' => e = .returned (.int .i64 (tokC t)) ∧ Below w.heap.size w W' := by
  have e0 : decide (t.flags < 0) = false := by simp; omega
  have e1 : decide (31 < t.flags) = false := by simp; omega
  have H2 := Lib.hid (fun f hf w => hasR t f hf w d1 d2)
  have E2 := Lib.hid (show decide (t.flags / 2 % 2 = 1) = true from hg)
  have E8 := Lib.hid (show decide (t.flags / 8 % 2 = 1) = false from hm)
  have HTC := Lib.hid (show tokC t = (if gapB t.text = false then 11 else if t.norm ≠ t.text then 11 else if t.line < 0 then 2 else if namedB t.page = false ∨ namedB t.name = false then 14 else 0) from by
    unfold tokC formB
    rw [if_neg (by omega), hg, hm]
    simp)
  have HN1 := Lib.hid (fun w => namedR t.page w hs.page)
  have HN2 := Lib.hid (fun w => namedR t.name w hs.name)
  have HF := Lib.hid (fun w => gappedR t.text w)
  clear hs hg hm d1 d2
  unfold tokV at H2 ⊢
  go_enter Tryz.func103, Tryz.ntmps103
  go_wp2_with (fail)
  obtain ⟨W4, hW4⟩ : ∃ W4, w.alloc (.cells #[.string (bs t.text), .string (bs t.norm), .string (bs t.page), .int .i64 t.line, .int .i64 t.flags, .string (bs t.name)] 65) = W4 := ⟨_, rfl⟩
  have B4 : Below w.heap.size w W4 := by rw [← hW4]; exact balloc _ _
  have h4 : W4.heap[w.heap.size]? = some (.cells #[.string (bs t.text), .string (bs t.norm), .string (bs t.page), .int .i64 t.line, .int .i64 t.flags, .string (bs t.name)] 65) := by rw [← hW4]; exact heap_fresh rfl
  rw [hW4]
  have HKP := Lib.hid (show ∀ W, Below W4.heap.size W4 W → (W.cell? ⟨w.heap.size, 0, none⟩ = some (.string (bs t.text)) ∧ W.cell? ⟨w.heap.size, 1, none⟩ = some (.string (bs t.norm)) ∧ W.cell? ⟨w.heap.size, 2, none⟩ = some (.string (bs t.page)) ∧ W.cell? ⟨w.heap.size, 3, none⟩ = some (.int .i64 t.line) ∧ W.cell? ⟨w.heap.size, 4, none⟩ = some (.int .i64 t.flags) ∧ W.cell? ⟨w.heap.size, 5, none⟩ = some (.string (bs t.name)) ∧ Below W4.heap.size W4 W) from fun W hb => by obtain ⟨c0, c1, c2, c3, c4, c5⟩ := tokb (heap_keep hb h4); exact ⟨c0, c1, c2, c3, c4, c5, hb⟩)
  obtain ⟨c0, c1, c2, c3, c4, c5⟩ := tokb h4
  clear hW4
  go_region_held3 (fun W => W.cell? ⟨w.heap.size, 0, none⟩ = some (.string (bs t.text)) ∧ W.cell? ⟨w.heap.size, 1, none⟩ = some (.string (bs t.norm)) ∧ W.cell? ⟨w.heap.size, 2, none⟩ = some (.string (bs t.page)) ∧ W.cell? ⟨w.heap.size, 3, none⟩ = some (.int .i64 t.line) ∧ W.cell? ⟨w.heap.size, 4, none⟩ = some (.int .i64 t.flags) ∧ W.cell? ⟨w.heap.size, 5, none⟩ = some (.string (bs t.name)) ∧ Below W4.heap.size W4 W)
    ((refine HKP.out _ ?_; first | exact (Below.refl _ _).drew | (refine bstep ?_ hb2; exact (‹_ ∧ _ ∧ _ ∧ _ ∧ _ ∧ _ ∧ Below W4.heap.size W4 _›).2.2.2.2.2.2) | exact (‹_ ∧ _ ∧ _ ∧ _ ∧ _ ∧ _ ∧ Below W4.heap.size W4 _›).2.2.2.2.2.2))
    (first | (go_at_call 134; refine Calls.mono (H2.out _ ?_ _) ?_; (first | exact .inl rfl | exact .inr rfl); rintro e w' ⟨rfl, hb2⟩))
  have hbX := (‹_ ∧ _ ∧ _ ∧ _ ∧ _ ∧ _ ∧ Below W4.heap.size W4 _›).2.2.2.2.2.2
  rename_i hHeld
  have B5 := bstep B4 hbX
  have h5 := heap_keep hbX h4
  clear hHeld hbX hb2 c0 c1 c2 c3 c4 c5 h4 B4 HKP
  obtain ⟨c0, c1, c2, c3, c4, c5⟩ := tokb h5
  rw [E2.out, E8.out]
  go_wp2_with (fail)
  cases hfb : gapB t.text
  · have HFB := Lib.hid hfb
    rw [hfb] at HF
    clear hfb
    refine (HF.out _).mono ?_
    rintro e w1 ⟨rfl, rfl⟩
    go_wp2_with (fail)
    go_ret
    exact ⟨ret_i (by rw [HTC.out, HFB.out]; simp), B5⟩
  · have HFB := Lib.hid hfb
    rw [hfb] at HF
    clear hfb
    refine (HF.out _).mono ?_
    rintro e w1 ⟨rfl, rfl⟩
    by_cases hnb : t.norm = t.text
    · have HNB := Lib.hid hnb
      have eN : (t.norm == t.text) = true := by rw [hnb]; exact beq_self_eq_true _
      clear hnb
      by_cases hl : t.line < 0
      · have eL : decide (t.line < 0) = true := by simpa using hl
        have HL := Lib.hid hl
        clear hl
        go_wp2_with (fail)
        go_ret
        exact ⟨ret_i (by rw [HTC.out, HFB.out, if_neg (by simp), if_neg (by rw [HNB.out]; simp), if_pos HL.out]), B5⟩
      · have eL : decide (t.line < 0) = false := by simpa using hl
        have HL := Lib.hid hl
        clear hl
        go_wp2_with (fail)
        refine (HN1.out _).mono ?_
        rintro e w4 ⟨rfl, hb6⟩
        have B6 := bstep B5 hb6
        have h6 := heap_keep hb6 h5
        clear B5 hb6 h5 c0 c1 c2 c3 c4 c5
        obtain ⟨c0, c1, c2, c3, c4, c5⟩ := tokb h6
        cases hp : namedB t.page
        · have HP := Lib.hid hp
          clear hp
          go_wp2_with (fail)
          go_ret
          exact ⟨ret_i (by rw [HTC.out, HFB.out, if_neg (by simp), if_neg (by rw [HNB.out]; simp), if_neg (Int.not_lt.2 HL.out), if_pos (.inl HP.out)]), B6⟩
        · have HP := Lib.hid hp
          clear hp
          go_wp2_with (fail)
          refine (HN2.out _).mono ?_
          rintro e w4 ⟨rfl, hb7⟩
          have B7 := bstep B6 hb7
          clear B6 hb7 h6 c0 c1 c2 c3 c4 c5
          cases hp : namedB t.name
          · have HP2 := Lib.hid hp
            clear hp
            go_wp2_with (fail)
            go_ret
            exact ⟨ret_i (by rw [HTC.out, HFB.out, if_neg (by simp), if_neg (by rw [HNB.out]; simp), if_neg (Int.not_lt.2 HL.out), if_pos (.inr HP2.out)]), B7⟩
          · have HP2 := Lib.hid hp
            clear hp
            go_wp2_with (fail)
            go_ret
            exact ⟨ret_i (by rw [HTC.out, HFB.out, if_neg (by simp), if_neg (by rw [HNB.out]; simp), if_neg (Int.not_lt.2 HL.out), if_neg (by rw [HP.out, HP2.out]; simp)]), B7⟩
    · have HNB := Lib.hid hnb
      have eN : (t.norm == t.text) = false := by rw [beq_eq_false_iff_ne]; exact hnb
      clear hnb
      go_wp2_with (fail)
      go_ret
      exact ⟨ret_i (by rw [HTC.out, HFB.out, if_neg (by simp), if_pos HNB.out]), B5⟩
theorem mark_one {s : Str} (h : s.length = 1) : markB s = (decide (wkAt s 0 = 5) || decide (wkAt s 0 = 4)) := by
  match s, h with
  | [c], _ => rfl
theorem mark_len {s : Str} (h : ¬ s.length = 1) : markB s = false := by
  match s, h with
  | [], _ => rfl
  | [c], h => exact absurd rfl h
  | _ :: _ :: _, _ => rfl

set_option maxRecDepth 100000 in
set_option maxHeartbeats 4000000 in
theorem tokr_mark (t : Tok) (w : World) (hs : TokS t) (d1 : 0 ≤ t.flags) (d2 : t.flags ≤ 31) (hg : isGap t.flags = false) (hm : isMark t.flags = true) :
    Calls Tryz.prog 103 #[tokV t] w fun e W' => e = .returned (.int .i64 (tokC t)) ∧ Below w.heap.size w W' := by
  have e0 : decide (t.flags < 0) = false := by simp; omega
  have e1 : decide (31 < t.flags) = false := by simp; omega
  have H2 := Lib.hid (fun f hf w => hasR t f hf w d1 d2)
  have E2 := Lib.hid (show decide (t.flags / 2 % 2 = 1) = false from hg)
  have E8 := Lib.hid (show decide (t.flags / 8 % 2 = 1) = true from hm)
  have HTC := Lib.hid (show tokC t = (if markB t.text = false then 11 else if t.norm ≠ t.text then 11 else if t.line < 0 then 2 else if namedB t.page = false ∨ namedB t.name = false then 14 else 0) from by
    unfold tokC formB
    rw [if_neg (by omega), hg, hm]
    simp)
  have HN1 := Lib.hid (fun w => namedR t.page w hs.page)
  have HN2 := Lib.hid (fun w => namedR t.name w hs.name)
  clear hs hg hm d1 d2
  unfold tokV at H2 ⊢
  go_enter Tryz.func103, Tryz.ntmps103
  go_wp2_with (fail)
  obtain ⟨W4, hW4⟩ : ∃ W4, w.alloc (.cells #[.string (bs t.text), .string (bs t.norm), .string (bs t.page), .int .i64 t.line, .int .i64 t.flags, .string (bs t.name)] 65) = W4 := ⟨_, rfl⟩
  have B4 : Below w.heap.size w W4 := by rw [← hW4]; exact balloc _ _
  have h4 : W4.heap[w.heap.size]? = some (.cells #[.string (bs t.text), .string (bs t.norm), .string (bs t.page), .int .i64 t.line, .int .i64 t.flags, .string (bs t.name)] 65) := by rw [← hW4]; exact heap_fresh rfl
  rw [hW4]
  have HKP := Lib.hid (show ∀ W, Below W4.heap.size W4 W → (W.cell? ⟨w.heap.size, 0, none⟩ = some (.string (bs t.text)) ∧ W.cell? ⟨w.heap.size, 1, none⟩ = some (.string (bs t.norm)) ∧ W.cell? ⟨w.heap.size, 2, none⟩ = some (.string (bs t.page)) ∧ W.cell? ⟨w.heap.size, 3, none⟩ = some (.int .i64 t.line) ∧ W.cell? ⟨w.heap.size, 4, none⟩ = some (.int .i64 t.flags) ∧ W.cell? ⟨w.heap.size, 5, none⟩ = some (.string (bs t.name)) ∧ Below W4.heap.size W4 W) from fun W hb => by obtain ⟨c0, c1, c2, c3, c4, c5⟩ := tokb (heap_keep hb h4); exact ⟨c0, c1, c2, c3, c4, c5, hb⟩)
  obtain ⟨c0, c1, c2, c3, c4, c5⟩ := tokb h4
  clear hW4
  go_region_held3 (fun W => W.cell? ⟨w.heap.size, 0, none⟩ = some (.string (bs t.text)) ∧ W.cell? ⟨w.heap.size, 1, none⟩ = some (.string (bs t.norm)) ∧ W.cell? ⟨w.heap.size, 2, none⟩ = some (.string (bs t.page)) ∧ W.cell? ⟨w.heap.size, 3, none⟩ = some (.int .i64 t.line) ∧ W.cell? ⟨w.heap.size, 4, none⟩ = some (.int .i64 t.flags) ∧ W.cell? ⟨w.heap.size, 5, none⟩ = some (.string (bs t.name)) ∧ Below W4.heap.size W4 W)
    ((refine HKP.out _ ?_; first | exact (Below.refl _ _).drew | (refine bstep ?_ hb2; exact (‹_ ∧ _ ∧ _ ∧ _ ∧ _ ∧ _ ∧ Below W4.heap.size W4 _›).2.2.2.2.2.2) | exact (‹_ ∧ _ ∧ _ ∧ _ ∧ _ ∧ _ ∧ Below W4.heap.size W4 _›).2.2.2.2.2.2))
    (first | (go_at_call 134; refine Calls.mono (H2.out _ ?_ _) ?_; (first | exact .inl rfl | exact .inr rfl); rintro e w' ⟨rfl, hb2⟩))
  have hbX := (‹_ ∧ _ ∧ _ ∧ _ ∧ _ ∧ _ ∧ Below W4.heap.size W4 _›).2.2.2.2.2.2
  rename_i hHeld
  have B5 := bstep B4 hbX
  have h5 := heap_keep hbX h4
  clear hHeld hbX hb2 c0 c1 c2 c3 c4 c5 h4 B4 HKP
  obtain ⟨c0, c1, c2, c3, c4, c5⟩ := tokb h5
  rw [E2.out, E8.out]
  by_cases h1 : t.text.length = 1
  · have hpos : 0 < t.text.length := by omega
    have e1 : ((t.text.length : Int) != 1) = false := by rw [bne, Bool.not_eq_false', beq_iff_eq]; omega
    have HK := Lib.hid (kindRAt t.text 0 hpos)
    have HS := Lib.hid (wkAt_seven t.text 0 hpos)
    have HFB := Lib.hid (mark_one h1)
    obtain ⟨k0, hk0⟩ : ∃ k, wkAt t.text 0 = k := ⟨_, rfl⟩
    rw [hk0] at HFB HK HS
    clear hk0 h1
    by_cases h45 : k0 = 4 ∨ k0 = 5
    · have HX := Lib.hid (show (decide (k0 = 5) || decide (k0 = 4)) = true by rcases h45 with rfl | rfl <;> rfl)
      rw [HX.out] at HFB
      clear HX HS
      rcases h45 with rfl | rfl
      · by_cases hnb : t.norm = t.text
        · have HNB := Lib.hid hnb
          have eN : (t.norm == t.text) = true := by rw [hnb]; exact beq_self_eq_true _
          clear hnb
          by_cases hl : t.line < 0
          · have eL : decide (t.line < 0) = true := by simpa using hl
            have HL := Lib.hid hl
            clear hl
            go_wp2_with (fail)
            refine (HK.out _).mono ?_
            rintro e w1 ⟨rfl, rfl⟩
            go_wp2_with (fail)
            refine (HK.out _).mono ?_
            rintro e w1 ⟨rfl, rfl⟩
            go_wp2_with (fail)
            go_ret
            exact ⟨ret_i (by rw [HTC.out, HFB.out, if_neg (by simp), if_neg (by rw [HNB.out]; simp), if_pos HL.out]), B5⟩
          · have eL : decide (t.line < 0) = false := by simpa using hl
            have HL := Lib.hid hl
            clear hl
            go_wp2_with (fail)
            refine (HK.out _).mono ?_
            rintro e w1 ⟨rfl, rfl⟩
            go_wp2_with (fail)
            refine (HK.out _).mono ?_
            rintro e w1 ⟨rfl, rfl⟩
            go_wp2_with (fail)
            refine (HN1.out _).mono ?_
            rintro e w4 ⟨rfl, hb6⟩
            have B6 := bstep B5 hb6
            have h6 := heap_keep hb6 h5
            clear B5 hb6 h5 c0 c1 c2 c3 c4 c5
            obtain ⟨c0, c1, c2, c3, c4, c5⟩ := tokb h6
            cases hp : namedB t.page
            · have HP := Lib.hid hp
              clear hp
              go_wp2_with (fail)
              go_ret
              exact ⟨ret_i (by rw [HTC.out, HFB.out, if_neg (by simp), if_neg (by rw [HNB.out]; simp), if_neg (Int.not_lt.2 HL.out), if_pos (.inl HP.out)]), B6⟩
            · have HP := Lib.hid hp
              clear hp
              go_wp2_with (fail)
              refine (HN2.out _).mono ?_
              rintro e w4 ⟨rfl, hb7⟩
              have B7 := bstep B6 hb7
              clear B6 hb7 h6 c0 c1 c2 c3 c4 c5
              cases hp : namedB t.name
              · have HP2 := Lib.hid hp
                clear hp
                go_wp2_with (fail)
                go_ret
                exact ⟨ret_i (by rw [HTC.out, HFB.out, if_neg (by simp), if_neg (by rw [HNB.out]; simp), if_neg (Int.not_lt.2 HL.out), if_pos (.inr HP2.out)]), B7⟩
              · have HP2 := Lib.hid hp
                clear hp
                go_wp2_with (fail)
                go_ret
                exact ⟨ret_i (by rw [HTC.out, HFB.out, if_neg (by simp), if_neg (by rw [HNB.out]; simp), if_neg (Int.not_lt.2 HL.out), if_neg (by rw [HP.out, HP2.out]; simp)]), B7⟩
        · have HNB := Lib.hid hnb
          have eN : (t.norm == t.text) = false := by rw [beq_eq_false_iff_ne]; exact hnb
          clear hnb
          go_wp2_with (fail)
          refine (HK.out _).mono ?_
          rintro e w1 ⟨rfl, rfl⟩
          go_wp2_with (fail)
          refine (HK.out _).mono ?_
          rintro e w1 ⟨rfl, rfl⟩
          go_wp2_with (fail)
          go_ret
          exact ⟨ret_i (by rw [HTC.out, HFB.out, if_neg (by simp), if_pos HNB.out]), B5⟩
      · by_cases hnb : t.norm = t.text
        · have HNB := Lib.hid hnb
          have eN : (t.norm == t.text) = true := by rw [hnb]; exact beq_self_eq_true _
          clear hnb
          by_cases hl : t.line < 0
          · have eL : decide (t.line < 0) = true := by simpa using hl
            have HL := Lib.hid hl
            clear hl
            go_wp2_with (fail)
            refine (HK.out _).mono ?_
            rintro e w1 ⟨rfl, rfl⟩
            go_wp2_with (fail)
            go_ret
            exact ⟨ret_i (by rw [HTC.out, HFB.out, if_neg (by simp), if_neg (by rw [HNB.out]; simp), if_pos HL.out]), B5⟩
          · have eL : decide (t.line < 0) = false := by simpa using hl
            have HL := Lib.hid hl
            clear hl
            go_wp2_with (fail)
            refine (HK.out _).mono ?_
            rintro e w1 ⟨rfl, rfl⟩
            go_wp2_with (fail)
            refine (HN1.out _).mono ?_
            rintro e w4 ⟨rfl, hb6⟩
            have B6 := bstep B5 hb6
            have h6 := heap_keep hb6 h5
            clear B5 hb6 h5 c0 c1 c2 c3 c4 c5
            obtain ⟨c0, c1, c2, c3, c4, c5⟩ := tokb h6
            cases hp : namedB t.page
            · have HP := Lib.hid hp
              clear hp
              go_wp2_with (fail)
              go_ret
              exact ⟨ret_i (by rw [HTC.out, HFB.out, if_neg (by simp), if_neg (by rw [HNB.out]; simp), if_neg (Int.not_lt.2 HL.out), if_pos (.inl HP.out)]), B6⟩
            · have HP := Lib.hid hp
              clear hp
              go_wp2_with (fail)
              refine (HN2.out _).mono ?_
              rintro e w4 ⟨rfl, hb7⟩
              have B7 := bstep B6 hb7
              clear B6 hb7 h6 c0 c1 c2 c3 c4 c5
              cases hp : namedB t.name
              · have HP2 := Lib.hid hp
                clear hp
                go_wp2_with (fail)
                go_ret
                exact ⟨ret_i (by rw [HTC.out, HFB.out, if_neg (by simp), if_neg (by rw [HNB.out]; simp), if_neg (Int.not_lt.2 HL.out), if_pos (.inr HP2.out)]), B7⟩
              · have HP2 := Lib.hid hp
                clear hp
                go_wp2_with (fail)
                go_ret
                exact ⟨ret_i (by rw [HTC.out, HFB.out, if_neg (by simp), if_neg (by rw [HNB.out]; simp), if_neg (Int.not_lt.2 HL.out), if_neg (by rw [HP.out, HP2.out]; simp)]), B7⟩
        · have HNB := Lib.hid hnb
          have eN : (t.norm == t.text) = false := by rw [beq_eq_false_iff_ne]; exact hnb
          clear hnb
          go_wp2_with (fail)
          refine (HK.out _).mono ?_
          rintro e w1 ⟨rfl, rfl⟩
          go_wp2_with (fail)
          go_ret
          exact ⟨ret_i (by rw [HTC.out, HFB.out, if_neg (by simp), if_pos HNB.out]), B5⟩
    · have HX := Lib.hid (show (decide (k0 = 5) || decide (k0 = 4)) = false by rw [decide_eq_false (fun h => h45 (.inr h)), decide_eq_false (fun h => h45 (.inl h))]; rfl)
      rcases HS.out with rfl | rfl | rfl | rfl | rfl | rfl | rfl
      all_goals clear HS
      all_goals first
        | exact absurd (.inl rfl) h45
        | exact absurd (.inr rfl) h45
        | clear h45
      all_goals go_wp2_with (fail)
      all_goals refine (HK.out _).mono ?_
      all_goals rintro e w1 ⟨rfl, rfl⟩
      all_goals go_wp2_with (fail)
      all_goals refine (HK.out _).mono ?_
      all_goals rintro e w1 ⟨rfl, rfl⟩
      all_goals go_wp2_with (fail)
      all_goals go_ret
      all_goals exact ⟨ret_i (by rw [HTC.out, HFB.out, HX.out]; simp), B5⟩
  · have e1 : ((t.text.length : Int) != 1) = true := by rw [bne_iff_ne]; omega
    have HFB := Lib.hid (mark_len h1)
    clear h1
    go_wp2_with (fail)
    go_ret
    exact ⟨ret_i (by rw [HTC.out, HFB.out]; simp), B5⟩
set_option maxRecDepth 100000 in
set_option maxHeartbeats 4000000 in
theorem tokRf (t : Tok) (w : World) (hs : TokS t) : Calls Tryz.prog 103 #[tokV t] w fun e W' => e = .returned (.int .i64 (tokC t)) ∧ Below w.heap.size w W' := by
  by_cases d1 : t.flags < 0
  · have e0 : decide (t.flags < 0) = true := by simpa using d1
    have h : tokC t = 2 := by rw [tokC, if_pos (.inl d1)]
    rw [h]
    clear h d1 hs
    unfold tokV
    go_enter Tryz.func103, Tryz.ntmps103
    go_wp2_with (fail)
    go_ret
    exact ⟨rfl, balloc _ _⟩
  · by_cases d2 : 31 < t.flags
    · have e0 : decide (t.flags < 0) = false := by simpa using d1
      have e1 : decide (31 < t.flags) = true := by simpa using d2
      have h : tokC t = 2 := by rw [tokC, if_pos (.inr d2)]
      rw [h]
      clear h d1 d2 hs
      unfold tokV
      go_enter Tryz.func103, Tryz.ntmps103
      go_wp2_with (fail)
      go_ret
      exact ⟨rfl, balloc _ _⟩
    · cases hg : isGap t.flags
      · cases hm : isMark t.flags
        · exact tokr_word t w hs (by omega) (by omega) hg hm
        · exact tokr_mark t w hs (by omega) (by omega) hg hm
      · cases hm : isMark t.flags
        · exact tokr_gap t w hs (by omega) (by omega) hg hm
        · have HTC := Lib.hid (show tokC t = 8 by rw [tokC, if_neg (by omega), hg, hm]; rfl)
          have e0 : decide (t.flags < 0) = false := by simpa using d1
          have e1 : decide (31 < t.flags) = false := by simpa using d2
          have H2 := Lib.hid (fun f hf w => hasR t f hf w (by omega) (by omega))
          have E2 := Lib.hid (show decide (t.flags / 2 % 2 = 1) = true from hg)
          have E8 := Lib.hid (show decide (t.flags / 8 % 2 = 1) = true from hm)
          clear hs hg hm d1 d2
          unfold tokV at H2 ⊢
          go_enter Tryz.func103, Tryz.ntmps103
          go_wp2_with (fail)
          obtain ⟨W4, hW4⟩ : ∃ W4, w.alloc (.cells #[.string (bs t.text), .string (bs t.norm), .string (bs t.page), .int .i64 t.line, .int .i64 t.flags, .string (bs t.name)] 65) = W4 := ⟨_, rfl⟩
          have B4 : Below w.heap.size w W4 := by rw [← hW4]; exact balloc _ _
          have h4 : W4.heap[w.heap.size]? = some (.cells #[.string (bs t.text), .string (bs t.norm), .string (bs t.page), .int .i64 t.line, .int .i64 t.flags, .string (bs t.name)] 65) := by rw [← hW4]; exact heap_fresh rfl
          rw [hW4]
          have HKP := Lib.hid (show ∀ W, Below W4.heap.size W4 W → (W.cell? ⟨w.heap.size, 0, none⟩ = some (.string (bs t.text)) ∧ W.cell? ⟨w.heap.size, 1, none⟩ = some (.string (bs t.norm)) ∧ W.cell? ⟨w.heap.size, 2, none⟩ = some (.string (bs t.page)) ∧ W.cell? ⟨w.heap.size, 3, none⟩ = some (.int .i64 t.line) ∧ W.cell? ⟨w.heap.size, 4, none⟩ = some (.int .i64 t.flags) ∧ W.cell? ⟨w.heap.size, 5, none⟩ = some (.string (bs t.name)) ∧ Below W4.heap.size W4 W) from fun W hb => by obtain ⟨c0, c1, c2, c3, c4, c5⟩ := tokb (heap_keep hb h4); exact ⟨c0, c1, c2, c3, c4, c5, hb⟩)
          obtain ⟨c0, c1, c2, c3, c4, c5⟩ := tokb h4
          clear hW4
          go_region_held3 (fun W => W.cell? ⟨w.heap.size, 0, none⟩ = some (.string (bs t.text)) ∧ W.cell? ⟨w.heap.size, 1, none⟩ = some (.string (bs t.norm)) ∧ W.cell? ⟨w.heap.size, 2, none⟩ = some (.string (bs t.page)) ∧ W.cell? ⟨w.heap.size, 3, none⟩ = some (.int .i64 t.line) ∧ W.cell? ⟨w.heap.size, 4, none⟩ = some (.int .i64 t.flags) ∧ W.cell? ⟨w.heap.size, 5, none⟩ = some (.string (bs t.name)) ∧ Below W4.heap.size W4 W)
            ((refine HKP.out _ ?_; first | exact (Below.refl _ _).drew | (refine bstep ?_ hb2; exact (‹_ ∧ _ ∧ _ ∧ _ ∧ _ ∧ _ ∧ Below W4.heap.size W4 _›).2.2.2.2.2.2) | exact (‹_ ∧ _ ∧ _ ∧ _ ∧ _ ∧ _ ∧ Below W4.heap.size W4 _›).2.2.2.2.2.2))
            (first | (go_at_call 134; refine Calls.mono (H2.out _ ?_ _) ?_; (first | exact .inl rfl | exact .inr rfl); rintro e w' ⟨rfl, hb2⟩))
          have hbX := (‹_ ∧ _ ∧ _ ∧ _ ∧ _ ∧ _ ∧ Below W4.heap.size W4 _›).2.2.2.2.2.2
          rename_i hHeld
          have B5 := bstep B4 hbX
          have h5 := heap_keep hbX h4
          clear hHeld hbX hb2 c0 c1 c2 c3 c4 c5 h4 B4 HKP
          obtain ⟨c0, c1, c2, c3, c4, c5⟩ := tokb h5
          rw [E2.out, E8.out]
          go_wp2_with (fail)
          go_ret
          exact ⟨ret_i HTC.out.symm, B5⟩
end Go.Proofs.YtjmebijckcimoaaGreatDoor
