/-
  Why a token is not valid.
-/
import Derived.Test.YtjmebijckcimoaaGreatDoorNab
namespace Go.Proofs.YtjmebijckcimoaaGreatDoor
open Go.RowKit Go.Ap Go.Shelf Go.Proofs

attribute [local go_sem] Oper.semAt_some bs_toList empty_toList bs_size bs_extract
/-- a token as a call hands it over -/
def tokV (t : Tok) : Value := .agg #[.string (bs t.text), .string (bs t.norm), .string (bs t.page), .int .i64 t.line, .int .i64 t.flags, .string (bs t.name)]
def plainB (t : Tok) : Bool := !isGap t.flags && !isMark t.flags
set_option maxHeartbeats 2000000 in
theorem isWordT (t : Tok) (w : World) (h0 : 0 ≤ t.flags) (h1 : t.flags ≤ 31) : Calls Tryz.prog 119 #[tokV t] w fun e W' => e = .returned (.bool (plainB t)) ∧ Below w.heap.size w W' := by
  unfold tokV
  have HB := Lib.hid (bits10 h0 h1)
  clear h0 h1
  go_enter Tryz.func119, Tryz.ntmps119
  go_wp2_with (fail)
  go_ret
  exact ⟨ret_b HB.out, balloc _ _⟩
-- TOKC
theorem tokb {W : World} {b : Nat} {t : Tok} (h : W.heap[b]? = some (.cells #[.string (bs t.text), .string (bs t.norm), .string (bs t.page), .int .i64 t.line, .int .i64 t.flags, .string (bs t.name)] 65)) :
    W.cell? ⟨b, 0, none⟩ = some (.string (bs t.text)) ∧ W.cell? ⟨b, 1, none⟩ = some (.string (bs t.norm)) ∧ W.cell? ⟨b, 2, none⟩ = some (.string (bs t.page)) ∧ W.cell? ⟨b, 3, none⟩ = some (.int .i64 t.line) ∧ W.cell? ⟨b, 4, none⟩ = some (.int .i64 t.flags) ∧ W.cell? ⟨b, 5, none⟩ = some (.string (bs t.name)) := by
  simp only [World.cell?, h]
  exact ⟨rfl, rfl, rfl, rfl, rfl, rfl⟩
theorem lt_of_heap {w : World} {b : Nat} {o : Obj} (h : w.heap[b]? = some o) : b < w.heap.size := (Array.getElem?_eq_some_iff.1 h).1

set_option maxHeartbeats 4000000 in
theorem tok_word (t : Tok) (w : World) (hs : TokS t) (d1 : 0 ≤ t.flags) (d2 : t.flags ≤ 31) (hg : isGap t.flags = false) (hm : isMark t.flags = false) :
    Calls Tryz.prog 97 #[tokV t] w fun e W' => e = .returned (.int .i64 (tokC t)) ∧ Below w.heap.size w W' := by
  have e0 : decide (t.flags < 0) = false := by simp; omega
  have e1 : decide (31 < t.flags) = false := by simp; omega
  have b2 : (bits BinOp.and IntKind.i64 t.flags 2 != 0) = false := by rw [bne, bits2 d1 d2, hg]; rfl
  have b8 : (bits BinOp.and IntKind.i64 t.flags 8 != 0) = false := by rw [bne, bits8 d1 d2, hm]; rfl
  have eg : ∀ args w, (callFunc 116 args).run Tryz.prog w = .ok (.enter 116 args) w := enters_of Tryz.func116 (by kernel_rfl) rfl
  have HIW := Lib.hid (fun w => isWordT t w d1 d2)
  have hpl : plainB t = true := by unfold plainB; rw [hg, hm]; rfl
  have HTC := Lib.hid (show tokC t = (if isWordB t.text = false then 11 else if normB t.norm = false then 11 else if t.line < 0 then 2 else if namedB t.page = false ∨ namedB t.name = false then 14 else 0) from by
    unfold tokC formB
    rw [if_neg (by omega), hg, hm]
    simp)
  rw [hpl] at HIW
  have HF := Lib.hid (fun w => isWordP t.text w (Nat.le_trans hs.text (by omega)))
  have HN1 := Lib.hid (fun w => namedP t.page w hs.page)
  have HN2 := Lib.hid (fun w => namedP t.name w hs.name)
  have HN := Lib.hid (fun w => normP t.norm w hs.norm)
  clear hs hg hm hpl d1 d2
  unfold tokV at HIW ⊢
  go_enter Tryz.func97, Tryz.ntmps97
  go_wp2_with (fail)
  obtain ⟨W4, hW4⟩ : ∃ W4, w.alloc (.cells #[.string (bs t.text), .string (bs t.norm), .string (bs t.page), .int .i64 t.line, .int .i64 t.flags, .string (bs t.name)] 65) = W4 := ⟨_, rfl⟩
  have B4 : Below w.heap.size w W4 := by rw [← hW4]; exact balloc _ _
  have h4 : W4.heap[w.heap.size]? = some (.cells #[.string (bs t.text), .string (bs t.norm), .string (bs t.page), .int .i64 t.line, .int .i64 t.flags, .string (bs t.name)] 65) := by rw [← hW4]; exact heap_fresh rfl
  rw [hW4]
  obtain ⟨c0, c1, c2, c3, c4, c5⟩ := tokb h4
  clear hW4
  go_quiet (fail)
  go_wp2_with (fail)
  refine (HF.out _).mono ?_
  rintro e w1 ⟨rfl, hb1⟩
  have B1 := bstep (bstep B4 (bdrewN W4 nq)) hb1
  have h5 := (hb1.block _ (lt_of_heap (w := W4) h4)).trans h4
  clear c0 c1 c2 c3 c4 c5 h4 hb1 B4
  obtain ⟨c0, c1, c2, c3, c4, c5⟩ := tokb h5
  cases hfb : isWordB t.text
  · have HFB := Lib.hid hfb
    clear hfb
    go_wp2_with (fail)
    go_ret
    exact ⟨ret_i (by rw [HTC.out, HFB.out]; simp), B1⟩
  · have HFB := Lib.hid hfb
    clear hfb
    go_wp2_with (fail)
    refine (HIW.out _).mono ?_
    rintro e w2 ⟨rfl, hb2⟩
    have B2 := bstep B1 hb2
    have h6 := (hb2.block _ (lt_of_heap h5)).trans h5
    clear c0 c1 c2 c3 c4 c5 h5 hb2 B1
    obtain ⟨c0, c1, c2, c3, c4, c5⟩ := tokb h6
    go_wp2_with (fail)
    refine (HN.out _).mono ?_
    rintro e w3 ⟨rfl, rfl⟩
    cases hnb : normB t.norm
    · have HNB := Lib.hid hnb
      clear hnb
      go_wp2_with (fail)
      go_ret
      exact ⟨ret_i (by rw [HTC.out, HFB.out, HNB.out]; simp), B2⟩
    · have HNB := Lib.hid hnb
      clear hnb
      go_wp2_with (fail)
      refine (HIW.out _).mono ?_
      rintro e w3 ⟨rfl, hb3⟩
      have B3 := bstep B2 hb3
      have h7 := (hb3.block _ (lt_of_heap h6)).trans h6
      clear c0 c1 c2 c3 c4 c5 h6 hb3 B2
      obtain ⟨c0, c1, c2, c3, c4, c5⟩ := tokb h7
      by_cases hl : t.line < 0
      · have eL : decide (t.line < 0) = true := by simpa using hl
        have HL := Lib.hid hl
        clear hl
        go_wp2_with (fail)
        go_ret
        exact ⟨ret_i (by rw [HTC.out, HFB.out, if_neg (by simp), if_neg (by rw [HNB.out]; simp), if_pos HL.out]), B3⟩
      · have eL : decide (t.line < 0) = false := by simpa using hl
        have HL := Lib.hid hl
        clear hl
        go_wp2_with (fail)
        refine (HN1.out _).mono ?_
        rintro e w4 ⟨rfl, rfl⟩
        cases hp : namedB t.page
        · have HP := Lib.hid hp
          clear hp
          go_wp2_with (fail)
          go_ret
          exact ⟨ret_i (by rw [HTC.out, HFB.out, if_neg (by simp), if_neg (by rw [HNB.out]; simp), if_neg (Int.not_lt.2 HL.out), if_pos (.inl HP.out)]), B3⟩
        · have HP := Lib.hid hp
          clear hp
          go_wp2_with (fail)
          refine (HN2.out _).mono ?_
          rintro e w4 ⟨rfl, rfl⟩
          cases hp : namedB t.name
          · have HP2 := Lib.hid hp
            clear hp
            go_wp2_with (fail)
            go_ret
            exact ⟨ret_i (by rw [HTC.out, HFB.out, if_neg (by simp), if_neg (by rw [HNB.out]; simp), if_neg (Int.not_lt.2 HL.out), if_pos (.inr HP2.out)]), B3⟩
          · have HP2 := Lib.hid hp
            clear hp
            go_wp2_with (fail)
            go_ret
            exact ⟨ret_i (by rw [HTC.out, HFB.out, if_neg (by simp), if_neg (by rw [HNB.out]; simp), if_neg (Int.not_lt.2 HL.out), if_neg (by rw [HP.out, HP2.out]; simp)]), B3⟩
set_option maxHeartbeats 4000000 in
theorem tok_gap (t : Tok) (w : World) (hs : TokS t) (hv : EV w) (d1 : 0 ≤ t.flags) (d2 : t.flags ≤ 31) (hg : isGap t.flags = true) (hm : isMark t.flags = false) :
    Calls Tryz.prog 97 #[tokV t] w fun e W' => e = .returned (.int .i64 (tokC t)) ∧ Below w.heap.size w W' := by
  have e0 : decide (t.flags < 0) = false := by simp; omega
  have e1 : decide (31 < t.flags) = false := by simp; omega
  have b2 : (bits BinOp.and IntKind.i64 t.flags 2 != 0) = true := by rw [bne, bits2 d1 d2, hg]; rfl
  have b8 : (bits BinOp.and IntKind.i64 t.flags 8 != 0) = false := by rw [bne, bits8 d1 d2, hm]; rfl
  have eg : ∀ args w, (callFunc 117 args).run Tryz.prog w = .ok (.enter 117 args) w := enters_of Tryz.func117 (by kernel_rfl) rfl
  have HIW := Lib.hid (fun w => isWordT t w d1 d2)
  have hpl : plainB t = false := by unfold plainB; rw [hg, hm]; rfl
  have HTC := Lib.hid (show tokC t = (if gapB t.text = false then 11 else if t.norm ≠ t.text then 11 else if t.line < 0 then 2 else if namedB t.page = false ∨ namedB t.name = false then 14 else 0) from by
    unfold tokC formB
    rw [if_neg (by omega), hg, hm]
    simp)
  rw [hpl] at HIW
  have HF := Lib.hid (fun w hv => gapP t.text w hs.text hv)
  have HN1 := Lib.hid (fun w => namedP t.page w hs.page)
  have HN2 := Lib.hid (fun w => namedP t.name w hs.name)
  clear hs hg hm hpl d1 d2
  unfold tokV at HIW ⊢
  go_enter Tryz.func97, Tryz.ntmps97
  go_wp2_with (fail)
  obtain ⟨W4, hW4⟩ : ∃ W4, w.alloc (.cells #[.string (bs t.text), .string (bs t.norm), .string (bs t.page), .int .i64 t.line, .int .i64 t.flags, .string (bs t.name)] 65) = W4 := ⟨_, rfl⟩
  have B4 : Below w.heap.size w W4 := by rw [← hW4]; exact balloc _ _
  have h4 : W4.heap[w.heap.size]? = some (.cells #[.string (bs t.text), .string (bs t.norm), .string (bs t.page), .int .i64 t.line, .int .i64 t.flags, .string (bs t.name)] 65) := by rw [← hW4]; exact heap_fresh rfl
  rw [hW4]
  obtain ⟨c0, c1, c2, c3, c4, c5⟩ := tokb h4
  clear hW4
  go_quiet (fail)
  go_wp2_with (fail)
  refine (HF.out _ (hv.mono (Nat.le_refl _) (bstep B4 (bdrewN W4 nq)))).mono ?_
  rintro e w1 ⟨rfl, hb1⟩
  have B1 := bstep (bstep B4 (bdrewN W4 nq)) hb1
  have h5 := (hb1.block _ (lt_of_heap (w := W4) h4)).trans h4
  clear c0 c1 c2 c3 c4 c5 h4 hb1 B4
  obtain ⟨c0, c1, c2, c3, c4, c5⟩ := tokb h5
  cases hfb : gapB t.text
  · have HFB := Lib.hid hfb
    clear hfb
    go_wp2_with (fail)
    go_ret
    exact ⟨ret_i (by rw [HTC.out, HFB.out]; simp), B1⟩
  · have HFB := Lib.hid hfb
    clear hfb
    go_wp2_with (fail)
    refine (HIW.out _).mono ?_
    rintro e w2 ⟨rfl, hb2⟩
    have B2 := bstep B1 hb2
    have h6 := (hb2.block _ (lt_of_heap h5)).trans h5
    clear c0 c1 c2 c3 c4 c5 h5 hb2 B1
    obtain ⟨c0, c1, c2, c3, c4, c5⟩ := tokb h6
    go_wp2_with (fail)
    refine (HIW.out _).mono ?_
    rintro e w3 ⟨rfl, hb3⟩
    have B3 := bstep B2 hb3
    have h7 := (hb3.block _ (lt_of_heap h6)).trans h6
    clear c0 c1 c2 c3 c4 c5 h6 hb3 B2
    obtain ⟨c0, c1, c2, c3, c4, c5⟩ := tokb h7
    by_cases hnb : t.norm = t.text
    · have HNB := Lib.hid hnb
      have eN : (t.norm == t.text) = true := by rw [hnb]; exact beq_self_eq_true _
      clear hnb
      by_cases hl : t.line < 0
      · have eL : decide (t.line < 0) = true := by simpa using hl
        have HL := Lib.hid hl
        clear hl
        go_wp2_with (fail)
        go_ret
        exact ⟨ret_i (by rw [HTC.out, HFB.out, if_neg (by simp), if_neg (by rw [HNB.out]; simp), if_pos HL.out]), B3⟩
      · have eL : decide (t.line < 0) = false := by simpa using hl
        have HL := Lib.hid hl
        clear hl
        go_wp2_with (fail)
        refine (HN1.out _).mono ?_
        rintro e w4 ⟨rfl, rfl⟩
        cases hp : namedB t.page
        · have HP := Lib.hid hp
          clear hp
          go_wp2_with (fail)
          go_ret
          exact ⟨ret_i (by rw [HTC.out, HFB.out, if_neg (by simp), if_neg (by rw [HNB.out]; simp), if_neg (Int.not_lt.2 HL.out), if_pos (.inl HP.out)]), B3⟩
        · have HP := Lib.hid hp
          clear hp
          go_wp2_with (fail)
          refine (HN2.out _).mono ?_
          rintro e w4 ⟨rfl, rfl⟩
          cases hp : namedB t.name
          · have HP2 := Lib.hid hp
            clear hp
            go_wp2_with (fail)
            go_ret
            exact ⟨ret_i (by rw [HTC.out, HFB.out, if_neg (by simp), if_neg (by rw [HNB.out]; simp), if_neg (Int.not_lt.2 HL.out), if_pos (.inr HP2.out)]), B3⟩
          · have HP2 := Lib.hid hp
            clear hp
            go_wp2_with (fail)
            go_ret
            exact ⟨ret_i (by rw [HTC.out, HFB.out, if_neg (by simp), if_neg (by rw [HNB.out]; simp), if_neg (Int.not_lt.2 HL.out), if_neg (by rw [HP.out, HP2.out]; simp)]), B3⟩
    · have HNB := Lib.hid hnb
      have eN : (t.norm == t.text) = false := by rw [beq_eq_false_iff_ne]; exact hnb
      clear hnb
      go_wp2_with (fail)
      go_ret
      exact ⟨ret_i (by rw [HTC.out, HFB.out, if_neg (by simp), if_pos HNB.out]), B3⟩
set_option maxHeartbeats 4000000 in
theorem tok_mark (t : Tok) (w : World) (hs : TokS t) (d1 : 0 ≤ t.flags) (d2 : t.flags ≤ 31) (hg : isGap t.flags = false) (hm : isMark t.flags = true) :
    Calls Tryz.prog 97 #[tokV t] w fun e W' => e = .returned (.int .i64 (tokC t)) ∧ Below w.heap.size w W' := by
  have e0 : decide (t.flags < 0) = false := by simp; omega
  have e1 : decide (31 < t.flags) = false := by simp; omega
  have b2 : (bits BinOp.and IntKind.i64 t.flags 2 != 0) = false := by rw [bne, bits2 d1 d2, hg]; rfl
  have b8 : (bits BinOp.and IntKind.i64 t.flags 8 != 0) = true := by rw [bne, bits8 d1 d2, hm]; rfl
  have eg : ∀ args w, (callFunc 118 args).run Tryz.prog w = .ok (.enter 118 args) w := enters_of Tryz.func118 (by kernel_rfl) rfl
  have HIW := Lib.hid (fun w => isWordT t w d1 d2)
  have hpl : plainB t = false := by unfold plainB; rw [hg, hm]; rfl
  have HTC := Lib.hid (show tokC t = (if markB t.text = false then 11 else if t.norm ≠ t.text then 11 else if t.line < 0 then 2 else if namedB t.page = false ∨ namedB t.name = false then 14 else 0) from by
    unfold tokC formB
    rw [if_neg (by omega), hg, hm]
    simp)
  rw [hpl] at HIW
  have HF := Lib.hid (fun w => (markP t.text w (Nat.le_trans hs.text (by omega))).mono fun e w' h => (⟨h.1, by rw [← h.2]; exact Below.refl _ _⟩ : e = .returned (.bool (markB t.text)) ∧ Below w.heap.size w w'))
  have HN1 := Lib.hid (fun w => namedP t.page w hs.page)
  have HN2 := Lib.hid (fun w => namedP t.name w hs.name)
  clear hs hg hm hpl d1 d2
  unfold tokV at HIW ⊢
  go_enter Tryz.func97, Tryz.ntmps97
  go_wp2_with (fail)
  obtain ⟨W4, hW4⟩ : ∃ W4, w.alloc (.cells #[.string (bs t.text), .string (bs t.norm), .string (bs t.page), .int .i64 t.line, .int .i64 t.flags, .string (bs t.name)] 65) = W4 := ⟨_, rfl⟩
  have B4 : Below w.heap.size w W4 := by rw [← hW4]; exact balloc _ _
  have h4 : W4.heap[w.heap.size]? = some (.cells #[.string (bs t.text), .string (bs t.norm), .string (bs t.page), .int .i64 t.line, .int .i64 t.flags, .string (bs t.name)] 65) := by rw [← hW4]; exact heap_fresh rfl
  rw [hW4]
  obtain ⟨c0, c1, c2, c3, c4, c5⟩ := tokb h4
  clear hW4
  go_quiet (fail)
  go_wp2_with (fail)
  refine (HF.out _).mono ?_
  rintro e w1 ⟨rfl, hb1⟩
  have B1 := bstep (bstep B4 (bdrewN W4 nq)) hb1
  have h5 := (hb1.block _ (lt_of_heap (w := W4) h4)).trans h4
  clear c0 c1 c2 c3 c4 c5 h4 hb1 B4
  obtain ⟨c0, c1, c2, c3, c4, c5⟩ := tokb h5
  cases hfb : markB t.text
  · have HFB := Lib.hid hfb
    clear hfb
    go_wp2_with (fail)
    go_ret
    exact ⟨ret_i (by rw [HTC.out, HFB.out]; simp), B1⟩
  · have HFB := Lib.hid hfb
    clear hfb
    go_wp2_with (fail)
    refine (HIW.out _).mono ?_
    rintro e w2 ⟨rfl, hb2⟩
    have B2 := bstep B1 hb2
    have h6 := (hb2.block _ (lt_of_heap h5)).trans h5
    clear c0 c1 c2 c3 c4 c5 h5 hb2 B1
    obtain ⟨c0, c1, c2, c3, c4, c5⟩ := tokb h6
    go_wp2_with (fail)
    refine (HIW.out _).mono ?_
    rintro e w3 ⟨rfl, hb3⟩
    have B3 := bstep B2 hb3
    have h7 := (hb3.block _ (lt_of_heap h6)).trans h6
    clear c0 c1 c2 c3 c4 c5 h6 hb3 B2
    obtain ⟨c0, c1, c2, c3, c4, c5⟩ := tokb h7
    by_cases hnb : t.norm = t.text
    · have HNB := Lib.hid hnb
      have eN : (t.norm == t.text) = true := by rw [hnb]; exact beq_self_eq_true _
      clear hnb
      by_cases hl : t.line < 0
      · have eL : decide (t.line < 0) = true := by simpa using hl
        have HL := Lib.hid hl
        clear hl
        go_wp2_with (fail)
        go_ret
        exact ⟨ret_i (by rw [HTC.out, HFB.out, if_neg (by simp), if_neg (by rw [HNB.out]; simp), if_pos HL.out]), B3⟩
      · have eL : decide (t.line < 0) = false := by simpa using hl
        have HL := Lib.hid hl
        clear hl
        go_wp2_with (fail)
        refine (HN1.out _).mono ?_
        rintro e w4 ⟨rfl, rfl⟩
        cases hp : namedB t.page
        · have HP := Lib.hid hp
          clear hp
          go_wp2_with (fail)
          go_ret
          exact ⟨ret_i (by rw [HTC.out, HFB.out, if_neg (by simp), if_neg (by rw [HNB.out]; simp), if_neg (Int.not_lt.2 HL.out), if_pos (.inl HP.out)]), B3⟩
        · have HP := Lib.hid hp
          clear hp
          go_wp2_with (fail)
          refine (HN2.out _).mono ?_
          rintro e w4 ⟨rfl, rfl⟩
          cases hp : namedB t.name
          · have HP2 := Lib.hid hp
            clear hp
            go_wp2_with (fail)
            go_ret
            exact ⟨ret_i (by rw [HTC.out, HFB.out, if_neg (by simp), if_neg (by rw [HNB.out]; simp), if_neg (Int.not_lt.2 HL.out), if_pos (.inr HP2.out)]), B3⟩
          · have HP2 := Lib.hid hp
            clear hp
            go_wp2_with (fail)
            go_ret
            exact ⟨ret_i (by rw [HTC.out, HFB.out, if_neg (by simp), if_neg (by rw [HNB.out]; simp), if_neg (Int.not_lt.2 HL.out), if_neg (by rw [HP.out, HP2.out]; simp)]), B3⟩
    · have HNB := Lib.hid hnb
      have eN : (t.norm == t.text) = false := by rw [beq_eq_false_iff_ne]; exact hnb
      clear hnb
      go_wp2_with (fail)
      go_ret
      exact ⟨ret_i (by rw [HTC.out, HFB.out, if_neg (by simp), if_pos HNB.out]), B3⟩
set_option maxHeartbeats 2000000 in
theorem tokP (t : Tok) (w : World) (hs : TokS t) (hv : EV w) : Calls Tryz.prog 97 #[tokV t] w fun e W' => e = .returned (.int .i64 (tokC t)) ∧ Below w.heap.size w W' := by
  by_cases d1 : t.flags < 0
  · have e0 : decide (t.flags < 0) = true := by simpa using d1
    have h : tokC t = 2 := by rw [tokC, if_pos (.inl d1)]
    rw [h]
    clear h d1 hs hv
    unfold tokV
    go_enter Tryz.func97, Tryz.ntmps97
    go_wp2_with (fail)
    go_ret
    exact ⟨rfl, balloc _ _⟩
  · by_cases d2 : 31 < t.flags
    · have e0 : decide (t.flags < 0) = false := by simpa using d1
      have e1 : decide (31 < t.flags) = true := by simpa using d2
      have h : tokC t = 2 := by rw [tokC, if_pos (.inr d2)]
      rw [h]
      clear h d1 d2 hs hv
      unfold tokV
      go_enter Tryz.func97, Tryz.ntmps97
      go_wp2_with (fail)
      go_ret
      exact ⟨rfl, balloc _ _⟩
    · cases hg : isGap t.flags
      · cases hm : isMark t.flags
        · exact tok_word t w hs (by omega) (by omega) hg hm
        · exact tok_mark t w hs (by omega) (by omega) hg hm
      · cases hm : isMark t.flags
        · exact tok_gap t w hs hv (by omega) (by omega) hg hm
        · have e0 : decide (t.flags < 0) = false := by simpa using d1
          have e1 : decide (31 < t.flags) = false := by simpa using d2
          have b2 : (bits BinOp.and IntKind.i64 t.flags 2 != 0) = true := by rw [bne, bits2 (by omega) (by omega), hg]; rfl
          have b8 : (bits BinOp.and IntKind.i64 t.flags 8 != 0) = true := by rw [bne, bits8 (by omega) (by omega), hm]; rfl
          have h : tokC t = 8 := by rw [tokC, if_neg (by omega), hg, hm]; rfl
          rw [h]
          clear h d1 d2 hs hv hg hm
          unfold tokV
          go_enter Tryz.func97, Tryz.ntmps97
          go_wp2_with (fail)
          obtain ⟨W4, hW4⟩ : ∃ W4, w.alloc (.cells #[.string (bs t.text), .string (bs t.norm), .string (bs t.page), .int .i64 t.line, .int .i64 t.flags, .string (bs t.name)] 65) = W4 := ⟨_, rfl⟩
          have B4 : Below w.heap.size w W4 := by rw [← hW4]; exact balloc _ _
          have h4 : W4.heap[w.heap.size]? = some (.cells #[.string (bs t.text), .string (bs t.norm), .string (bs t.page), .int .i64 t.line, .int .i64 t.flags, .string (bs t.name)] 65) := by rw [← hW4]; exact heap_fresh rfl
          rw [hW4]
          obtain ⟨c0, c1, c2, c3, c4, c5⟩ := tokb h4
          clear hW4
          go_quiet (fail)
          go_wp2_with (fail)
          go_ret
          exact ⟨rfl, bstep B4 (bdrewN _ _)⟩
end Go.Proofs.YtjmebijckcimoaaGreatDoor
