/-
  Shared, of the program.
-/
import Derived.Test.YtbcnbchpcbglhaaW8
import Derived.Test.YtbcnbchpcbglhaaShelf
import Derived.Test.YtbcnbchpcbglhaaPlain2
namespace Go.Proofs.Ytbcnbchpcbglhaa
open Go.RowKit Go.Ap Go.Shelf

theorem contains27 (a : Option Addr) (n c : Nat) (xs : List Int) (x : Int) (w : World) (h : Ints w a n xs) :
    Calls Try.prog 27 #[.slice a n c, .int .i64 x] w fun e w' => e = .returned (.bool (hasI xs x)) ∧ w = w' := by
  by_cases h0 : n = 0
  · subst h0
    have := h.zero
    subst this
    exact (Try.slices_Contains_int_empty a c x w).mono (by rintro e w' ⟨rfl, rfl⟩; exact ⟨rfl, rfl⟩)
  · obtain ⟨b, off, rfl, hc⟩ := Ints.at h (by omega)
    have := Try.slices_Contains_int b off n c xs x w (by rw [h.len]; omega) (by have := h.small; omega) (fun j hj => hc j (by rw [← h.len]; exact hj))
    rw [List.take_of_length_le (by rw [h.len]; omega)] at this
    exact this.mono (by rintro e w' ⟨rfl, rfl⟩; exact ⟨rfl, rfl⟩)
theorem contains27q (a : Option Addr) (n c : Nat) (xs : List Int) (x : Int) (w : World) (h : Ints w a n xs) :
    Calls Try.prog 27 #[.slice a n c, .int .i64 x] w fun e w' => e = .returned (.bool (hasI xs x)) ∧ ∃ q, w' = w.drewN q :=
  (contains27 a n c xs x w h).mono (by rintro e w' ⟨rfl, rfl⟩; exact ⟨rfl, 0, rfl⟩)
theorem equal20 (a b : Option Addr) (n m c d : Nat) (xs ys : List Int) (w : World) (hx : Ints w a n xs) (hy : Ints w b m ys) :
    Calls Try.prog 20 #[.slice a n c, .slice b m d] w fun e w' => e = .returned (.bool (eqL xs ys)) ∧ ∃ q, w' = w.drewN q := by
  have s1 := hx.small
  have s2 := hy.small
  by_cases hnm : n = m
  · subst hnm
    by_cases h0 : n = 0
    · subst h0
      have := hx.zero
      subst this
      have := hy.zero
      subst this
      exact (Try.slices_Equal_int_empty a b c 0 d w (by omega)).mono (by rintro e w' ⟨rfl, rfl⟩; exact ⟨rfl, 0, rfl⟩)
    · obtain ⟨b1, o1, rfl, hc1⟩ := Ints.at hx (by omega)
      obtain ⟨b2, o2, rfl, hc2⟩ := Ints.at hy (by omega)
      have := Try.slices_Equal_int b1 o1 n c b2 o2 n d xs ys w (by rw [hx.len]; omega) (by rw [hy.len]; omega) (by omega) (by omega) (fun j hj => hc1 j (by rw [← hx.len]; exact hj)) (fun j hj => hc2 j (by rw [← hy.len]; exact hj))
      rw [List.take_of_length_le (by rw [hx.len]; omega), List.take_of_length_le (by rw [hy.len]; omega)] at this
      exact this
  · have e : eqL xs ys = false := eqL_len (by rw [hx.len, hy.len]; exact hnm)
    rw [e]
    exact (Try.slices_Equal_int_lens a b n c m d w hnm).mono (by rintro e w' ⟨rfl, rfl⟩; exact ⟨rfl, 0, rfl⟩)

/-- what a call leaves that hands back a list and an error number -/
def GivesE (w : World) (res : List Int) (err : Int) (e : Ending) (w' : World) : Prop :=
  ∃ a n c, e = .returned (.tuple #[.slice a n c, .int .i64 err]) ∧ Ints w' a n res ∧ Below w.heap.size w w'

theorem shared17_e (a b : Option Addr) (n c k d : Nat) (S : List (List Int)) (src : List Int) (w : World) (h : Rows2 w a n S) (hE : chkS S ≠ 0 ∨ src.length = 0) (hs : Ints w b k src) :
    Calls Try.prog 17 #[.slice a n c, .slice b k d] w (GivesE w [] (shrE S src)) := by
  have H32 := check32 a n c S w h
  have HK := Lib.hid hs.len
  by_cases h1 : chkS S = 0
  · rw [h1] at H32
    have h2 : src.length = 0 := hE.resolve_left (fun h => h h1)
    obtain rfl : k = 0 := by rw [← hs.len, h2]
    have he : shrE S src = 5 := by rw [shrE, if_neg (by simp [h1]), if_pos h2]
    rw [he]
    have H32 := Lib.hid H32
    clear he hE h1 h2 h hs
    go_enter Try.func17, Try.ntmps17
    go_wp2_with (fail)
    refine (H32.out).mono ?_
    rintro e w' ⟨rfl, q, rfl⟩
    go_wp2_with (fail)
    go_ret2
    exact ⟨_, _, _, rfl, Sl.nil _ _, bdrewN _ _⟩
  · have he : shrE S src = 1 := by rw [shrE, if_pos h1]
    rw [he]
    have d1 : (chkS S != 0) = true := by simpa using h1
    have H32 := Lib.hid H32
    clear he hE h1 h hs
    go_enter Try.func17, Try.ntmps17
    go_wp2_with (fail)
    refine (H32.out).mono ?_
    rintro e w' ⟨rfl, q, rfl⟩
    go_wp2_with (fail)
    go_ret2
    exact ⟨_, _, _, rfl, Sl.nil _ _, bdrewN _ _⟩

set_option maxRecDepth 100000 in
set_option maxHeartbeats 4000000 in
theorem shared17_ok (a b : Option Addr) (n c k d m : Nat) (S : List (List Int)) (src : List Int) (w : World) (h : Rows2 w a n S) (hch : chkS S = 0) (ok : OkS S m) (hs : Ints w b k src) (h0 : k ≠ 0) :
    Calls Try.prog 17 #[.slice a n c, .slice b k d] w (GivesE w (if srcF n src k 0 = 0 then memb (shP S src n) m else []) (srcF n src k 0)) := by
  obtain ⟨i0, hi, hz0, hz1, hz2⟩ := info_parts info3
  have H32 := check32 a n c S w h
  rw [hch] at H32
  have H32 := Lib.hid H32
  have HL := Lib.hid h.len
  have HH := Lib.hid h
  have hsm := h.small
  have OK := Lib.hid ok
  have hw := ok.wid
  have hn32 : n ≤ 32 := by rw [← h.len]; exact ok.le
  have HS := Lib.hid hs
  have HSL := Lib.hid hs.len
  have hks := hs.small
  have e0 : ((k : Int) == 0) = false := by rw [beq_eq_false_iff_ne]; omega
  have hpk : 0 < k := by omega
  obtain ⟨R, hR⟩ : ∃ R, srcF n src k 0 = R := ⟨_, rfl⟩
  rw [hR]
  have HR := Lib.hid hR
  obtain ⟨G, hG⟩ : ∃ G, (if R = 0 then memb (shP S src n) m else []) = G := ⟨_, rfl⟩
  rw [hG]
  have HG0 := Lib.hid (show R ≠ 0 → G = [] from fun h => by rw [← hG, if_neg h])
  have HG1 := Lib.hid (show R = 0 → G = memb (shP S src n) m from fun h => by rw [← hG, if_pos h])
  clear hch h ok hs hR h0 hG
  obtain ⟨bs, os, rfl, hcs⟩ := Ints.at HS.out hpk
  have HCS := Lib.hid hcs
  clear hcs
  go_enter Try.func17, Try.ntmps17
  go_wp2_with (fail)
  refine (H32.out).mono ?_
  rintro e w' ⟨rfl, q, rfl⟩
  go_wp2_with (fail)
  go_loop [24] (fun i => ∃ j : Nat, j ≤ k ∧ i = .int .i64 j ∧ srcF n src (k - j) j = R) (fun i => k - (intOf i).toNat)
  case atStart => exact ⟨0, by omega, rfl, HR.out⟩
  case round =>
    obtain ⟨j, hj, rfl, hch⟩ := hrel
    have HC := Lib.hid hch
    clear hch
    by_cases hlt : j < k
    · have hcell := HCS.out j hlt
      have hcell' : 0 < j → w.cell? ⟨bs, os + (j - 1), none⟩ = some (.int .i64 (nth src (j - 1))) := fun _ => HCS.out _ (by omega)
      obtain ⟨f, hf⟩ : ∃ f, k - j = f + 1 := ⟨k - j - 1, by omega⟩
      have HF := Lib.hid hf
      obtain ⟨x, hx⟩ : ∃ x, nth src j = x := ⟨_, rfl⟩
      obtain ⟨y, hy⟩ : ∃ y, nth src (j - 1) = y := ⟨_, rfl⟩
      rw [hx] at hcell
      rw [hy] at hcell'
      have HX := Lib.hid hx
      have HY := Lib.hid hy
      clear hf hx hy
      by_cases h1 : x < 0
      · have d1 : decide (x < 0) = true := by simpa using h1
        have HN := Lib.hid (show R = 2 by rw [← HC.out, HF.out, srcF_range (by rw [HX.out]; omega)])
        go_wp2_with (fail)
        go_ret2
        exact ⟨none, 0, 0, by rw [HN.out] <;> rfl, by rw [HG0.out (by rw [HN.out]; omega)]; exact Sl.nil _ _, bdrewN _ _⟩
      have d1 : decide (x < 0) = false := by simpa using h1
      by_cases h2 : (n : Int) ≤ x
      · have d2 : decide ((n : Int) ≤ x) = true := by simpa using h2
        have HN := Lib.hid (show R = 2 by rw [← HC.out, HF.out, srcF_range (by rw [HX.out]; omega)])
        go_wp2_with (fail)
        go_ret2
        exact ⟨none, 0, 0, by rw [HN.out] <;> rfl, by rw [HG0.out (by rw [HN.out]; omega)]; exact Sl.nil _ _, bdrewN _ _⟩
      have d2 : decide ((n : Int) ≤ x) = false := by simpa using h2
      by_cases h3 : 0 < j
      · have hc2 := hcell' h3
        have d3 : decide (0 < (j : Int)) = true := by simp; omega
        have d3' : decide (0 < j) = true := by simpa using h3
        clear hcell'
        by_cases h4 : x ≤ y
        · have d4 : decide (x ≤ y) = true := by simpa using h4
          have HN := Lib.hid (show R = 10 by rw [← HC.out, HF.out, srcF_order (by rw [HX.out]; omega) (by rw [HX.out, HY.out]; omega)])
          go_wp2_with (fail)
          go_ret2
          exact ⟨none, 0, 0, by rw [HN.out] <;> rfl, by rw [HG0.out (by rw [HN.out]; omega)]; exact Sl.nil _ _, bdrewN _ _⟩
        · have d4 : decide (x ≤ y) = false := by simpa using h4
          have HN := Lib.hid (show srcF n src (k - (j + 1)) (j + 1) = R by rw [← HC.out, HF.out, srcF_next (by rw [HX.out]; omega) (by rw [HX.out, HY.out]; omega), show k - (j + 1) = f by have := HF.out; omega])
          go_wp2_with (fail)
          exact ⟨⟨j + 1, by omega, by go_num, HN.out⟩, by simp [intOf]; omega⟩
      · have d3 : decide (0 < (j : Int)) = false := by simp; omega
        have d3' : decide (0 < j) = false := by simpa using h3
        have HN := Lib.hid (show srcF n src (k - (j + 1)) (j + 1) = R by rw [← HC.out, HF.out, srcF_next (by rw [HX.out]; omega) (by omega), show k - (j + 1) = f by have := HF.out; omega])
        clear hcell'
        go_wp2_with (fail)
        exact ⟨⟨j + 1, by omega, by go_num, HN.out⟩, by simp [intOf]; omega⟩
    · have hR0 : R = 0 := by rw [← HC.out, show k - j = 0 by omega]; rfl
      subst hR0
      have HGG := Lib.hid (HG1.out rfl)
      have src_ok : SrcL n src := (srcF_iff n src).1 (by have := HR.out; rw [← HSL.out] at this; exact this)
      obtain ⟨s0, hs0⟩ : ∃ s0 : Nat, nth src 0 = s0 := ⟨(nth src 0).toNat, by have := src_ok.2 _ (nth_mem (xs := src) (k := 0) (by rw [HSL.out]; exact hpk)); omega⟩
      have hs0n : s0 < n := by have := src_ok.2 _ (nth_mem (xs := src) (k := 0) (by rw [HSL.out]; exact hpk)); omega
      have hcs0 := HCS.out 0 hpk
      rw [hs0, Nat.add_zero] at hcs0
      obtain ⟨b1, o1, rfl, hc1⟩ := Rows2.all HH.out (by omega)
      obtain ⟨a0, n0, c0, hcell0, hI0⟩ := hc1 s0 hs0n
      obtain rfl : m = n0 := by rw [← hI0.len]; exact (OK.out.row_len (by rw [HL.out]; exact hs0n)).symm
      have HC1 := Lib.hid hc1
      have HI0 := Lib.hid hI0
      have HS0 := Lib.hid (show ∀ p, st0 S src p = nth (row S s0) p from fun p => by rw [st0, hs0]; rfl)
      clear hc1 hI0 src_ok hs0
      go_wp2_with (fail)
      go_loopw [8, 56] (fun v i wr => ∃ p : Nat, p ≤ m ∧ i = .int .i64 p ∧ OwnI 3 wr w.heap.size v (memb (shP S src n) p) ∧ Below w.heap.size w wr) (fun _ i _ => m - (intOf i).toNat)
      case atStart => exact ⟨0, by omega, rfl, OwnI.nil _ _ _, bdrewN _ _⟩
      case round =>
        obtain ⟨p, hp, rfl, ho, hb⟩ := hrel
        have HO := Lib.hid ho
        have HB := Lib.hid hb
        have hsz := hb.size
        have hml := memb_len (shP S src n) p
        by_cases hpl : p < m
        · obtain ⟨b3, o3, rfl, hc3⟩ := Ints.at (HI0.out.mono (Nat.le_refl _) hb) (by omega)
          have hcell3 := hc3 p hpl
          obtain ⟨x, hx⟩ : ∃ x, nth (row S s0) p = x := ⟨_, rfl⟩
          rw [hx] at hcell3
          have HSX := Lib.hid (show st0 S src p = x by rw [HS0.out, hx])
          obtain ⟨A0, hA0⟩ : ∃ A0, decide (0 ≤ x) = A0 := ⟨_, rfl⟩
          have HA0 := Lib.hid hA0
          clear hc3 hx hb ho
          go_wp2_with (fail)
          obtain ⟨wo, rfl⟩ : ∃ wo, wo = wr := ⟨_, rfl⟩
          go_loopw [11, 65] (fun v i wi => ∃ i' q : Nat, i' ≤ n ∧ i = .int .i64 i' ∧ wi = wo.drewN q ∧ v = .bool (A0 && (List.range i').all (agP S src p x))) (fun _ i _ => n - (intOf i).toNat)
          case atStart => exact ⟨0, 0, by omega, rfl, rfl, by simp⟩
          case round =>
            obtain ⟨i', q', hi', rfl, hwi, rfl⟩ := hrel
            have HWI := Lib.hid hwi
            by_cases hil : i' < n
            · obtain ⟨a4, n4, c4, hcell4, hI4⟩ := HC1.out i' hil
              obtain rfl : m = n4 := by rw [← hI4.len]; exact (OK.out.row_len (by rw [HL.out]; exact hil)).symm
              have hcl4 : wr.cell? ⟨b1, o1 + i', none⟩ = some (.slice a4 m c4) := by rw [hwi]; exact (HB.out.cell (p := ⟨b1, o1 + i', none⟩) (World.block_lt_of_cell? _ _ hcell4)).trans hcell4
              obtain ⟨b5, o5, rfl, hc5⟩ := Ints.at (hI4.mono (Nat.le_refl _) HB.out) (by omega)
              obtain ⟨y, hy⟩ : ∃ y, nth (row S i') p = y := ⟨_, rfl⟩
              have hcell5 : wr.cell? ⟨b5, o5 + p, none⟩ = some (.int .i64 y) := by rw [hwi, ← hy]; exact hc5 p hpl
              obtain ⟨t, ht⟩ : ∃ t, hasI src i' = t := ⟨_, rfl⟩
              have H27 := fun q => contains27q (some ⟨bs, os, none⟩) k d src i' (wr.drewN q) (by rw [hwi]; exact (HS.out.mono (Nat.le_refl _) HB.out).drewN.drewN)
              rw [ht] at H27
              have H27 := Lib.hid H27
              have HAG := Lib.hid (show agP S src p x i' = ((y == x) == t) by rw [agP, hy, ht])
              have HALL := Lib.hid (all_succ (q := agP S src p x) (k := i'))
              clear hcell4 hI4 hc5 hy ht hwi
              generalize hA : (A0 && (List.range i').all (agP S src p x)) = A at *
              have HA := Lib.hid hA
              clear hA
              have HNX := Lib.hid (show (A0 && (List.range (i' + 1)).all (agP S src p x)) = (A && ((y == x) == t)) by rw [HALL.out, ← Bool.and_assoc, HA.out, HAG.out])
              cases A
              · have HN2 := Lib.hid (show (A0 && (List.range (i' + 1)).all (agP S src p x)) = false by rw [HNX.out]; rfl)
                go_wp2_with (fail)
                go_quiet (fail)
                go_wp2_with (fail)
                go_roundw
                case rel => exact ⟨i' + 1, _, by omega, by go_num, by rw [HWI.out, drewN2], by rw [HN2.out]⟩
                case measure => simp [intOf]; omega
              · have HN2 := Lib.hid (show (A0 && (List.range (i' + 1)).all (agP S src p x)) = ((y == x) == t) by rw [HNX.out]; rfl)
                go_wp2_with (fail)
                go_quiet ((go_at_call 27; exact Calls.quiet_of (H27.out _)))
                go_wp2_with (fail)
                go_roundw
                case rel => exact ⟨i' + 1, _, by omega, by go_num, by rw [HWI.out, drewN2], by rw [HN2.out]⟩
                case measure => simp [intOf]; omega
            · obtain rfl : n = i' := by omega
              have HSP := Lib.hid (show shP S src n p = (A0 && (List.range n).all (agP S src p x)) by rw [shP, HSX.out, HA0.out])
              generalize hA : (A0 && (List.range n).all (agP S src p x)) = A at *
              have HA := Lib.hid hA
              clear hA
              have HO1 := Lib.hid (HO.out.below (bdrewN wo q'))
              have HB1 := Lib.hid (HB.out.trans ((bdrewN wo q').mono hsz))
              rw [← hwi] at HO1 HB1
              have hsz3 := HB1.out.size
              clear hwi
              cases A
              · have HM := Lib.hid (memb_no HSP.out)
                go_wp2_with (fail)
                exact ⟨⟨p + 1, by omega, by go_num, by rw [HM.out]; exact HO1.out, HB1.out⟩, by simp [intOf]; omega⟩
              · have HM := Lib.hid (memb_yes HSP.out)
                go_wp2_with (at_builtin; refine wpList_append_own _ rfl _ _ 23 rfl w.heap.size 3 i0 (.int .i64 0) 1 8 Try.underlying23 hi hz0 hz1 hz2 rfl (by decide) _ _ _ rfl (HO1.out.1.alloc _) ⟨wr.heap.size, 0, none⟩ 1 1 [.int .i64 p] rfl rfl (cell_one_new _ _ _) (by simp [Value.oneCell']) (by unfold maxLen; omega) (by omega) (by simp; omega) ?_; intro v1 w4 hown1 hgrow1 _; have HO2 := Lib.hid hown1; have HG := Lib.hid hgrow1; clear hown1 hgrow1)
                have hpp := HO1.out.pushed (x := p) ⟨by omega, by omega⟩ hsz3 HO2.out HG.out
                exact ⟨⟨p + 1, by omega, by go_num, by rw [HM.out]; exact hpp.1, HB1.out.trans hpp.2⟩, by simp [intOf]; omega⟩
        · obtain rfl : m = p := by omega
          obtain ⟨a9, c9, rfl, hI9⟩ := HO.out.ints (by omega)
          have HI9 := Lib.hid hI9
          clear hI9
          go_wp2_with (fail)
          go_ret2
          exact ⟨_, _, _, rfl, by rw [HGG.out]; exact HI9.out, HB.out⟩

theorem shared17 (a b : Option Addr) (n c k d : Nat) (S : List (List Int)) (src : List Int) (w : World) (h : Rows2 w a n S) (hs : Ints w b k src) :
    Calls Try.prog 17 #[.slice a n c, .slice b k d] w (GivesE w (shrL S src) (shrE S src)) := by
  by_cases hE : chkS S ≠ 0 ∨ src.length = 0
  · have he : shrE S src ≠ 0 := fun h => by
      obtain ⟨h1, h2, _⟩ := shrE_zero h
      rcases hE with h | h
      · exact h h1
      · exact h2 h
    rw [shrL, if_neg he]
    exact shared17_e a b n c k d S src w h hE hs
  · have h1 : chkS S = 0 := Classical.byContradiction fun h => hE (.inl h)
    have h2 : src.length ≠ 0 := fun h => hE (.inr h)
    have he : shrE S src = srcF n src k 0 := by rw [shrE, if_neg (by simp [h1]), if_neg h2, h.len, hs.len]
    rw [shrL, he, h.len]
    exact shared17_ok a b n c k d _ S src w h h1 (chkS_ok h1) hs (by rw [← hs.len]; exact h2)

end Go.Proofs.Ytbcnbchpcbglhaa
