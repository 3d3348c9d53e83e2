/-
  Shared, of the reference.
-/
import Derived.Test.YtbcnbchpcbglhaaR1
namespace Go.Proofs.Ytbcnbchpcbglhaa
open Go.RowKit Go.Ap Go.Shelf Go.Proofs

/-- how many of the first k rows have the state x at place p -/
def hasC (S : List (List Int)) (p : Nat) (x : Int) (k : Nat) : Nat := ((List.range k).filter fun i => nth (row S i) p == x).length
section
variable {S : List (List Int)} {p k : Nat} {x : Int}
theorem hasC_yes (h : nth (row S k) p = x) : hasC S p x (k + 1) = hasC S p x k + 1 := by simp [hasC, List.range_succ, h]
theorem hasC_no (h : ¬ nth (row S k) p = x) : hasC S p x (k + 1) = hasC S p x k := by simp [hasC, List.range_succ, h]
theorem hasC_le (S : List (List Int)) (p : Nat) (x : Int) (k : Nat) : hasC S p x k ≤ k := by unfold hasC; exact Nat.le_trans (List.length_filter_le _ _) (by simp)
end
/-- the first k sources have the state x at place p -/
def srcA (S : List (List Int)) (src : List Int) (p : Nat) (x : Int) (k : Nat) : Bool := (List.range k).all fun j => nth (row S (nth src j).toNat) p == x
theorem srcA_succ {S : List (List Int)} {src : List Int} {p k : Nat} {x : Int} : srcA S src p x (k + 1) = (srcA S src p x k && (nth (row S (nth src k).toNat) p == x)) := by
  unfold srcA; rw [List.range_succ, List.all_append]; simp

theorem shared_same {S : List (List Int)} {src : List Int} {n p : Nat} (hs : SrcL n src) (x : Int) :
    (srcA S src p x src.length && (hasC S p x n == src.length)) = (List.range n).all (agP S src p x) := by
  have hcount : src.length = ((List.range n).filter fun (i : Nat) => hasI src i).length := by
    have := src_memb hs
    unfold memb at this
    have h2 := congrArg List.length this
    rw [List.length_map] at h2
    exact h2.symm
  rw [Bool.eq_iff_iff, Bool.and_eq_true, beq_iff_eq, List.all_eq_true]
  have hsrc : srcA S src p x src.length = true ↔ ∀ i, i < n → hasI src i = true → nth (row S i) p = x := by
    unfold srcA
    rw [List.all_eq_true]
    constructor
    · intro H i hi hm
      obtain ⟨j, hj, hje⟩ := List.getElem_of_mem (List.contains_iff_mem.1 hm)
      have := H j (List.mem_range.2 hj)
      rw [nth_eq hj, hje] at this
      simpa using this
    · intro H j hj
      have hj' := List.mem_range.1 hj
      have hr := hs.2 _ (nth_mem hj')
      have := H (nth src j).toNat (by omega) (by
        rw [show (((nth src j).toNat : Nat) : Int) = nth src j by omega]
        exact List.contains_iff_mem.2 (nth_mem hj'))
      simpa using this
  rw [hsrc]
  constructor
  · rintro ⟨h1, h2⟩ i hi
    have hi' := List.mem_range.1 hi
    unfold agP
    rw [beq_iff_eq]
    cases hm : hasI src i
    · rw [beq_eq_false_iff_ne]
      intro hx
      -- one more has the state than there are sources
      have hsub : ((List.range n).filter fun (i : Nat) => hasI src i).Sublist ((List.range n).filter fun i => nth (row S i) p == x) := by
        have e : ((List.range n).filter fun (i : Nat) => hasI src i) = ((List.range n).filter fun i => nth (row S i) p == x).filter fun (i : Nat) => hasI src i := by
          rw [List.filter_filter]
          apply List.filter_congr
          intro a ha
          cases hma : hasI src a
          · simp
          · have := h1 a (List.mem_range.1 ha) hma
            simp [this]
        rw [e]
        exact List.filter_sublist
      have heq := hsub.eq_of_length (by rw [← hcount]; unfold hasC at h2; exact h2.symm)
      have hmem : i ∈ (List.range n).filter fun i => nth (row S i) p == x := List.mem_filter.2 ⟨hi, by simpa using hx⟩
      rw [← heq] at hmem
      have := (List.mem_filter.1 hmem).2
      rw [hm] at this
      cases this
    · rw [beq_iff_eq]; exact h1 i hi' hm
  · intro H
    have key : ∀ i, i < n → (nth (row S i) p == x) = hasI src i := fun i hi => by
      have := H i (List.mem_range.2 hi)
      unfold agP at this
      simpa using this
    refine ⟨fun i hi hm => by have := key i hi; rw [hm] at this; simpa using this, ?_⟩
    rw [hcount]
    unfold hasC
    congr 1
    exact List.filter_congr fun i hi => key i (List.mem_range.1 hi)

theorem refshared18_e (a b : Option Addr) (n c k d : Nat) (S : List (List Int)) (src : List Int) (w : World) (h : Rows2 w a n S) (hE : chkS S ≠ 0 ∨ src.length = 0) (hs : Ints w b k src) :
    Calls Try.prog 18 #[.slice a n c, .slice b k d] w (GivesE w [] (shrE S src)) := by
  have H32 := check33 a n c S w h
  by_cases h1 : chkS S = 0
  · rw [h1] at H32
    have h2 : src.length = 0 := hE.resolve_left (fun h => h h1)
    obtain rfl : k = 0 := by rw [← hs.len, h2]
    have he : shrE S src = 5 := by rw [shrE, if_neg (by simp [h1]), if_pos h2]
    rw [he]
    have H32 := Lib.hid H32
    clear he hE h1 h2 h hs
    go_enter Try.func18, Try.ntmps18
    go_wp2_with (fail)
    refine (H32.out).mono ?_
    rintro e w' ⟨rfl, q, rfl⟩
    go_wp2_with (fail)
    go_ret2
    exact ⟨_, _, _, rfl, Sl.nil _ _, bdrewN _ _⟩
  · have he : shrE S src = 1 := by rw [shrE, if_pos h1]
    rw [he]
    have d1 : (chkS S != 0) = true := by simpa using h1
    have H32 := Lib.hid H32
    clear he hE h1 h hs
    go_enter Try.func18, Try.ntmps18
    go_wp2_with (fail)
    refine (H32.out).mono ?_
    rintro e w' ⟨rfl, q, rfl⟩
    go_wp2_with (fail)
    go_ret2
    exact ⟨_, _, _, rfl, Sl.nil _ _, bdrewN _ _⟩

set_option maxRecDepth 100000 in
set_option maxHeartbeats 4000000 in
theorem refshared18_ok (a b : Option Addr) (n c k d m : Nat) (S : List (List Int)) (src : List Int) (w : World) (h : Rows2 w a n S) (hch : chkS S = 0) (ok : OkS S m) (hs : Ints w b k src) (h0 : k ≠ 0) :
    Calls Try.prog 18 #[.slice a n c, .slice b k d] w (GivesE w (if srcF n src k 0 = 0 then memb (shP S src n) m else []) (srcF n src k 0)) := by
  obtain ⟨i0, hi, hz0, hz1, hz2⟩ := info_parts info3
  have H33 := check33 a n c S w h
  rw [hch] at H33
  have H33 := Lib.hid H33
  have HL := Lib.hid h.len
  have HH := Lib.hid h
  have hsm := h.small
  have OK := Lib.hid ok
  have hw := ok.wid
  have hn32 : n ≤ 32 := by rw [← h.len]; exact ok.le
  have hnp : 0 < n := by rw [← h.len]; exact ok.pos
  have HS := Lib.hid hs
  have HSL := Lib.hid hs.len
  have hks := hs.small
  have e0 : ((k : Int) == 0) = false := by rw [beq_eq_false_iff_ne]; omega
  have hpk : 0 < k := by omega
  obtain ⟨R, hR⟩ : ∃ R, srcF n src k 0 = R := ⟨_, rfl⟩
  rw [hR]
  have HR := Lib.hid hR
  obtain ⟨G, hG⟩ : ∃ G, (if R = 0 then memb (shP S src n) m else []) = G := ⟨_, rfl⟩
  rw [hG]
  have HG0 := Lib.hid (show R ≠ 0 → G = [] from fun h => by rw [← hG, if_neg h])
  have HG1 := Lib.hid (show R = 0 → G = memb (shP S src n) m from fun h => by rw [← hG, if_pos h])
  clear hch h ok hs hR h0 hG
  obtain ⟨bs, os, rfl, hcs⟩ := Ints.at HS.out hpk
  have HCS := Lib.hid hcs
  clear hcs
  go_enter Try.func18, Try.ntmps18
  go_wp2_with (fail)
  refine (H33.out).mono ?_
  rintro e w' ⟨rfl, q, rfl⟩
  go_wp2_with (fail)
  go_loopw [6] (fun i wr => ∃ j q : Nat, j ≤ k ∧ i = .int .i64 j ∧ wr = w.drewN q ∧ srcF n src (k - j) j = R) (fun i _ => k - (intOf i).toNat)
  case atStart => exact ⟨0, q, by omega, rfl, rfl, HR.out⟩
  case round =>
    obtain ⟨j, q, hj, rfl, rfl, hch⟩ := hrel
    have HC := Lib.hid hch
    clear hch
    by_cases hlt : j < k
    · have hcell := HCS.out j hlt
      have hcell' : 0 < j → w.cell? ⟨bs, os + (j - 1), none⟩ = some (.int .i64 (nth src (j - 1))) := fun _ => HCS.out _ (by omega)
      obtain ⟨f, hf⟩ : ∃ f, k - j = f + 1 := ⟨k - j - 1, by omega⟩
      have HF := Lib.hid hf
      obtain ⟨x, hx⟩ : ∃ x, nth src j = x := ⟨_, rfl⟩
      obtain ⟨y, hy⟩ : ∃ y, nth src (j - 1) = y := ⟨_, rfl⟩
      rw [hx] at hcell
      rw [hy] at hcell'
      have HX := Lib.hid hx
      have HY := Lib.hid hy
      clear hf hx hy
      by_cases h1 : x < 0
      · have d1 : decide (x < 0) = true := by simpa using h1
        have HN := Lib.hid (show R = 2 by rw [← HC.out, HF.out, srcF_range (by rw [HX.out]; omega)])
        clear hcell'
        go_wp2_with (fail)
        go_ret2
        exact ⟨none, 0, 0, by rw [HN.out] <;> rfl, by rw [HG0.out (by rw [HN.out]; omega)]; exact Sl.nil _ _, bdrewN _ _⟩
      have d1 : decide (x < 0) = false := by simpa using h1
      by_cases h2 : (n : Int) ≤ x
      · have d2 : decide ((n : Int) ≤ x) = true := by simpa using h2
        have HN := Lib.hid (show R = 2 by rw [← HC.out, HF.out, srcF_range (by rw [HX.out]; omega)])
        clear hcell'
        go_wp2_with (fail)
        go_ret2
        exact ⟨none, 0, 0, by rw [HN.out] <;> rfl, by rw [HG0.out (by rw [HN.out]; omega)]; exact Sl.nil _ _, bdrewN _ _⟩
      have d2 : decide ((n : Int) ≤ x) = false := by simpa using h2
      by_cases h3 : 0 < j
      · have hc2 := hcell' h3
        have d3 : decide (0 < (j : Int)) = true := by simp; omega
        have d3' : decide (0 < j) = true := by simpa using h3
        clear hcell'
        by_cases h4 : x ≤ y
        · have d4 : decide (x ≤ y) = true := by simpa using h4
          have HN := Lib.hid (show R = 10 by rw [← HC.out, HF.out, srcF_order (by rw [HX.out]; omega) (by rw [HX.out, HY.out]; omega)])
          go_wp2_with (fail)
          go_quiet (fail)
          go_wp2_with (fail)
          go_ret2
          exact ⟨none, 0, 0, by rw [HN.out] <;> rfl, by rw [HG0.out (by rw [HN.out]; omega)]; exact Sl.nil _ _, by rw [drewN2]; exact bdrewN _ _⟩
        · have d4 : decide (x ≤ y) = false := by simpa using h4
          have HN := Lib.hid (show srcF n src (k - (j + 1)) (j + 1) = R by rw [← HC.out, HF.out, srcF_next (by rw [HX.out]; omega) (by rw [HX.out, HY.out]; omega), show k - (j + 1) = f by have := HF.out; omega])
          go_wp2_with (fail)
          go_quiet (fail)
          go_wp2_with (fail)
          exact ⟨⟨j + 1, _, by omega, by go_num, rfl, HN.out⟩, by simp [intOf]; omega⟩
      · have d3 : decide (0 < (j : Int)) = false := by simp; omega
        have d3' : decide (0 < j) = false := by simpa using h3
        have HN := Lib.hid (show srcF n src (k - (j + 1)) (j + 1) = R by rw [← HC.out, HF.out, srcF_next (by rw [HX.out]; omega) (by omega), show k - (j + 1) = f by have := HF.out; omega])
        clear hcell'
        go_wp2_with (fail)
        go_quiet (fail)
        go_wp2_with (fail)
        exact ⟨⟨j + 1, _, by omega, by go_num, rfl, HN.out⟩, by simp [intOf]; omega⟩
    · have hR0 : R = 0 := by rw [← HC.out, show k - j = 0 by omega]; rfl
      subst hR0
      have HGG := Lib.hid (HG1.out rfl)
      have src_ok : SrcL n src := (srcF_iff n src).1 (by have := HR.out; rw [← HSL.out] at this; exact this)
      have SO := Lib.hid src_ok
      obtain ⟨s0, hs0⟩ : ∃ s0 : Nat, nth src 0 = s0 := ⟨(nth src 0).toNat, by have := src_ok.2 _ (nth_mem (xs := src) (k := 0) (by rw [HSL.out]; exact hpk)); omega⟩
      have hs0n : s0 < n := by have := src_ok.2 _ (nth_mem (xs := src) (k := 0) (by rw [HSL.out]; exact hpk)); omega
      have hcs0 := HCS.out 0 hpk
      rw [hs0, Nat.add_zero] at hcs0
      obtain ⟨b1, o1, rfl, hc1⟩ := Rows2.all HH.out (by omega)
      obtain ⟨a0, n0, c0, hcell0, hI0⟩ := hc1 s0 hs0n
      obtain rfl : m = n0 := by rw [← hI0.len]; exact (OK.out.row_len (by rw [HL.out]; exact hs0n)).symm
      obtain ⟨ar, nr, cr, hcellr, hIr⟩ := hc1 0 hnp
      obtain rfl : m = nr := by rw [← hIr.len]; exact (OK.out.row_len (by rw [HL.out]; exact hnp)).symm
      simp only [Nat.add_zero] at hcellr
      have HC1 := Lib.hid hc1
      have HI0 := Lib.hid hI0
      have HS0 := Lib.hid (show ∀ p, st0 S src p = nth (row S s0) p from fun p => by rw [st0, hs0]; rfl)
      have HCS0 := Lib.hid hcs0
      have HCELL0 := Lib.hid hcell0
      have HCELLR := Lib.hid hcellr
      clear hc1 hI0 src_ok hs0 hIr hcs0 hcell0 hcellr
      go_wp2_with (fail)
      go_loopw [7, 8] (fun v i wr => ∃ p : Nat, p ≤ m ∧ i = .int .i64 p ∧ OwnI 3 wr w.heap.size v (memb (shP S src n) p) ∧ Below w.heap.size w wr) (fun _ i _ => m - (intOf i).toNat)
      case atStart => exact ⟨0, by omega, rfl, OwnI.empty 3 (w.drewN q) (Nat.le_refl _), bstep (bdrewN w q) (balloc _ _)⟩
      case round =>
        obtain ⟨p, hp, rfl, ho, hb⟩ := hrel
        have HO := Lib.hid ho
        have HB := Lib.hid hb
        have hsz := hb.size
        have hml := memb_len (shP S src n) p
        have hcs0 := cell_keep hb HCS0.out
        have hcell0 := cell_keep hb HCELL0.out
        have hcellr := cell_keep hb HCELLR.out
        by_cases hpl : p < m
        · obtain ⟨b3, o3, rfl, hc3⟩ := Ints.at (HI0.out.mono (Nat.le_refl _) hb) (by omega)
          have hcell3 := hc3 p hpl
          obtain ⟨x, hx⟩ : ∃ x, nth (row S s0) p = x := ⟨_, rfl⟩
          rw [hx] at hcell3
          have HSX := Lib.hid (show shP S src n p = (decide (0 ≤ x) && (srcA S src p x k && (hasC S p x n == k))) by
            rw [shP, HS0.out, hx, ← shared_same SO.out, HSL.out])
          clear hc3 hx hb ho
          go_wp2_with (fail)
          obtain ⟨wo, rfl⟩ : ∃ wo, wo = wr := ⟨_, rfl⟩
          go_loop [10, 11] (fun hv i => ∃ i' : Nat, i' ≤ n ∧ i = .int .i64 i' ∧ hv = .int .i64 (hasC S p x i' : Nat)) (fun _ i => n - (intOf i).toNat)
          case atStart => exact ⟨0, by omega, rfl, rfl⟩
          case round =>
            obtain ⟨i', hi', rfl, rfl⟩ := hrel
            have hcl := hasC_le S p x i'
            by_cases hil : i' < n
            · obtain ⟨a4, n4, c4, hcell4, hI4⟩ := HC1.out i' hil
              obtain rfl : m = n4 := by rw [← hI4.len]; exact (OK.out.row_len (by rw [HL.out]; exact hil)).symm
              have hcl4 := cell_keep HB.out hcell4
              obtain ⟨b5, o5, rfl, hc5⟩ := Ints.at (hI4.mono (Nat.le_refl _) HB.out) (by omega)
              have hcell5 := hc5 p hpl
              have HY := Lib.hid (hasC_yes (S := S) (p := p) (k := i') (x := x))
              have HN := Lib.hid (hasC_no (S := S) (p := p) (k := i') (x := x))
              generalize nth (row S i') p = y at *
              clear hcell4 hI4 hc5
              by_cases hyx : y = x
              · have e1 : (y == x) = true := by simpa using hyx
                have HS2 := Lib.hid (HY.out hyx)
                clear hyx
                go_wp2_with (fail)
                go_round
                case rel => exact ⟨i' + 1, by omega, by go_num, by rw [HS2.out]; go_num⟩
                case measure => simp [intOf]; omega
              · have e1 : (y == x) = false := by simpa using hyx
                have HS2 := Lib.hid (HN.out hyx)
                clear hyx
                go_wp2_with (fail)
                go_round
                case rel => exact ⟨i' + 1, by omega, by go_num, by rw [HS2.out]⟩
                case measure => simp [intOf]; omega
            · obtain rfl : n = i' := by omega
              generalize hasC S p x n = hn at *
              obtain ⟨A0, hA0⟩ : ∃ A0, decide (0 ≤ x) = A0 := ⟨_, rfl⟩
              rw [hA0] at HSX
              go_wp2_with (fail)
              go_loop [12, 13] (fun av i => ∃ j : Nat, j ≤ k ∧ i = .int .i64 j ∧ av = .bool (A0 && srcA S src p x j)) (fun _ i => k - (intOf i).toNat)
              case atStart => exact ⟨0, by omega, rfl, by simp [srcA]⟩
              case round =>
                obtain ⟨j, hj, rfl, rfl⟩ := hrel
                by_cases hjl : j < k
                · have hsrc := SO.out.2 _ (nth_mem (xs := src) (k := j) (by rw [HSL.out]; exact hjl))
                  obtain ⟨sj, hsj⟩ : ∃ sj : Nat, nth src j = sj := ⟨(nth src j).toNat, by omega⟩
                  have hsjn : sj < n := by omega
                  obtain ⟨a4, n4, c4, hcell4, hI4⟩ := HC1.out sj hsjn
                  obtain rfl : m = n4 := by rw [← hI4.len]; exact (OK.out.row_len (by rw [HL.out]; exact hsjn)).symm
                  have hcl4 := cell_keep HB.out hcell4
                  obtain ⟨b5, o5, rfl, hc5⟩ := Ints.at (hI4.mono (Nat.le_refl _) HB.out) (by omega)
                  have hcell5 := hc5 p hpl
                  have hcsj := cell_keep HB.out (HCS.out j hjl)
                  rw [hsj] at hcsj
                  have HSU := Lib.hid (show srcA S src p x (j + 1) = (srcA S src p x j && (nth (row S sj) p == x)) by rw [srcA_succ, hsj, Int.toNat_natCast])
                  generalize nth (row S sj) p = y at *
                  clear hcell4 hI4 hc5 hsrc hsj hA0
                  generalize hA : (A0 && srcA S src p x j) = A at *
                  have HN := Lib.hid (show (A0 && srcA S src p x (j + 1)) = (A && (y == x)) by rw [HSU.out, ← Bool.and_assoc, hA])
                  clear hA
                  cases A
                  · have HN2 := Lib.hid (show (A0 && srcA S src p x (j + 1)) = false by rw [HN.out]; rfl)
                    go_wp2_with (fail)
                    go_round
                    case rel => exact ⟨j + 1, by omega, by go_num, by rw [HN2.out]⟩
                    case measure => simp [intOf]; omega
                  · have HN2 := Lib.hid (show (A0 && srcA S src p x (j + 1)) = (y == x) by rw [HN.out, Bool.true_and])
                    go_wp2_with (fail)
                    go_round
                    case rel => exact ⟨j + 1, by omega, by go_num, by rw [HN2.out]⟩
                    case measure => simp [intOf]; omega
                · obtain rfl : k = j := by omega
                  have HSP := Lib.hid (show shP S src n p = ((A0 && srcA S src p x k) && (hn == k)) by rw [HSX.out, Bool.and_assoc])
                  clear hA0
                  generalize hA : (A0 && srcA S src p x k) = A at *
                  clear hA
                  by_cases hhk : hn = k
                  · have e1 : ((hn : Int) == k) = true := by rw [beq_iff_eq]; omega
                    have HSP2 := Lib.hid (show shP S src n p = A by rw [HSP.out, show (hn == k) = true by simpa using hhk, Bool.and_true])
                    clear hhk
                    cases A
                    · have HM := Lib.hid (memb_no HSP2.out)
                      go_wp2_with (fail)
                      go_roundw
                      case rel => exact ⟨p + 1, by omega, by go_num, by rw [HM.out]; exact HO.out, HB.out⟩
                      case measure => simp [intOf]; omega
                    · have HM := Lib.hid (memb_yes HSP2.out)
                      go_wp2_with (at_builtin; refine wpList_append_own _ rfl _ _ 23 rfl w.heap.size 3 i0 (.int .i64 0) 1 8 Try.underlying23 hi hz0 hz1 hz2 rfl (by decide) _ _ _ rfl (HO.out.1.alloc _) ⟨wo.heap.size, 0, none⟩ 1 1 [.int .i64 p] rfl rfl (cell_one_new _ _ _) (by simp [Value.oneCell']) (by unfold maxLen; omega) (by omega) (by simp; omega) ?_; intro v1 w4 hown1 hgrow1 _; have HO2 := Lib.hid hown1; have HG := Lib.hid hgrow1; clear hown1 hgrow1)
                      have hpp := HO.out.pushed (x := p) ⟨by omega, by omega⟩ hsz HO2.out HG.out
                      go_roundw
                      case rel => exact ⟨p + 1, by omega, by go_num, by rw [HM.out]; exact hpp.1, HB.out.trans hpp.2⟩
                      case measure => simp [intOf]; omega
                  · have e1 : ((hn : Int) == k) = false := by rw [beq_eq_false_iff_ne]; omega
                    have HM := Lib.hid (memb_no (show shP S src n p = false by rw [HSP.out, show (hn == k) = false by simpa using hhk, Bool.and_false]))
                    clear hhk
                    cases A
                    · go_wp2_with (fail)
                      go_roundw
                      case rel => exact ⟨p + 1, by omega, by go_num, by rw [HM.out]; exact HO.out, HB.out⟩
                      case measure => simp [intOf]; omega
                    · go_wp2_with (fail)
                      go_roundw
                      case rel => exact ⟨p + 1, by omega, by go_num, by rw [HM.out]; exact HO.out, HB.out⟩
                      case measure => simp [intOf]; omega
        · obtain rfl : m = p := by omega
          obtain ⟨a9, c9, rfl, hI9⟩ := OwnI.ints HO.out (by omega)
          have HI9 := Lib.hid hI9
          clear hI9
          go_wp2_with (fail)
          go_ret2
          exact ⟨_, _, _, rfl, by rw [HGG.out]; exact HI9.out, HB.out⟩

theorem refshared18 (a b : Option Addr) (n c k d : Nat) (S : List (List Int)) (src : List Int) (w : World) (h : Rows2 w a n S) (hs : Ints w b k src) :
    Calls Try.prog 18 #[.slice a n c, .slice b k d] w (GivesE w (shrL S src) (shrE S src)) := by
  by_cases hE : chkS S ≠ 0 ∨ src.length = 0
  · have he : shrE S src ≠ 0 := fun h => by
      obtain ⟨h1, h2, _⟩ := shrE_zero h
      rcases hE with h | h
      · exact h h1
      · exact h2 h
    rw [shrL, if_neg he]
    exact refshared18_e a b n c k d S src w h hE hs
  · have h1 : chkS S = 0 := Classical.byContradiction fun h => hE (.inl h)
    have h2 : src.length ≠ 0 := fun h => hE (.inr h)
    have he : shrE S src = srcF n src k 0 := by rw [shrE, if_neg (by simp [h1]), if_neg h2, h.len, hs.len]
    rw [shrL, he, h.len]
    exact refshared18_ok a b n c k d _ S src w h h1 (chkS_ok h1) hs (by rw [← hs.len]; exact h2)

end Go.Proofs.Ytbcnbchpcbglhaa
