/-
  The walk of the law's function 40: the reference's Partition gives what the program's gives.
-/
import Derived.Test.YtcmckcmckbdmhaaL8
import Derived.Deep.OwnRows
namespace Go.Proofs.Ytcmckcmckbdmhaa
open Go.RowKit Go.Ap Go.Shelf

def zero64 : Array Value := ((List.replicate 64 (0 : Int)).map (Value.int .i64)).toArray
theorem made64 : (madeCells #[Value.int .i64 0] 64) = zero64 := by kernel_rfl

set_option maxRecDepth 100000 in
set_option maxHeartbeats 4000000 in
theorem refpart40_ok (b : Option Addr) (m d N : Nat) (xss : List (List Int)) (w : World) (hx : Rows2 w b m xss) (hN : N ≤ 64) (hm : m ≤ 1000) (sx : (xss.any fun xs => chk xs != 0) = false) :
    Calls Try.prog 40 #[.int .i64 N, .slice b m d] w fun e w' => e = .returned (.tuple #[.bool (partB N xss), .int .i64 0]) ∧ Below w.heap.size w w' := by
  obtain ⟨i0, hi, hz0, hz1, hz2⟩ := info_parts info3
  have HX := Lib.hid hx
  have HXL := Lib.hid hx.len
  have SX := Lib.hid (show ∀ xs ∈ xss, SetL xs from fun xs hxs => (chk_iff xs).1 (by
    have := List.any_eq_false.1 sx xs hxs
    simpa using this))
  have d1 : decide ((N : Int) < 0) = false := by simp
  have d2 : decide (64 < (N : Int)) = false := by simp; omega
  have hmk : ∀ w, (Instr.makeSlice 22 (.int .i64 64) (.int .i64 64)).run Try.prog w = .ok (.slice (some ⟨w.heap.size, 0, none⟩) 64 64) (w.alloc (.cells zero64 3)) := fun w => by
    have h := run_make_row (P := Try.prog) 22 3 i0 (.int .i64 0) Try.underlying22 hi hz0 hz1 rfl .i64 .i64 64 (by rw [hz2]; omega) (by omega) w
    rw [made64] at h
    exact h
  generalize hR : partB N xss = R
  have HR := Lib.hid hR
  clear hx sx hR
  go_enter Try.func40, Try.ntmps40
  go_wp2_with (fail)
  go_loopw [6] (fun i wr => ∃ k q : Nat, k ≤ m ∧ i = .int .i64 k ∧ wr = w.drewN q) (fun i _ => m - (intOf i).toNat)
  case atStart => exact ⟨0, 0, by omega, rfl, rfl⟩
  case round =>
  obtain ⟨k, q, hk, rfl, rfl⟩ := hrel
  by_cases hlt : k < m
  · have hx1 := HX.out
    obtain ⟨xs, b2, o2, v2, hxs, rfl, hc2, a3, n3, c3, rfl, hI3⟩ := Sl.at hx1 hlt
    have h2 : (chk xs != 0) = false := by simpa using chk_setL (SX.out xs (List.mem_of_getElem? hxs))
    have H2 := Lib.hid (refcheck_any a3 n3 c3 xs (w.drewN q) hI3.drewN)
    clear hxs hI3 hx1
    go_wp2_with (fail)
    refine (H2.out).mono ?_
    rintro e w' ⟨rfl, r, rfl⟩
    go_wp2_with (fail)
    exact ⟨⟨k + 1, _, by omega, by go_num, rfl⟩, by simp [intOf]; omega⟩
  obtain rfl : m = k := by omega
  clear hlt hk
  go_wp2_with (fail)
  obtain ⟨W0, hW0⟩ : ∃ W0, (w.drewN q).alloc (.cells zero64 3) = W0 := ⟨_, rfl⟩
  have hA0 : Arr W0 w.heap.size 3 (List.replicate 64 0) := by rw [← hW0]; exact heap_fresh (by simp [World.drewN])
  have hb0 : Below w.heap.size w W0 := by rw [← hW0]; exact bstep (bdrewN _ _) (balloc _ _)
  rw [hW0]
  clear hmk
  generalize hBB : w.heap.size = B at hA0 ⊢
  have HBB := Lib.hid hBB
  have HA0 := Lib.hid hA0
  have HB0 := Lib.hid hb0
  clear hW0 hA0 hb0 hBB
  go_loopw [8] (fun i wr => ∃ (k : Nat) (C : List Int), k ≤ m ∧ i = .int .i64 k ∧ Arr wr B 3 C ∧ C.length = 64 ∧ Cnt C (xss.take k).flatten ∧ Below w.heap.size w wr ∧ ((xss.take k).any fun xs => xs.length == 0) = false) (fun i _ => m - (intOf i).toNat)
  case atStart => exact ⟨0, _, by omega, rfl, HA0.out, by simp, Cnt.zero, HB0.out, rfl⟩
  case round =>
    obtain ⟨k, C, hk, rfl, hA, hC, hcnt, hb, hne⟩ := hrel
    have HA := Lib.hid hA
    have HC := Lib.hid hC
    have HCN := Lib.hid hcnt
    have HB := Lib.hid hb
    have HNE := Lib.hid hne
    clear hA hC hcnt hb hne
    by_cases hlt : k < m
    · obtain ⟨xs, b2, o2, v2, hxs, rfl, hc2, a3, n3, c3, rfl, hI3⟩ := Sl.at HX.out hlt
      have hcw : wr.cell? ⟨b2, o2 + k, none⟩ = some (.slice a3 n3 c3) := (HB.out.cell (p := ⟨b2, o2 + k, none⟩) (World.block_lt_of_cell? w _ hc2)).trans hc2
      have hmem := List.mem_of_getElem? hxs
      have sxs := SX.out xs hmem
      have ht : xss.take (k + 1) = xss.take k ++ [xs] := by
        have hkl : k < xss.length := by rw [HXL.out]; exact hlt
        rw [List.take_succ_eq_append_getElem hkl]
        rw [List.getElem?_eq_getElem hkl] at hxs
        cases hxs
        rfl
      have HT := Lib.hid ht
      have HI3 := Lib.hid hI3
      have HL3 := Lib.hid hI3.len
      have SXS := Lib.hid sxs
      have HMEM := Lib.hid hmem
      have HC2 := Lib.hid hc2
      have LT2 := World.block_lt_of_cell? w _ hc2
      clear hxs hmem sxs ht hI3 hc2
      by_cases h0 : n3 = 0
      · subst h0
        have HRF := Lib.hid (show R = false by
          rw [← HR.out, partB]
          rw [show (xss.any fun xs => xs.length == 0) = true from List.any_eq_true.2 ⟨xs, HMEM.out, by rw [HL3.out]; rfl⟩]
          rfl)
        go_wp2_with (fail)
        go_ret2
        exact ⟨by rw [HRF.out]; rfl, HB.out⟩
      · have hb0 : ((n3 : Int) == 0) = false := by rw [beq_eq_false_iff_ne]; omega
        have hs3 := HI3.out.small
        have hfl : (xss.take k).flatten.length ≤ 64 * 1000 := by
          have h1 := flat_len (xss.take k) (fun ys hy => SX.out ys (List.mem_of_mem_take hy))
          have h2 := List.length_take_le k xss
          omega
        have h64 : n3 ≤ 64 := by rw [← HL3.out]; exact setL_len SXS.out
        go_wp2_with (fail)
        obtain ⟨wo, rfl⟩ : ∃ wo, wo = wr := ⟨_, rfl⟩
        go_loopw [9] (fun i wi => ∃ (j : Nat) (D : List Int), j ≤ n3 ∧ i = .int .i64 j ∧ Arr wi B 3 D ∧ D.length = 64 ∧ Cnt D ((xss.take k).flatten ++ xs.take j) ∧ Below w.heap.size w wi) (fun i _ => n3 - (intOf i).toNat)
        case atStart => exact ⟨0, C, by omega, rfl, HA.out, HC.out, by simpa using HCN.out, HB.out⟩
        case round =>
          obtain ⟨j, D, hj, rfl, hD, hDl, hcnt, hbi⟩ := hrel
          have HD := Lib.hid hD
          have HDL := Lib.hid hDl
          have HDC := Lib.hid hcnt
          have HBI := Lib.hid hbi
          have hI := Ints.mono HI3.out (Nat.le_refl _) hbi
          have hcwi := (hbi.cell (p := ⟨b2, o2 + k, none⟩) LT2).trans HC2.out
          clear hD hDl hcnt hbi
          by_cases hjl : j < n3
          · have hjx : j < xs.length := by rw [HL3.out]; exact hjl
            have hx := SXS.out.2 _ (nth_mem hjx)
            obtain ⟨x, hxe⟩ : ∃ x : Nat, nth xs j = x := ⟨(nth xs j).toNat, by omega⟩
            have hx64 : x < 64 := by omega
            obtain ⟨b4, o4, rfl, hc4⟩ := Ints.at hI (by omega)
            have hcell0 := hc4 j hjl
            rw [hxe] at hcell0
            have HTJ := Lib.hid (show xs.take (j + 1) = xs.take j ++ [(x : Int)] by rw [take_nth hjx, hxe])
            have hct := HDC.out x hx64
            have hcl : (nth D x) ≤ 64 * 1000 + 64 := by
              rw [hct]
              have h1 := List.count_le_length (a := (x : Int)) (l := (xss.take k).flatten ++ xs.take j)
              have h2 := List.length_take_le j xs
              rw [List.length_append] at h1
              omega
            have hcl0 : 0 ≤ nth D x := by rw [hct]; omega
            have hcellD := HD.out.cell (k := x) (by rw [HDL.out]; exact hx64)
            have hfreeD := HD.out.free x
            have HSET := Lib.hid (HD.out.set x (nth D x + 1))
            have HSC := Lib.hid (HDC.out.step hx64 HDL.out)
            have HSB := Lib.hid (HBI.out.setCell (p := ⟨B, x, none⟩) (show w.heap.size ≤ B by rw [HBB.out]; exact Nat.le_refl _) (.int .i64 (nth D x + 1)))
            clear hc4 hx hxe hct hI hjx
            go_wp2_with (fail)
            exact ⟨⟨j + 1, _, by omega, by go_num, HSET.out, by rw [List.length_set]; exact HDL.out, by rw [HTJ.out, ← List.append_assoc]; exact HSC.out, HSB.out⟩, by simp [intOf]; omega⟩
          · have HE := Lib.hid (show xs.take j = xs from List.take_of_length_le (by rw [HL3.out]; omega))
            go_wp2_with (fail)
            exact ⟨⟨k + 1, _, by omega, by go_num, HD.out, HDL.out, by rw [HT.out, List.flatten_append]; simpa [HE.out] using HDC.out, HBI.out, by rw [HT.out, List.any_append, HNE.out]; simp [HL3.out, h0]⟩, by simp [intOf]; omega⟩
    · have HE := Lib.hid (show xss.take k = xss from List.take_of_length_le (by rw [HXL.out]; omega))
      have hall : (List.range' 0 64).all (okP N xss.flatten) = R := by
        have := HNE.out
        rw [HE.out] at this
        rw [← HR.out, partB, this]; rfl
      have HALL := Lib.hid hall
      clear hall
      have hcnt := HCN.out
      rw [HE.out] at hcnt
      have HCNT := Lib.hid hcnt
      clear hcnt
      go_wp2_with (fail)
      go_loop [10] (fun i => ∃ j : Nat, j ≤ 64 ∧ i = .int .i64 j ∧ (List.range' j (64 - j)).all (okP N xss.flatten) = R) (fun i => 64 - (intOf i).toNat)
      case atStart => exact ⟨0, by omega, rfl, HALL.out⟩
      case round =>
        obtain ⟨j, hj, rfl, hrest⟩ := hrel
        have HRE := Lib.hid hrest
        clear hrest
        by_cases hj64 : j < 64
        · obtain ⟨cn, hcn⟩ : ∃ cn : Nat, xss.flatten.count (j : Int) = cn := ⟨_, rfl⟩
          have hnc : nth C j = cn := by rw [HCNT.out j hj64, hcn]
          have hidx : wr.cell? ⟨B, j, none⟩ = some (.int .i64 cn) := by rw [HA.out.cell (k := j) (by rw [HC.out]; exact hj64), hnc]
          have hstep : (List.range' j (64 - j)).all (okP N xss.flatten) = (okP N xss.flatten j && (List.range' (j + 1) (64 - (j + 1))).all (okP N xss.flatten)) := by
            rw [show 64 - j = (64 - (j + 1)) + 1 by omega, List.range'_succ, List.all_cons]
          have HST := Lib.hid hstep
          have HCE := Lib.hid hcn
          clear hcn hnc hstep
          by_cases hjN : j < N
          · have dN : decide ((j : Int) < (N : Int)) = true := by simp; omega
            have dN' : decide (j < N) = true := by simpa using hjN
            have dM : decide ((N : Int) ≤ (j : Int)) = false := by simp; omega
            have dM' : decide (N ≤ j) = false := by simp; omega
            by_cases hc1 : cn = 1
            · subst hc1
              have HNX := Lib.hid (show (List.range' (j + 1) (64 - (j + 1))).all (okP N xss.flatten) = R by
                rw [← HRE.out, HST.out, okP, if_pos hjN, HCE.out]; rfl)
              go_wp2_with (fail)
              exact ⟨⟨j + 1, by omega, by go_num, HNX.out⟩, by simp [intOf]; omega⟩
            · have hb : ((cn : Int) != 1) = true := by rw [bne_iff_ne]; omega
              have HF := Lib.hid (show R = false by
                rw [← HRE.out, HST.out, okP, if_pos hjN, HCE.out, show (cn == 1) = false by simpa using hc1]; rfl)
              go_wp2_with (fail)
              go_ret2
              exact ⟨by rw [HF.out]; rfl, HB.out⟩
          · have dN : decide ((j : Int) < (N : Int)) = false := by simp; omega
            have dN' : decide (j < N) = false := by simpa using hjN
            have dM : decide ((N : Int) ≤ (j : Int)) = true := by simp; omega
            have dM' : decide (N ≤ j) = true := by simp; omega
            by_cases hc0 : cn = 0
            · subst hc0
              have HNX := Lib.hid (show (List.range' (j + 1) (64 - (j + 1))).all (okP N xss.flatten) = R by
                rw [← HRE.out, HST.out, okP, if_neg hjN, HCE.out]; rfl)
              go_wp2_with (fail)
              exact ⟨⟨j + 1, by omega, by go_num, HNX.out⟩, by simp [intOf]; omega⟩
            · have hb : ((cn : Int) != 0) = true := by simp; omega
              have hb' : decide (0 < cn) = true := by simp; omega
              have HF := Lib.hid (show R = false by
                rw [← HRE.out, HST.out, okP, if_neg hjN, HCE.out, show (cn == 0) = false by simpa using hc0]; rfl)
              go_wp2_with (fail)
              go_ret2
              exact ⟨by rw [HF.out]; rfl, HB.out⟩
        · have HT := Lib.hid (show R = true by rw [← HRE.out, show 64 - j = 0 by omega]; rfl)
          go_wp2_with (fail)
          go_ret2
          exact ⟨by rw [HT.out]; rfl, HB.out⟩


end Go.Proofs.Ytcmckcmckbdmhaa
