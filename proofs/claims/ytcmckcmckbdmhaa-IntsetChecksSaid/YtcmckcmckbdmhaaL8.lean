import Derived.Test.YtcmckcmckbdmhaaW30
namespace Go.Proofs.Ytcmckcmckbdmhaa
open Go.RowKit Go.Ap Go.Shelf

theorem setL_count {xs : List Int} (h : SetL xs) (x : Int) : xs.count x = if hasI xs x = true then 1 else 0 := by
  have nd : xs.Nodup := h.1.imp (fun h => by omega)
  by_cases hx : x ∈ xs
  · rw [if_pos (by rw [hasI]; exact List.contains_iff_mem.2 hx)]
    have h1 := List.nodup_iff_count.1 nd x
    have h2 := List.count_pos_iff.2 hx
    omega
  · rw [if_neg (by rw [hasI]; exact fun h => hx (List.contains_iff_mem.1 h)), List.count_eq_zero.2 hx]
theorem flat_count (x : Int) : ∀ (xss : List (List Int)), (∀ xs ∈ xss, SetL xs) → xss.flatten.count x = xss.countP (fun xs => hasI xs x)
  | [], _ => rfl
  | xs :: xss, h => by
    rw [List.flatten_cons, List.count_append, flat_count x xss (fun ys hy => h ys (List.mem_cons_of_mem _ hy)), setL_count (h xs (List.mem_cons_self ..)), List.countP_cons]
    omega

theorem greatL_no {xss : List (List Int)} (h : greatL xss = false) : xss.length ≤ 20 := by
  simp only [greatL, Bool.or_eq_false_iff, decide_eq_false_iff_not] at h
  omega

set_option maxRecDepth 100000 in
set_option maxHeartbeats 4000000 in
theorem law8_fine (b : Option Addr) (m d : Nat) (z : Int) (xss : List (List Int)) (w : World) (hz : 0 ≤ z ∧ z ≤ 255) (hx : Rows2 w b m xss) (hg : greatL xss = false) (hf : xss.any bad1 = false) :
    Calls Try.prog 8 #[.int .u8 z, .slice b m d] w fun e w' => e = .returned (.bool true) ∧ Below w.heap.size w w' := by
  have HX := Lib.hid hx
  have HXL := Lib.hid hx.len
  have hm20 := greatL_no hg
  rw [hx.len] at hm20
  have SX := Lib.hid (show ∀ xs ∈ xss, SetL xs from fun xs hxs => (bad1_no (by
    have := List.any_eq_false.1 hf xs hxs
    simpa using this)).2)
  have H21 := great21 b m d xss w hx
  rw [hg] at H21
  have H11 := fine11 b m d xss w hx
  rw [hf] at H11
  have H21 := Lib.hid H21
  have H11 := Lib.hid H11
  have hz0 := hz.1
  have hz1 := hz.2
  clear hx hg hf hz
  go_enter Try.func8, Try.ntmps8
  go_wp2_with (fail)
  refine (H21.out).mono ?_
  rintro e w' ⟨rfl, rfl⟩
  go_wp2_with (fail)
  refine (H11.out).mono ?_
  rintro e w' ⟨rfl, q, rfl⟩
  go_wp2_with (fail)
  obtain ⟨K, hK⟩ : ∃ K : Nat, z % 65 = K := ⟨(z % 65).toNat, by omega⟩
  have hK64 : K ≤ 64 := by omega
  rw [hK]
  have h30 := part30_ok b m d K xss (w.drewN q) HX.out.drewN hK64 (by omega) (by
    rw [List.any_eq_false]
    intro xs hxs
    simpa using chk_setL (SX.out xs hxs))
  refine h30.mono ?_
  clear h30 hK
  rintro e w1 ⟨rfl, k1⟩
  have kb1 := Lib.hid (bstep (bdrewN w q) k1)
  generalize hPB : partB K xss = PB
  have HPB := Lib.hid hPB
  have HX1 := Lib.hid (HX.out.mono (Nat.le_refl _) kb1.out)
  clear k1 hPB
  go_wp2_with (fail)
  go_loop [8, 32] (fun wv i => ∃ (j : Nat) (bv : Bool), j ≤ 64 ∧ i = .int .i64 j ∧ wv = .bool bv ∧ (List.range' 0 j).all (okP K xss.flatten) = bv) (fun _ i => 64 - (intOf i).toNat)
  case atStart => exact ⟨0, true, by omega, rfl, rfl, rfl⟩
  case round =>
    obtain ⟨j, bv, hj, rfl, rfl, hbv⟩ := hrel
    have HBV := Lib.hid hbv
    clear hbv
    by_cases hj64 : j < 64
    · have HNX := Lib.hid (show (List.range' 0 (j + 1)).all (okP K xss.flatten) = ((List.range' 0 j).all (okP K xss.flatten) && okP K xss.flatten j) by
        rw [List.range'_concat, List.all_append]; simp)
      go_wp2_with (fail)
      go_loop [10, 37] (fun cv i => ∃ (t c : Nat), t ≤ m ∧ i = .int .i64 t ∧ cv = .int .i64 c ∧ (xss.take t).countP (fun xs => hasI xs j) = c) (fun _ i => m - (intOf i).toNat)
      case atStart => exact ⟨0, 0, by omega, rfl, rfl, rfl⟩
      case round =>
        obtain ⟨t, c, ht, rfl, rfl, hcp⟩ := hrel
        have HCP := Lib.hid hcp
        have hcle : c ≤ t := by rw [← hcp]; exact Nat.le_trans List.countP_le_length (List.length_take_le _ _)
        clear hcp
        by_cases htm : t < m
        · obtain ⟨xs, b2, o2, v2, hxs, rfl, hc2, a3, n3, c3, rfl, hI3⟩ := Sl.at HX1.out htm
          have hstep : (xss.take (t + 1)).countP (fun xs => hasI xs j) = (xss.take t).countP (fun xs => hasI xs j) + if hasI xs j = true then 1 else 0 := by
            have hkl : t < xss.length := by rw [HXL.out]; exact htm
            rw [List.take_succ_eq_append_getElem hkl, List.countP_append]
            rw [List.getElem?_eq_getElem hkl] at hxs
            cases hxs
            simp [List.countP_cons]
          have HS := Lib.hid hstep
          have H29 := contains29h a3 n3 c3 xs j w1 hI3
          clear hxs hstep hI3
          cases hh : hasI xs j
          · rw [hh] at H29
            have HN := Lib.hid (show (xss.take (t + 1)).countP (fun xs => hasI xs j) = c by rw [HS.out, hh, HCP.out]; rfl)
            have H29 := Lib.hid H29
            clear hh
            go_wp2_with (fail)
            refine (H29.out).mono ?_
            rintro e w' ⟨rfl, rfl⟩
            go_wp2_with (fail)
            exact ⟨⟨t + 1, c, by omega, by go_num, rfl, HN.out⟩, by simp [intOf]; omega⟩
          · rw [hh] at H29
            have HN := Lib.hid (show (xss.take (t + 1)).countP (fun xs => hasI xs j) = c + 1 by rw [HS.out, hh, HCP.out]; rfl)
            have H29 := Lib.hid H29
            clear hh
            go_wp2_with (fail)
            refine (H29.out).mono ?_
            rintro e w' ⟨rfl, rfl⟩
            go_wp2_with (fail)
            exact ⟨⟨t + 1, c + 1, by omega, by go_num, by go_num, HN.out⟩, by simp [intOf]; omega⟩
        · have HCT := Lib.hid (show xss.flatten.count (j : Int) = c by
            rw [flat_count _ _ SX.out, ← HCP.out, List.take_of_length_le (by rw [HXL.out]; omega)])
          have hd : decide ((j : Int) < (K : Int)) = decide (j < K) := by rw [decide_eq_decide]; omega
          have hd2 : decide ((K : Int) ≤ (j : Int)) = decide (K ≤ j) := by rw [decide_eq_decide]; omega
          have close : ∀ r : Bool, okP K xss.flatten j = r → (List.range' 0 (j + 1)).all (okP K xss.flatten) = (bv && r) := fun r hr => by rw [HNX.out, HBV.out, hr]
          have CL := Lib.hid close
          clear close
          by_cases hjK : j < K
          · have d1 : decide (j < K) = true := by simpa using hjK
            by_cases hc1 : c = 1
            · have HO := Lib.hid (CL.out true (by rw [okP, if_pos hjK, HCT.out, hc1]; rfl))
              subst hc1
              cases bv <;> (
                go_wp2_with (fail)
                exact ⟨⟨j + 1, _, by omega, by go_num, rfl, HO.out⟩, by simp [intOf]; omega⟩)
            · have HO := Lib.hid (CL.out false (by rw [okP, if_pos hjK, HCT.out]; simpa using hc1))
              have e1 : ((c : Int) == 1) = false := by rw [beq_eq_false_iff_ne]; omega
              have d3 : decide (K ≤ j) = false := by simp; omega
              cases bv <;> (
                go_wp2_with (fail)
                exact ⟨⟨j + 1, _, by omega, by go_num, rfl, HO.out⟩, by simp [intOf]; omega⟩)
          · have d1 : decide (j < K) = false := by simpa using hjK
            have d3 : decide (K ≤ j) = true := by simp; omega
            by_cases hc0 : c = 0
            · have HO := Lib.hid (CL.out true (by rw [okP, if_neg hjK, HCT.out, hc0]; rfl))
              subst hc0
              cases bv <;> (
                go_wp2_with (fail)
                exact ⟨⟨j + 1, _, by omega, by go_num, rfl, HO.out⟩, by simp [intOf]; omega⟩)
            · have HO := Lib.hid (CL.out false (by rw [okP, if_neg hjK, HCT.out]; simpa using hc0))
              have e1 : ((c : Int) == 0) = false := by rw [beq_eq_false_iff_ne]; omega
              cases bv <;> (
                go_wp2_with (fail)
                exact ⟨⟨j + 1, _, by omega, by go_num, rfl, HO.out⟩, by simp [intOf]; omega⟩)
    · obtain rfl : j = 64 := by omega
      go_wp2_with (fail)
      go_loop [8, 69] (fun wv i => ∃ (t : Nat) (cv : Bool), t ≤ m ∧ i = .int .i64 t ∧ wv = .bool cv ∧ (bv && !((xss.take t).any fun xs => xs.length == 0)) = cv) (fun _ i => m - (intOf i).toNat)
      case atStart => exact ⟨0, bv, by omega, rfl, rfl, by simp⟩
      case round =>
        obtain ⟨t, cv, ht, rfl, rfl, hcv⟩ := hrel
        have HCV := Lib.hid hcv
        clear hcv
        by_cases htm : t < m
        · obtain ⟨xs, b2, o2, v2, hxs, rfl, hc2, a3, n3, c3, rfl, hI3⟩ := Sl.at HX1.out htm
          have hstep : ((xss.take (t + 1)).any fun xs => xs.length == 0) = (((xss.take t).any fun xs => xs.length == 0) || n3 == 0) := by
            have hkl : t < xss.length := by rw [HXL.out]; exact htm
            rw [List.take_succ_eq_append_getElem hkl, List.any_append]
            rw [List.getElem?_eq_getElem hkl] at hxs
            cases hxs
            simp [hI3.len]
          have HS := Lib.hid (show (bv && !((xss.take (t + 1)).any fun xs => xs.length == 0)) = (cv && !(n3 == 0)) by
            rw [hstep, Bool.not_or, ← Bool.and_assoc, HCV.out])
          have hs3 := hI3.small
          clear hxs hstep hI3
          by_cases h0 : n3 = 0
          · have HO := Lib.hid (show (bv && !((xss.take (t + 1)).any fun xs => xs.length == 0)) = false by rw [HS.out, h0]; simp)
            subst h0
            cases cv <;> (
              go_wp2_with (fail)
              exact ⟨⟨t + 1, _, by omega, by go_num, rfl, HO.out⟩, by simp [intOf]; omega⟩)
          · have HO := Lib.hid (show (bv && !((xss.take (t + 1)).any fun xs => xs.length == 0)) = cv by rw [HS.out, show (n3 == 0) = false by simpa using h0]; simp)
            have d1 : decide (0 < (n3 : Int)) = true := by simp; omega
            have d1' : decide (0 < n3) = true := by simp; omega
            cases cv <;> (
              go_wp2_with (fail)
              exact ⟨⟨t + 1, _, by omega, by go_num, rfl, HO.out⟩, by simp [intOf]; omega⟩)
        · have HE := Lib.hid (show PB = cv by
            rw [← HPB.out, partB, ← HCV.out, List.take_of_length_le (by rw [HXL.out]; omega), HBV.out, Bool.and_comm])
          have he := HE.out
          subst he
          cases PB <;> (
            go_wp2_with (fail)
            refine (awake12 _).mono ?_
            rintro e w5 ⟨rfl, k5⟩
            go_wp2_with (fail)
            go_ret
            exact ⟨rfl, bstep kb1.out k5⟩)

theorem law8 (b : Option Addr) (m d : Nat) (z : Int) (xss : List (List Int)) (w : World) (hz : 0 ≤ z ∧ z ≤ 255) (hx : Rows2 w b m xss) :
    Calls Try.prog 8 #[.int .u8 z, .slice b m d] w fun e w' => e = .returned (.bool true) ∧ Below w.heap.size w w' := by
  have H21 := great21 b m d xss w hx
  have H11 := fine11 b m d xss w hx
  cases hg : greatL xss
  · cases hf : xss.any bad1
    · exact law8_fine b m d z xss w hz hx hg hf
    · rw [hg] at H21
      rw [hf] at H11
      have H21 := Lib.hid H21
      have H11 := Lib.hid H11
      have hz0 := hz.1
      have hz1 := hz.2
      clear hg hf hx hz
      go_enter Try.func8, Try.ntmps8
      go_wp2_with (fail)
      refine (H21.out).mono ?_
      rintro e w' ⟨rfl, rfl⟩
      go_wp2_with (fail)
      refine (H11.out).mono ?_
      rintro e w' ⟨rfl, q, rfl⟩
      go_wp2_with (fail)
      refine (awake12 _).mono ?_
      rintro e w5 ⟨rfl, k5⟩
      go_wp2_with (fail)
      go_ret
      exact ⟨rfl, bstep (bdrewN _ _) k5⟩
  · rw [hg] at H21
    have H21 := Lib.hid H21
    have hz0 := hz.1
    have hz1 := hz.2
    clear hg hx hz H11
    go_enter Try.func8, Try.ntmps8
    go_wp2_with (fail)
    refine (H21.out).mono ?_
    rintro e w' ⟨rfl, rfl⟩
    go_wp2_with (fail)
    refine (awake12 _).mono ?_
    rintro e w5 ⟨rfl, k5⟩
    go_wp2_with (fail)
    go_ret
    exact ⟨rfl, k5⟩

end Go.Proofs.Ytcmckcmckbdmhaa
