/-
  The reference's Check, its distance, and Same.
-/
import Derived.Test.YtbcnbchpcbglhaaW4
namespace Go.Proofs.Ytbcnbchpcbglhaa
open Go.RowKit Go.Ap Go.Shelf

theorem any_drop {xs : List Int} {k : Nat} {p : Int → Bool} (h : k < xs.length) : (xs.drop k).any p = (p (nth xs k) || (xs.drop (k + 1)).any p) := by
  rw [drop_nth h, List.any_cons]

set_option maxHeartbeats 2000000 in
theorem check33 (a : Option Addr) (n c : Nat) (S : List (List Int)) (w : World) (h : Rows2 w a n S) :
    Calls Try.prog 33 #[.slice a n c] w fun e w' => e = .returned (.int .i64 (chkS S)) ∧ ∃ q, w' = w.drewN q := by
  have HL := Lib.hid h.len
  have hsm := h.small
  obtain ⟨R, hR⟩ : ∃ R, chkS S = R := ⟨_, rfl⟩
  rw [hR]
  have HR := Lib.hid hR
  clear hR
  by_cases h0 : n = 0
  · subst h0
    have HF := Lib.hid (show R = 5 by rw [← HR.out, chkS, if_pos HL.out])
    go_enter Try.func33, Try.ntmps33
    go_wp2_with (fail)
    go_ret
    exact ⟨ret_i (by rw [HF.out]), 0, rfl⟩
  have b0 : ((n : Int) == 0) = false := by rw [beq_eq_false_iff_ne]; omega
  have hpos : 0 < n := by omega
  obtain ⟨b, off, rfl, hc⟩ := Rows2.all h (by omega)
  have HC := Lib.hid hc
  obtain ⟨a0, n0, c0, hc0, hI0⟩ := hc 0 (by omega)
  simp only [Nat.add_zero] at hc0
  have HN0 := Lib.hid hI0.len
  have hn0 := hI0.small
  clear hc hI0
  by_cases h1 : 32 < n
  · have HF := Lib.hid (show R = 4 by rw [← HR.out, chkS, if_neg (by rw [HL.out]; exact h0), if_pos (.inl (by rw [HL.out]; exact h1))])
    clear h0
    go_enter Try.func33, Try.ntmps33
    go_wp2_with (fail)
    go_ret
    exact ⟨ret_i (by rw [HF.out]), 0, rfl⟩
  by_cases h2 : 4096 < n0
  · have HF := Lib.hid (show R = 4 by rw [← HR.out, chkS, if_neg (by rw [HL.out]; exact h0), if_pos (.inr (by rw [HN0.out]; exact h2))])
    clear h0
    go_enter Try.func33, Try.ntmps33
    go_wp2_with (fail)
    go_ret
    exact ⟨ret_i (by rw [HF.out]), 0, rfl⟩
  have HF := Lib.hid (show chkG n0 S = R by rw [← HR.out, chkS, if_neg (by rw [HL.out]; exact h0), if_neg (by rw [HL.out, HN0.out]; omega), HN0.out])
  clear h0
  go_enter Try.func33, Try.ntmps33
  go_wp2_with (fail)
  go_loopw [3] (fun i wr => ∃ (k q : Nat), k ≤ n ∧ i = .int .i64 k ∧ wr = w.drewN q ∧ chkG n0 (S.drop k) = R) (fun i _ => n - (intOf i).toNat)
  case atStart => exact ⟨0, 0, by omega, rfl, rfl, HF.out⟩
  case round =>
    obtain ⟨k, q, hk, rfl, rfl, hch⟩ := hrel
    have HCH := Lib.hid hch
    clear hch
    by_cases hlt : k < n
    · obtain ⟨a1, n1, c1, hc1, hI1⟩ := HC.out k hlt
      have HL1 := Lib.hid hI1.len
      have hs1 := hI1.small
      have HS := Lib.hid (show S.drop k = row S k :: S.drop (k + 1) from drop_row (by rw [HL.out]; exact hlt))
      have HI1 := Lib.hid hI1
      clear hI1
      by_cases h3 : n1 = n0
      · subst h3
        obtain ⟨A, hA⟩ : ∃ A, (row S k).any badI = A := ⟨_, rfl⟩
        have HA := Lib.hid hA
        have HNT := Lib.hid (show A = false → chkG n1 (S.drop (k + 1)) = R from fun h => by rw [← HCH.out, HS.out, chkG, if_neg (by rw [HL1.out]; omega), if_neg (by rw [hA, h]; simp)])
        have HNF := Lib.hid (show A = true → R = 2 from fun h => by rw [← HCH.out, HS.out, chkG, if_neg (by rw [HL1.out]; omega), if_pos (by rw [hA, h])])
        have d1 : ((n1 : Int) != n1) = false := by simp
        clear hA
        go_wp2_with (fail)
        go_quiet (fail)
        go_wp2_with (fail)
        obtain ⟨q1, hq1⟩ := drewN_ex w q nq
        rw [hq1]
        clear hq1
        go_loopw [4] (fun i wr => ∃ (j q : Nat), j ≤ n1 ∧ i = .int .i64 j ∧ wr = w.drewN q ∧ ((row S k).drop j).any badI = A) (fun i _ => n1 - (intOf i).toNat)
        case atStart => exact ⟨0, q1, by omega, rfl, rfl, by rw [List.drop_zero]; exact HA.out⟩
        case round =>
          obtain ⟨j, q2, hj, rfl, rfl, hrest⟩ := hrel
          have HRE := Lib.hid hrest
          clear hrest
          by_cases hjl : j < n1
          · obtain ⟨b1, o1, rfl, hcc⟩ := Ints.at HI1.out (by omega)
            have hcell := hcc j hjl
            have HAD := Lib.hid (any_drop (xs := row S k) (k := j) (p := badI) (by rw [HL1.out]; exact hjl))
            obtain ⟨x, hx⟩ : ∃ x, nth (row S k) j = x := ⟨_, rfl⟩
            rw [hx] at hcell HAD
            clear hcc hx
            by_cases h4 : x < -1
            · have d1 : decide (x < -1) = true := by simpa using h4
              have HB := Lib.hid (HNF.out (by rw [← HRE.out, HAD.out, badI_lo h4]; rfl))
              go_wp2_with (fail)
              go_ret
              exact ⟨ret_i (by rw [HB.out]), _, rfl⟩
            · have d1 : decide (x < -1) = false := by simpa using h4
              by_cases h5 : 16 ≤ x
              · have d2 : decide (16 ≤ x) = true := by simpa using h5
                have HB := Lib.hid (HNF.out (by rw [← HRE.out, HAD.out, badI_hi h5]; rfl))
                go_wp2_with (fail)
                go_ret
                exact ⟨ret_i (by rw [HB.out]), _, rfl⟩
              · have d2 : decide (16 ≤ x) = false := by simpa using h5
                have HB := Lib.hid (show ((row S k).drop (j + 1)).any badI = A by rw [← HRE.out, HAD.out, badI_no h4 h5]; rfl)
                go_wp2_with (fail)
                exact ⟨⟨j + 1, _, by omega, by go_num, rfl, HB.out⟩, by simp [intOf]; omega⟩
          · have HB := Lib.hid (HNT.out (by rw [← HRE.out, List.drop_eq_nil_of_le (by rw [HL1.out]; omega)]; rfl))
            go_wp2_with (fail)
            exact ⟨⟨k + 1, _, by omega, by go_num, rfl, HB.out⟩, by simp [intOf]; omega⟩
      · have HN := Lib.hid (show R = 9 by rw [← HCH.out, HS.out, chkG, if_pos (by rw [HL1.out]; exact h3)])
        have d1 : ((n1 : Int) != n0) = true := by rw [bne_iff_ne]; omega
        clear h3
        go_wp2_with (fail)
        go_quiet (fail)
        go_wp2_with (fail)
        go_ret
        exact ⟨ret_i (by rw [HN.out]), drewN_ex _ _ _⟩
    · have HN := Lib.hid (show R = 0 by rw [← HCH.out, List.drop_eq_nil_of_le (by rw [HL.out]; omega)]; rfl)
      go_wp2_with (fail)
      go_ret
      exact ⟨ret_i (by rw [HN.out]), _, rfl⟩

/-- the reference's distance -/
def distR (S : List (List Int)) (m i k : Nat) : Int := if i = k then 0 else dist (row S i) (row S k) m

theorem refdist50 (a : Option Addr) (n c m i k : Nat) (S : List (List Int)) (w : World) (h : Rows2 w a n S) (ok : OkS S m) (hi : i < n) (hk : k < n) :
    Calls Try.prog 50 #[.slice a n c, .int .i64 i, .int .i64 k] w fun e w' => e = .returned (.int .i64 (distR S m i k)) ∧ ∃ q, w' = w.drewN q := by
  by_cases he : i = k
  · subst he
    have hD : distR S m i i = 0 := by simp [distR]
    rw [hD]
    clear hD
    go_enter Try.func50, Try.ntmps50
    go_wp2_with (fail)
    go_ret
    exact ⟨rfl, 0, rfl⟩
  · have HL := Lib.hid h.len
    obtain ⟨b, off, rfl, hc⟩ := Rows2.all h (by omega)
    obtain ⟨a1, n1, c1, hc1, hI1⟩ := hc i hi
    obtain ⟨a2, n2, c2, hc2, hI2⟩ := hc k hk
    obtain rfl : n1 = m := by rw [← hI1.len]; exact ok.row_len (by rw [HL.out]; exact hi)
    obtain rfl : n2 = n1 := by rw [← hI2.len]; exact ok.row_len (by rw [HL.out]; exact hk)
    have H54 := Lib.hid (fun q => counts54 a1 a2 n2 n2 c1 c2 (row S i) (row S k) (w.drewN q) (Nat.le_refl _) hI1.drewN hI2.drewN)
    have hb : ((i : Int) == k) = false := by rw [beq_eq_false_iff_ne]; omega
    have hm := ok.wid
    have hD : distR S n2 i k = distN (cmpd (row S i) (row S k) n2) (agr (row S i) (row S k) n2) := by rw [distR, if_neg he, dist]
    rw [hD]
    have hle := agr_le (row S i) (row S k) n2
    have hcl := cmpd_le (row S i) (row S k) n2
    clear hD he hI1 hI2 hc h
    generalize cmpd (row S i) (row S k) n2 = cc at *
    generalize agr (row S i) (row S k) n2 = g at *
    by_cases h0 : cc = 0
    · subst h0
      have hD : distN 0 g = 1000 := rfl
      rw [hD]
      clear hD
      go_enter Try.func50, Try.ntmps50
      go_wp2_with (fail)
      go_quiet ((go_at_call 54; exact Calls.quiet_of (H54.out _)))
      go_wp2_with (fail)
      go_ret
      exact ⟨rfl, _, rfl⟩
    · have hb0 : ((cc : Int) == 0) = false := by rw [beq_eq_false_iff_ne]; omega
      have HD := Lib.hid (show distN cc g = (2000 * ((cc : Int) - g) + cc) / (2 * cc) by rw [distN, if_neg h0])
      go_enter Try.func50, Try.ntmps50
      go_wp2_with (fail)
      go_quiet ((go_at_call 54; exact Calls.quiet_of (H54.out _)))
      go_wp2_with (fail)
      go_ret
      exact ⟨ret_i HD.out.symm, _, rfl⟩

/-- equality of lists of lists, from a place on -/
def sameB (A B : List (List Int)) : Bool := A == B
def eqL (A B : List Int) : Bool := A == B
theorem eqL_len {A B : List Int} (h : A.length ≠ B.length) : eqL A B = false := by
  rw [eqL, beq_eq_false_iff_ne]; intro e; exact h (by rw [e])
theorem sameB_len {A B : List (List Int)} (h : A.length ≠ B.length) : sameB A B = false := by
  rw [sameB, beq_eq_false_iff_ne]; intro e; exact h (by rw [e])
theorem sameB_drop {A B : List (List Int)} {k : Nat} (h : k < A.length) (h' : k < B.length) : sameB (A.drop k) (B.drop k) = (eqL (row A k) (row B k) && sameB (A.drop (k + 1)) (B.drop (k + 1))) := by
  rw [sameB, drop_row h, drop_row h', sameB, eqL, List.cons_beq_cons]
theorem eqL_drop {A B : List Int} {k : Nat} (h : k < A.length) (h' : k < B.length) : eqL (A.drop k) (B.drop k) = ((nth A k == nth B k) && eqL (A.drop (k + 1)) (B.drop (k + 1))) := by
  rw [eqL, drop_nth h, drop_nth h', eqL, List.cons_beq_cons]
theorem drop_end {α : Type} {A : List α} {k : Nat} (h : A.length ≤ k) : A.drop k = [] := List.drop_eq_nil_of_le h

set_option maxHeartbeats 1000000 in
theorem same19 (a b : Option Addr) (n m c d : Nat) (A B : List (List Int)) (w : World) (ha : Rows2 w a n A) (hb : Rows2 w b m B) :
    Calls Try.prog 19 #[.slice a n c, .slice b m d] w fun e w' => e = .returned (.bool (sameB A B)) ∧ ∃ q, w' = w.drewN q := by
  have HLA := Lib.hid ha.len
  have HLB := Lib.hid hb.len
  have hsa := ha.small
  have hsb := hb.small
  obtain ⟨R, hR⟩ : ∃ R, sameB A B = R := ⟨_, rfl⟩
  rw [hR]
  have HR := Lib.hid hR
  have HA := Lib.hid ha
  have HB := Lib.hid hb
  clear hR ha hb
  by_cases h0 : n = m
  · subst h0
    go_enter Try.func19, Try.ntmps19
    go_wp2_with (fail)
    go_loopw [5] (fun i wr => ∃ (k q : Nat), k ≤ n ∧ i = .int .i64 k ∧ wr = w.drewN q ∧ sameB (A.drop k) (B.drop k) = R) (fun i _ => n - (intOf i).toNat)
    case atStart => exact ⟨0, 0, by omega, rfl, rfl, HR.out⟩
    case round =>
      obtain ⟨k, q, hk, rfl, rfl, hch⟩ := hrel
      have HCH := Lib.hid hch
      clear hch
      by_cases hlt : k < n
      · obtain ⟨b1, o1, rfl, hc1⟩ := Rows2.all HA.out (by omega)
        obtain ⟨b2, o2, rfl, hc2⟩ := Rows2.all HB.out (by omega)
        obtain ⟨a1, n1, c1, hcell1, hI1⟩ := hc1 k hlt
        obtain ⟨a2, n2, c2, hcell2, hI2⟩ := hc2 k hlt
        have HD := Lib.hid (sameB_drop (A := A) (B := B) (k := k) (by rw [HLA.out]; exact hlt) (by rw [HLB.out]; exact hlt))
        have HI1 := Lib.hid hI1
        have HI2 := Lib.hid hI2
        have HL1 := Lib.hid hI1.len
        have HL2 := Lib.hid hI2.len
        have hs1 := hI1.small
        have hs2 := hI2.small
        clear hc1 hc2 hI1 hI2
        by_cases h1 : n1 = n2
        · subst h1
          obtain ⟨E, hE⟩ : ∃ E, eqL (row A k) (row B k) = E := ⟨_, rfl⟩
          have HE := Lib.hid hE
          have HNT := Lib.hid (show E = true → sameB (A.drop (k + 1)) (B.drop (k + 1)) = R from fun h => by rw [← HCH.out, HD.out, hE, h]; rfl)
          have HNF := Lib.hid (show E = false → R = false from fun h => by rw [← HCH.out, HD.out, hE, h]; rfl)
          have d1 : ((n1 : Int) != n1) = false := by simp
          clear hE
          go_wp2_with (fail)
          go_quiet (fail)
          go_wp2_with (fail)
          obtain ⟨q1, hq1⟩ := drewN_ex w q nq
          rw [hq1]
          clear hq1
          go_loopw [6] (fun i wr => ∃ (j q : Nat), j ≤ n1 ∧ i = .int .i64 j ∧ wr = w.drewN q ∧ eqL ((row A k).drop j) ((row B k).drop j) = E) (fun i _ => n1 - (intOf i).toNat)
          case atStart => exact ⟨0, q1, by omega, rfl, rfl, by rw [List.drop_zero, List.drop_zero]; exact HE.out⟩
          case round =>
            obtain ⟨j, q2, hj, rfl, rfl, hrest⟩ := hrel
            have HRE := Lib.hid hrest
            clear hrest
            by_cases hjl : j < n1
            · obtain ⟨b3, o3, rfl, hc3⟩ := Ints.at HI1.out (by omega)
              obtain ⟨b4, o4, rfl, hc4⟩ := Ints.at HI2.out (by omega)
              have hcell3 := hc3 j hjl
              have hcell4 := hc4 j hjl
              have HAD := Lib.hid (eqL_drop (A := row A k) (B := row B k) (k := j) (by rw [HL1.out]; exact hjl) (by rw [HL2.out]; exact hjl))
              obtain ⟨x, hx⟩ : ∃ x, nth (row A k) j = x := ⟨_, rfl⟩
              obtain ⟨y, hy⟩ : ∃ y, nth (row B k) j = y := ⟨_, rfl⟩
              rw [hx] at hcell3
              rw [hy] at hcell4
              rw [hx, hy] at HAD
              clear hc3 hc4 hx hy
              by_cases hxy : x = y
              · have d2 : (x != y) = false := by simpa using hxy
                have HG := Lib.hid (show eqL ((row A k).drop (j + 1)) ((row B k).drop (j + 1)) = E by rw [← HRE.out, HAD.out, show (x == y) = true by simpa using hxy, Bool.true_and])
                clear hxy
                go_wp2_with (fail)
                go_quiet (fail)
                go_wp2_with (fail)
                exact ⟨⟨j + 1, _, by omega, by go_num, rfl, HG.out⟩, by simp [intOf]; omega⟩
              · have d2 : (x != y) = true := by simpa using hxy
                have HG := Lib.hid (HNF.out (show E = false by rw [← HRE.out, HAD.out, show (x == y) = false by simpa using hxy, Bool.false_and]))
                clear hxy
                go_wp2_with (fail)
                go_quiet (fail)
                go_wp2_with (fail)
                go_ret
                exact ⟨ret_b (by rw [HG.out]), drewN_ex _ _ _⟩
            · have HG := Lib.hid (HNT.out (show E = true by rw [← HRE.out, drop_end (by rw [HL1.out]; omega), drop_end (by rw [HL2.out]; omega)]; rfl))
              go_wp2_with (fail)
              exact ⟨⟨k + 1, _, by omega, by go_num, rfl, HG.out⟩, by simp [intOf]; omega⟩
        · have d1 : ((n1 : Int) != n2) = true := by rw [bne_iff_ne]; omega
          have HN := Lib.hid (show R = false by rw [← HCH.out, HD.out, eqL_len (by rw [HL1.out, HL2.out]; exact h1)]; rfl)
          clear h1
          go_wp2_with (fail)
          go_quiet (fail)
          go_wp2_with (fail)
          go_ret
          exact ⟨ret_b (by rw [HN.out]), drewN_ex _ _ _⟩
      · have HN := Lib.hid (show R = true by rw [← HCH.out, drop_end (by rw [HLA.out]; omega), drop_end (by rw [HLB.out]; omega)]; rfl)
        go_wp2_with (fail)
        go_ret
        exact ⟨ret_b (by rw [HN.out]), _, rfl⟩
  · have d1 : ((n : Int) != m) = true := by rw [bne_iff_ne]; omega
    have HN := Lib.hid (show R = false by rw [← HR.out, sameB_len (by rw [HLA.out, HLB.out]; exact h0)])
    clear h0
    go_enter Try.func19, Try.ntmps19
    go_wp2_with (fail)
    go_ret
    exact ⟨ret_b (by rw [HN.out]), 0, rfl⟩

end Go.Proofs.Ytbcnbchpcbglhaa
