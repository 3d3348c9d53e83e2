import Derived.Test.YtcmckcmckbdmhaaW22
namespace Go.Proofs.Ytcmckcmckbdmhaa
open Go.RowKit Go.Ap Go.Shelf

/-- the set at an index -/
def row (xss : List (List Int)) (i : Int) : List Int := (xss[i.toNat]?).getD []
/-- the reference's Covers, from an index on, with the union of those before -/
def rcov (t : List Int) (xss : List (List Int)) : List Int → List Int → Bool
  | [], acc => withinB t acc
  | i :: r, acc => if withinB (row xss i) t = true then rcov t xss r (combR (fun x y => x || y) acc (row xss i)) else false

/-- indices in range, ascending -/
def IdxL (m : Nat) (l : List Int) : Prop := l.Pairwise (· < ·) ∧ ∀ i ∈ l, 0 ≤ i ∧ i < m

theorem combR_ok_setL {f : Bool → Bool → Bool} (xs ys : List Int) : SetL (combR f xs ys) := by
  unfold combR; split
  · exact comb_setL _ _ _
  · exact ⟨List.Pairwise.nil, by simp⟩

set_option maxRecDepth 100000 in
set_option maxHeartbeats 2000000 in
theorem refcovers57 (a b e : Option Addr) (n m p c d f : Nat) (t : List Int) (xss : List (List Int)) (l : List Int) (w : World) (ht : Ints w a n t) (hx : Rows2 w b m xss) (hl : Ints w e p l)
    (st : SetL t) (sx : ∀ xs ∈ xss, SetL xs) (il : IdxL m l) (hp : p ≤ 100) :
    Calls Try.prog 57 #[.slice a n c, .slice b m d, .slice e p f] w fun e w' => e = .returned (.bool (rcov t xss l [])) ∧ Below w.heap.size w w' := by
  have HT := Lib.hid ht
  have HX := Lib.hid hx
  have HLl := Lib.hid hl
  have HLP := Lib.hid hl.len
  have ST := Lib.hid st
  have SX := Lib.hid sx
  have IL := Lib.hid il
  clear ht hx hl st sx il
  generalize hr : rcov t xss l [] = r
  have HR := Lib.hid hr
  clear hr
  go_enter Try.func57, Try.ntmps57
  go_wp2_with (fail)
  go_loopw [7, 8] (fun v i wr => ∃ (k : Nat) (av : Option Addr) (nv cv : Nat) (acc : List Int), k ≤ p ∧ i = .int .i64 k ∧ v = .slice av nv cv ∧ Ints wr av nv acc ∧ SetL acc ∧ rcov t xss (l.drop k) acc = r ∧ Below w.heap.size w wr) (fun _ i _ => p - (intOf i).toNat)
  case atStart => exact ⟨0, _, _, _, [], by omega, rfl, rfl, Sl.nil _ _, ⟨List.Pairwise.nil, by simp⟩, HR.out, balloc _ _⟩
  case round =>
    obtain ⟨k, av, nv, cv, acc, hk, rfl, rfl, ia, sa, hch, hb⟩ := hrel
    have HC := Lib.hid hch
    have HB := Lib.hid hb
    have IA := Lib.hid ia
    have SA := Lib.hid sa
    have HT1 := Lib.hid (HT.out.mono (Nat.le_refl _) hb)
    have HX1 := Lib.hid (HX.out.mono (Nat.le_refl _) hb)
    have hl1 := HLl.out.mono (Nat.le_refl _) hb
    clear hch hb ia sa
    by_cases hlt : k < p
    · have hkl : k < l.length := by rw [HLP.out]; exact hlt
      have hmem := IL.out.2 _ (nth_mem hkl)
      obtain ⟨j, hj⟩ : ∃ j : Nat, nth l k = j := ⟨(nth l k).toNat, by omega⟩
      have hjm : j < m := by omega
      obtain ⟨b1, o1, rfl, hc1⟩ := Ints.at hl1 (by omega)
      have hcell := hc1 k hlt
      rw [hj] at hcell
      obtain ⟨xs, b2, o2, v2, hxs, rfl, hc2, a3, n3, c3, rfl, hI3⟩ := Sl.at HX1.out hjm
      have hrow : row xss (nth l k) = xs := by rw [hj, row]; simp [hxs]
      have sxs := Lib.hid (SX.out xs (List.mem_of_getElem? hxs))
      have hd := drop_nth hkl
      have hstep : rcov t xss (l.drop k) acc = if withinB xs t = true then rcov t xss (l.drop (k + 1)) (combR (fun x y => x || y) acc xs) else false := by
        rw [hd, rcov, hrow]
      have HS := Lib.hid hstep
      have H25 := Lib.hid (fun q => refwithin25 a3 a n3 n c3 c xs t (wr.drewN q) hI3.drewN HT1.out.drewN)
      have H22 := Lib.hid (fun q => refunion22 av a3 nv n3 cv c3 acc xs (wr.drewN q) IA.out.drewN hI3.drewN)
      have hE1 : combE xs t = 0 := combE_setL sxs.out ST.out
      have hE2 : combE acc xs = 0 := combE_setL SA.out sxs.out
      rw [hE1] at H25
      rw [hE2] at H22
      have hmem0 := hmem.1
      have d1 : decide ((j : Int) < 0) = false := by simp
      have d2 : decide ((m : Int) ≤ (j : Int)) = false := by simp; omega
      have d2' : decide (m ≤ j) = false := by simp; omega
      have prev : ∀ (h0 : 0 < k), ∃ j' : Nat, nth l (k - 1) = j' ∧ j' < j := by
        intro h0
        have h1 := IL.out.2 _ (nth_mem (xs := l) (k := k - 1) (by omega))
        have h2 := List.pairwise_iff_getElem.1 IL.out.1 (k - 1) k (by omega) hkl (by omega)
        rw [← nth_eq, ← nth_eq, hj] at h2
        exact ⟨(nth l (k - 1)).toNat, by omega, by omega⟩
      have hc1' := fun h => hc1 (k - 1) h
      have PREV := Lib.hid prev
      have HC1 := Lib.hid hc1'
      clear hxs hd hstep hE1 hE2 hmem hmem0 hj hrow hI3 hc1 hc1' prev hl1 hkl
      by_cases h0 : 0 < k
      · obtain ⟨j', hj', hjj⟩ := PREV.out h0
        have hcell' := HC1.out (by omega)
        rw [hj'] at hcell'
        have d3 : decide (0 < (k : Int)) = true := by simp; omega
        have d3' : decide (0 < k) = true := by simpa using h0
        have d4 : decide ((j : Int) ≤ (j' : Int)) = false := by simp; omega
        have d4' : decide (j ≤ j') = false := by simp; omega
        clear hj' hjj
        go_wp2_with (fail)
        go_quiet (fail)
        go_wp2_with (fail)
        cases hw : withinB xs t
        · rw [hw] at H25
          have hrf : r = false := by rw [← HC.out, HS.out, hw]; rfl
          have HRF := Lib.hid hrf
          clear hrf hw
          refine (H25.out _).mono ?_
          rintro e w' ⟨rfl, q, rfl⟩
          go_wp2_with (fail)
          go_ret
          exact ⟨ret_b HRF.out.symm, HB.out.trans ((bdrewN _ _).mono HB.out.size)⟩
        · rw [hw] at H25
          have hrn : rcov t xss (l.drop (k + 1)) (combR (fun x y => x || y) acc xs) = r := by rw [← HC.out, HS.out, hw]; rfl
          have HRN := Lib.hid hrn
          clear hrn hw
          refine (H25.out _).mono ?_
          rintro e w' ⟨rfl, q, rfl⟩
          go_wp2_with (fail)
          refine (H22.out _).mono ?_
          rintro e w5 ⟨a5, n5, c5, rfl, i5, k5⟩
          have I5 := Lib.hid i5
          have K5 := Lib.hid (HB.out.trans ((bstep (bdrewN _ _) k5).mono HB.out.size))
          clear i5 k5
          go_wp2_with (fail)
          exact ⟨⟨k + 1, _, _, _, _, by omega, by go_num, rfl, I5.out, combR_ok_setL _ _, HRN.out, K5.out⟩, by simp [intOf]; omega⟩
      · have d3 : decide (0 < (k : Int)) = false := by simp; omega
        have d3' : decide (0 < k) = false := by simpa using h0
        go_wp2_with (fail)
        go_quiet (fail)
        go_wp2_with (fail)
        cases hw : withinB xs t
        · rw [hw] at H25
          have hrf : r = false := by rw [← HC.out, HS.out, hw]; rfl
          have HRF := Lib.hid hrf
          clear hrf hw
          refine (H25.out _).mono ?_
          rintro e w' ⟨rfl, q, rfl⟩
          go_wp2_with (fail)
          go_ret
          exact ⟨ret_b HRF.out.symm, HB.out.trans ((bdrewN _ _).mono HB.out.size)⟩
        · rw [hw] at H25
          have hrn : rcov t xss (l.drop (k + 1)) (combR (fun x y => x || y) acc xs) = r := by rw [← HC.out, HS.out, hw]; rfl
          have HRN := Lib.hid hrn
          clear hrn hw
          refine (H25.out _).mono ?_
          rintro e w' ⟨rfl, q, rfl⟩
          go_wp2_with (fail)
          refine (H22.out _).mono ?_
          rintro e w5 ⟨a5, n5, c5, rfl, i5, k5⟩
          have I5 := Lib.hid i5
          have K5 := Lib.hid (HB.out.trans ((bstep (bdrewN _ _) k5).mono HB.out.size))
          clear i5 k5
          go_wp2_with (fail)
          exact ⟨⟨k + 1, _, _, _, _, by omega, by go_num, rfl, I5.out, combR_ok_setL _ _, HRN.out, K5.out⟩, by simp [intOf]; omega⟩
    · have hk0 : rcov t xss (l.drop k) acc = withinB t acc := by rw [List.drop_eq_nil_of_le (by rw [HLP.out]; omega), rcov]
      have hrf : r = withinB t acc := by rw [← HC.out, hk0]
      have HRF := Lib.hid hrf
      have h25 := refwithin25 a av n nv c cv t acc wr HT1.out IA.out
      rw [combE_setL ST.out SA.out] at h25
      have H25 := Lib.hid h25
      clear hk0 hrf h25 hl1
      go_wp2_with (fail)
      refine (H25.out).mono ?_
      rintro e w' ⟨rfl, q, rfl⟩
      go_wp2_with (fail)
      go_ret
      exact ⟨ret_b HRF.out.symm, HB.out.trans ((bdrewN _ _).mono HB.out.size)⟩

end Go.Proofs.Ytcmckcmckbdmhaa
