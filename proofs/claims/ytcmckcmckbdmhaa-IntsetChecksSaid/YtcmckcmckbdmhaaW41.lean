/-
  The walk of the law's function 39: the reference's Complement gives what the program's gives.
-/
import Derived.Test.YtcmckcmckbdmhaaW40
namespace Go.Proofs.Ytcmckcmckbdmhaa
open Go.RowKit Go.Ap Go.Shelf

set_option maxRecDepth 100000 in
set_option maxHeartbeats 2000000 in
theorem refcompl39 (a : Option Addr) (n c : Nat) (m : Int) (xs : List Int) (w : World) (hm : I64 m) (hx : Ints w a n xs) :
    Calls Try.prog 39 #[.int .i64 m, .slice a n c] w (GivesE w (complR m xs) (complE m xs)) := by
  obtain ⟨i0, hi, hz0, hz1, hz2⟩ := info_parts info3
  have hlen := hx.len
  have hsm := hx.small
  have H1 := Lib.hid (refcheck_any a n c xs w hx)
  have HX := Lib.hid hx
  have HL := Lib.hid hlen
  clear hlen
  by_cases h1 : m < 0 ∨ 64 < m
  · have hE : complE m xs = 2 := by rw [complE, if_pos h1]
    have hR : complR m xs = [] := by rw [complR, hE]; rfl
    rw [hE, hR]
    clear hE hR hx
    by_cases h2 : m < 0
    · have d1 : decide (m < 0) = true := by simpa using h2
      go_enter Try.func39, Try.ntmps39
      go_wp2_with (fail)
      go_ret2
      exact ⟨none, 0, 0, rfl, Sl.nil _ _, Below.refl _ _⟩
    · have d1 : decide (m < 0) = false := by simpa using h2
      have d2 : decide (64 < m) = true := by simp; omega
      go_enter Try.func39, Try.ntmps39
      go_wp2_with (fail)
      go_ret2
      exact ⟨none, 0, 0, rfl, Sl.nil _ _, Below.refl _ _⟩
  have d1 : decide (m < 0) = false := by simp; omega
  have d2 : decide (64 < m) = false := by simp; omega
  by_cases h2 : chk xs = 0
  · have h2' : (chk xs != 0) = false := by simpa using h2
    by_cases h3 : 0 < xs.length ∧ m ≤ nth xs (xs.length - 1)
    · have hE : complE m xs = 2 := by rw [complE, if_neg h1, if_neg (by simpa using h2), if_pos h3]
      have hR : complR m xs = [] := by rw [complR, hE]; rfl
      rw [hE, hR]
      rw [HL.out] at h3
      have h30 := h3.1
      have d3 : decide (0 < n) = true := by simpa using h30
      have d4 : decide (m ≤ nth xs (n - 1)) = true := by simpa using h3.2
      obtain ⟨b, off, rfl, hc⟩ := Ints.at HX.out h30
      have hcell := hc (n - 1) (by omega)
      clear hE hR hx h1 h2 h3 hc
      go_enter Try.func39, Try.ntmps39
      go_wp2_with (fail)
      refine (H1.out).mono ?_
      rintro e w' ⟨rfl, q, rfl⟩
      go_wp2_with (fail)
      go_ret2
      exact ⟨none, 0, 0, rfl, Sl.nil _ _, bdrewN _ _⟩
    · have hE : complE m xs = 0 := by rw [complE, if_neg h1, if_neg (by simpa using h2), if_neg h3]
      have hR : complR m xs = memb (complP xs) m.toNat := by rw [complR, if_pos hE]
      rw [hE, hR]
      rw [HL.out] at h3
      obtain ⟨N, rfl⟩ : ∃ N : Nat, m = N := ⟨m.toNat, by omega⟩
      rw [Int.toNat_natCast]
      have hN : N ≤ 64 := by omega
      clear hE hR h2
      by_cases h30 : 0 < n
      · have d3 : decide (0 < n) = true := by simpa using h30
        have d4 : decide ((N : Int) ≤ nth xs (n - 1)) = false := by simp; omega
        obtain ⟨b, off, rfl, hc⟩ := Ints.at HX.out h30
        have hcell := hc (n - 1) (by omega)
        clear hx h1 h3 hc
        go_enter Try.func39, Try.ntmps39
        go_wp2_with (fail)
        refine (H1.out).mono ?_
        rintro e w' ⟨rfl, q, rfl⟩
        go_wp2_with (fail)
        go_loopw [6, 7] (fun v i wr => ∃ k : Nat, k ≤ N ∧ i = .int .i64 k ∧ Own wr w.heap.size v (memb (complP xs) k) ∧ Below w.heap.size w wr) (fun _ i _ => N - (intOf i).toNat)
        case atStart => exact ⟨0, by omega, rfl, own_empty (w.drewN q) w (Nat.le_refl _), bstep (bdrewN w q) (balloc _ _)⟩
        case round =>
          obtain ⟨k, hk, rfl, ho, hb⟩ := hrel
          have HO := Lib.hid ho
          have HB := Lib.hid hb
          have hsz := hb.size
          have HX1 := Lib.hid (HX.out.mono (Nat.le_refl _) hb)
          have hml := memb_len (complP xs) k
          clear ho hb
          by_cases hlt : k < N
          · have H1 := has53 _ _ c xs k wr HX1.out
            cases h1 : hasI xs k
            · rw [h1] at H1
              have H1 := Lib.hid H1
              have HP := Lib.hid (memb_yes (p := complP xs) (k := k) (by rw [complP, ← hasI, h1]; rfl))
              clear h1
              go_wp2_with (fail)
              refine (H1.out).mono ?_
              rintro e w' ⟨rfl, rfl⟩
              go_wp2_with (at_builtin; refine wpList_append_own _ rfl _ _ 22 rfl w.heap.size 3 i0 (.int .i64 0) 1 8 Try.underlying22 hi hz0 hz1 hz2 rfl (by decide) _ _ _ rfl (HO.out.alloc _) ⟨wr.heap.size, 0, none⟩ 1 1 [.int .i64 k] rfl rfl (cell_one_new _ _ _) (by simp [Value.oneCell']) (by unfold maxLen; omega) (by omega) (by simp; omega) ?_; intro v1 w1 hown1 hgrow1 _; have HO2 := Lib.hid hown1; have HG := Lib.hid hgrow1; clear hown1 hgrow1)
              exact ⟨⟨k + 1, by omega, by go_num, by rw [HP.out]; exact own_snoc HO2.out, own_grown HB.out hsz HO.out HG.out⟩, by simp [intOf]; omega⟩
            · rw [h1] at H1
              have H1 := Lib.hid H1
              have HP := Lib.hid (memb_no (p := complP xs) (k := k) (by rw [complP, ← hasI, h1]; rfl))
              clear h1
              go_wp2_with (fail)
              refine (H1.out).mono ?_
              rintro e w' ⟨rfl, rfl⟩
              go_wp2_with (fail)
              exact ⟨⟨k + 1, by omega, by go_num, by rw [HP.out]; exact HO.out, HB.out⟩, by simp [intOf]; omega⟩
          · have hkN : k = N := by omega
            rw [hkN] at HO hml
            obtain ⟨ar, cr, rfl, hI⟩ := ints_of_owns HO.out (memb_i64 _ _ (by omega)) (by omega)
            have HI := Lib.hid hI
            clear hI hkN
            go_wp2_with (fail)
            go_ret2
            exact ⟨ar, _, cr, rfl, HI.out, HB.out⟩
      · obtain rfl : n = 0 := by omega
        clear hx h1 h3
        go_enter Try.func39, Try.ntmps39
        go_wp2_with (fail)
        refine (H1.out).mono ?_
        rintro e w' ⟨rfl, q, rfl⟩
        go_wp2_with (fail)
        go_loopw [6, 7] (fun v i wr => ∃ k : Nat, k ≤ N ∧ i = .int .i64 k ∧ Own wr w.heap.size v (memb (complP xs) k) ∧ Below w.heap.size w wr) (fun _ i _ => N - (intOf i).toNat)
        case atStart => exact ⟨0, by omega, rfl, own_empty (w.drewN q) w (Nat.le_refl _), bstep (bdrewN w q) (balloc _ _)⟩
        case round =>
          obtain ⟨k, hk, rfl, ho, hb⟩ := hrel
          have HO := Lib.hid ho
          have HB := Lib.hid hb
          have hsz := hb.size
          have HX1 := Lib.hid (HX.out.mono (Nat.le_refl _) hb)
          have hml := memb_len (complP xs) k
          clear ho hb
          by_cases hlt : k < N
          · have H1 := has53 _ _ c xs k wr HX1.out
            cases h1 : hasI xs k
            · rw [h1] at H1
              have H1 := Lib.hid H1
              have HP := Lib.hid (memb_yes (p := complP xs) (k := k) (by rw [complP, ← hasI, h1]; rfl))
              clear h1
              go_wp2_with (fail)
              refine (H1.out).mono ?_
              rintro e w' ⟨rfl, rfl⟩
              go_wp2_with (at_builtin; refine wpList_append_own _ rfl _ _ 22 rfl w.heap.size 3 i0 (.int .i64 0) 1 8 Try.underlying22 hi hz0 hz1 hz2 rfl (by decide) _ _ _ rfl (HO.out.alloc _) ⟨wr.heap.size, 0, none⟩ 1 1 [.int .i64 k] rfl rfl (cell_one_new _ _ _) (by simp [Value.oneCell']) (by unfold maxLen; omega) (by omega) (by simp; omega) ?_; intro v1 w1 hown1 hgrow1 _; have HO2 := Lib.hid hown1; have HG := Lib.hid hgrow1; clear hown1 hgrow1)
              exact ⟨⟨k + 1, by omega, by go_num, by rw [HP.out]; exact own_snoc HO2.out, own_grown HB.out hsz HO.out HG.out⟩, by simp [intOf]; omega⟩
            · rw [h1] at H1
              have H1 := Lib.hid H1
              have HP := Lib.hid (memb_no (p := complP xs) (k := k) (by rw [complP, ← hasI, h1]; rfl))
              clear h1
              go_wp2_with (fail)
              refine (H1.out).mono ?_
              rintro e w' ⟨rfl, rfl⟩
              go_wp2_with (fail)
              exact ⟨⟨k + 1, by omega, by go_num, by rw [HP.out]; exact HO.out, HB.out⟩, by simp [intOf]; omega⟩
          · have hkN : k = N := by omega
            rw [hkN] at HO hml
            obtain ⟨ar, cr, rfl, hI⟩ := ints_of_owns HO.out (memb_i64 _ _ (by omega)) (by omega)
            have HI := Lib.hid hI
            clear hI hkN
            go_wp2_with (fail)
            go_ret2
            exact ⟨ar, _, cr, rfl, HI.out, HB.out⟩
  · have hE : complE m xs = 1 := by rw [complE, if_neg h1, if_pos h2]
    have hR : complR m xs = [] := by rw [complR, hE]; rfl
    have h2' : (chk xs != 0) = true := by simpa using h2
    rw [hE, hR]
    clear hE hR hx h1
    generalize chk xs = ck at *
    go_enter Try.func39, Try.ntmps39
    go_wp2_with (fail)
    refine (H1.out).mono ?_
    rintro e w' ⟨rfl, q, rfl⟩
    go_wp2_with (fail)
    go_ret2
    exact ⟨none, 0, 0, rfl, Sl.nil _ _, bdrewN _ _⟩

end Go.Proofs.Ytcmckcmckbdmhaa
