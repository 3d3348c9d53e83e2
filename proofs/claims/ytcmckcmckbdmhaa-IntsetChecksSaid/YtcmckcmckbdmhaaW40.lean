/-
  The walks of the law's functions 38 (the reference's Of) and 39 (the reference's Complement).
-/
import Derived.Test.YtcmckcmckbdmhaaL9
namespace Go.Proofs.Ytcmckcmckbdmhaa
open Go.RowKit Go.Ap Go.Shelf

def wideB (x : Int) : Bool := decide (x < 0) || decide (63 < x)
def ofR (xs : List Int) : List Int := if xs.any wideB = true then [] else memb (hasI xs) 64
def ofE (xs : List Int) : Int := if xs.any wideB = true then 2 else 0

set_option maxRecDepth 100000 in
set_option maxHeartbeats 2000000 in
theorem refof38 (a : Option Addr) (n c : Nat) (xs : List Int) (w : World) (hx : Ints w a n xs) :
    Calls Try.prog 38 #[.slice a n c] w (GivesE w (ofR xs) (ofE xs)) := by
  obtain ⟨i0, hi, hz0, hz1, hz2⟩ := info_parts info3
  have HX := Lib.hid hx
  have HXL := Lib.hid hx.len
  have hsm := hx.small
  generalize hr : xs.any wideB = r
  have HR := Lib.hid hr
  generalize hG1 : ofR xs = G1
  generalize hG2 : ofE xs = G2
  have HG1 := Lib.hid hG1
  have HG2 := Lib.hid hG2
  clear hx hr hG1 hG2
  go_enter Try.func38, Try.ntmps38
  go_wp2_with (fail)
  go_loop [4] (fun i => ∃ k : Nat, k ≤ n ∧ i = .int .i64 k ∧ (xs.drop k).any wideB = r) (fun i => n - (intOf i).toNat)
  case atStart => exact ⟨0, by omega, rfl, HR.out⟩
  case round =>
    obtain ⟨k, hk, rfl, hch⟩ := hrel
    have HC := Lib.hid hch
    clear hch
    by_cases hlt : k < n
    · have hkx : k < xs.length := by rw [HXL.out]; exact hlt
      obtain ⟨b1, o1, rfl, hc1⟩ := Ints.at HX.out (by omega)
      have hcx := hc1 k hlt
      have HS := Lib.hid (show (xs.drop k).any wideB = (wideB (nth xs k) || (xs.drop (k + 1)).any wideB) by rw [drop_nth hkx, List.any_cons])
      generalize nth xs k = x at *
      clear hc1 hkx
      by_cases h0 : x < 0
      · have d0 : decide (x < 0) = true := by simpa using h0
        have hr1 : r = true := by rw [← HC.out, HS.out, wideB, d0]; simp
        have HE := Lib.hid (show G1 = [] ∧ G2 = 2 by rw [← HG1.out, ← HG2.out, ofR, ofE, HR.out, hr1]; simp)
        clear hr1
        go_wp2_with (fail)
        go_ret2
        exact ⟨none, 0, 0, by rw [HE.out.2] <;> rfl, by rw [HE.out.1]; exact Sl.nil _ _, Below.refl _ _⟩
      · have d0 : decide (x < 0) = false := by simpa using h0
        by_cases h63 : 63 < x
        · have d1 : decide (63 < x) = true := by simpa using h63
          have hr1 : r = true := by rw [← HC.out, HS.out, wideB, d1]; simp
          have HE := Lib.hid (show G1 = [] ∧ G2 = 2 by rw [← HG1.out, ← HG2.out, ofR, ofE, HR.out, hr1]; simp)
          clear hr1
          go_wp2_with (fail)
          go_ret2
          exact ⟨none, 0, 0, by rw [HE.out.2] <;> rfl, by rw [HE.out.1]; exact Sl.nil _ _, Below.refl _ _⟩
        · have d1 : decide (63 < x) = false := by simpa using h63
          have HN := Lib.hid (show (xs.drop (k + 1)).any wideB = r by rw [← HC.out, HS.out, wideB, d0, d1]; rfl)
          go_wp2_with (fail)
          exact ⟨⟨k + 1, by omega, by go_num, HN.out⟩, by simp [intOf]; omega⟩
    · have hr1 : r = false := by rw [← HC.out, List.drop_eq_nil_of_le (by rw [HXL.out]; omega)]; rfl
      have HE := Lib.hid (show G1 = memb (hasI xs) 64 ∧ G2 = 0 by rw [← HG1.out, ← HG2.out, ofR, ofE, HR.out, hr1]; simp)
      clear hr1
      go_wp2_with (fail)
      go_loopw [5, 6] (fun v i wr => ∃ k : Nat, k ≤ 64 ∧ i = .int .i64 k ∧ Own wr w.heap.size v (memb (hasI xs) k) ∧ Below w.heap.size w wr) (fun _ i _ => 64 - (intOf i).toNat)
      case atStart => exact ⟨0, by omega, rfl, own_empty w w (Nat.le_refl _), balloc _ _⟩
      case round =>
        obtain ⟨k, hk, rfl, ho, hb⟩ := hrel
        have HO := Lib.hid ho
        have HB := Lib.hid hb
        have hsz := hb.size
        have HX1 := Lib.hid (HX.out.mono (Nat.le_refl _) hb)
        have hml := memb_len (hasI xs) k
        clear ho hb
        by_cases hlt : k < 64
        · have H1 := has53 a n c xs k wr HX1.out
          cases h1 : hasI xs k
          · rw [h1] at H1
            have H1 := Lib.hid H1
            have HP := Lib.hid (memb_no h1)
            clear h1
            go_wp2_with (fail)
            refine (H1.out).mono ?_
            rintro e w' ⟨rfl, rfl⟩
            go_wp2_with (fail)
            exact ⟨⟨k + 1, by omega, by go_num, by rw [HP.out]; exact HO.out, HB.out⟩, by simp [intOf]; omega⟩
          · rw [h1] at H1
            have H1 := Lib.hid H1
            have HP := Lib.hid (memb_yes h1)
            clear h1
            go_wp2_with (fail)
            refine (H1.out).mono ?_
            rintro e w' ⟨rfl, rfl⟩
            go_wp2_with (at_builtin; refine wpList_append_own _ rfl _ _ 22 rfl w.heap.size 3 i0 (.int .i64 0) 1 8 Try.underlying22 hi hz0 hz1 hz2 rfl (by decide) _ _ _ rfl (HO.out.alloc _) ⟨wr.heap.size, 0, none⟩ 1 1 [.int .i64 k] rfl rfl (cell_one_new _ _ _) (by simp [Value.oneCell']) (by unfold maxLen; omega) (by omega) (by simp; omega) ?_; intro v1 w1 hown1 hgrow1 _; have HO2 := Lib.hid hown1; have HG := Lib.hid hgrow1; clear hown1 hgrow1)
            exact ⟨⟨k + 1, by omega, by go_num, by rw [HP.out]; exact own_snoc HO2.out, own_grown HB.out hsz HO.out HG.out⟩, by simp [intOf]; omega⟩
        · obtain rfl : k = 64 := by omega
          obtain ⟨ar, cr, rfl, hI⟩ := ints_of_owns HO.out (memb_i64 _ _ (by omega)) (by omega)
          have HI := Lib.hid hI
          clear hI
          go_wp2_with (fail)
          go_ret2
          exact ⟨ar, _, cr, by rw [HE.out.2] <;> rfl, by rw [HE.out.1]; exact HI.out, HB.out⟩

end Go.Proofs.Ytcmckcmckbdmhaa
