import Derived.Test.YtcmckcmckbdmhaaCov2
import Derived.Test.YtcmckcmckbdmhaaL4
namespace Go.Proofs.Ytcmckcmckbdmhaa
open Go.RowKit Go.Ap Go.Shelf

/-- what makes one of m lists too great -/
def great1 (m : Nat) (xs : List Int) : Bool := decide (12 < xs.length) || (decide (7 < m) && (decide (m ≤ 16) || decide (0 < xs.length)))
def greatL (xss : List (List Int)) : Bool := decide (20 < xss.length) || xss.any (great1 xss.length)

set_option maxHeartbeats 1000000 in
theorem great21 (b : Option Addr) (m d : Nat) (xss : List (List Int)) (w : World) (hx : Rows2 w b m xss) :
    Calls Try.prog 21 #[.slice b m d] w fun e w' => e = .returned (.bool (greatL xss)) ∧ w = w' := by
  have HX := Lib.hid hx
  have HXL := Lib.hid hx.len
  have hsm := hx.small
  by_cases h20 : 20 < m
  · have hr : greatL xss = true := by rw [greatL, HXL.out]; simp [h20]
    have HR := Lib.hid hr
    clear hr hx
    go_enter Try.func21, Try.ntmps21
    go_wp2_with (fail)
    go_ret
    exact ⟨ret_b HR.out.symm, rfl⟩
  · have hr : greatL xss = xss.any (great1 m) := by rw [greatL, HXL.out]; simp [h20]
    rw [hr]
    generalize hR : xss.any (great1 m) = r
    have HR := Lib.hid hR
    clear hr hR hx
    go_enter Try.func21, Try.ntmps21
    go_wp2_with (fail)
    go_loop [3] (fun i => ∃ k : Nat, k ≤ m ∧ i = .int .i64 k ∧ (xss.drop k).any (great1 m) = r) (fun i => m - (intOf i).toNat)
    case atStart => exact ⟨0, by omega, rfl, HR.out⟩
    case round =>
      obtain ⟨k, hk, rfl, hch⟩ := hrel
      have HC := Lib.hid hch
      clear hch
      by_cases hlt : k < m
      · have hx1 := HX.out
        obtain ⟨xs, b2, o2, v2, hxs, rfl, hc2, a3, n3, c3, rfl, hI3⟩ := Sl.at hx1 hlt
        have hdr : (xss.drop k).any (great1 m) = (great1 m xs || (xss.drop (k + 1)).any (great1 m)) := by
          have hkl : k < xss.length := by rw [HXL.out]; exact hlt
          rw [List.drop_eq_getElem_cons hkl, List.any_cons]
          rw [List.getElem?_eq_getElem hkl] at hxs
          cases hxs
          rfl
        have HD := Lib.hid hdr
        have HL3 := Lib.hid hI3.len
        have hs3 := hI3.small
        have H20 := Lib.hid (great20 a3 n3 c3 w (by omega))
        clear hxs hI3 hx1 hdr
        go_wp2_with (fail)
        refine (H20.out).mono ?_
        rintro e w' ⟨rfl, rfl⟩
        cases hg : great1 m xs
        · have HN := Lib.hid (show (xss.drop (k + 1)).any (great1 m) = r by rw [← HC.out, HD.out, hg]; rfl)
          have hf : ¬ 12 < n3 ∧ ¬ (7 < m ∧ (m ≤ 16 ∨ 0 < n3)) := by
            rw [great1, HL3.out] at hg
            simp only [Bool.or_eq_false_iff, Bool.and_eq_false_iff, decide_eq_false_iff_not] at hg
            omega
          have hf1 := hf.1
          have hf2 := hf.2
          clear hg hf
          by_cases h7 : 7 < m
          · have h16 : ¬ m ≤ 16 := by omega
            have h0 : ¬ 0 < n3 := by omega
            go_wp2_with (fail)
            exact ⟨⟨k + 1, by omega, by go_num, HN.out⟩, by simp [intOf]; omega⟩
          · go_wp2_with (fail)
            exact ⟨⟨k + 1, by omega, by go_num, HN.out⟩, by simp [intOf]; omega⟩
        · have HRT := Lib.hid (show r = true by rw [← HC.out, HD.out, hg]; rfl)
          have hf : 12 < n3 ∨ (7 < m ∧ (m ≤ 16 ∨ 0 < n3)) := by
            rw [great1, HL3.out] at hg
            simp only [Bool.or_eq_true, Bool.and_eq_true, decide_eq_true_eq] at hg
            omega
          clear hg
          by_cases h12 : 12 < n3
          · go_wp2_with (fail)
            go_ret
            exact ⟨ret_b HRT.out.symm, rfl⟩
          · have h7 : 7 < m := by omega
            by_cases h16 : m ≤ 16
            · clear hf
              go_wp2_with (fail)
              go_ret
              exact ⟨ret_b HRT.out.symm, rfl⟩
            · have h0 : 0 < n3 := by omega
              clear hf
              go_wp2_with (fail)
              go_ret
              exact ⟨ret_b HRT.out.symm, rfl⟩
      · have HF := Lib.hid (show r = false by rw [← HC.out, List.drop_eq_nil_of_le (by rw [HXL.out]; omega)]; rfl)
        go_wp2_with (fail)
        go_ret
        exact ⟨ret_b HF.out.symm, rfl⟩

end Go.Proofs.Ytcmckcmckbdmhaa
