import Derived.Test.YtcmckcmckbdmhaaW42
namespace Go.Proofs.Ytcmckcmckbdmhaa
open Go.RowKit Go.Ap Go.Shelf

set_option maxRecDepth 100000 in
set_option maxHeartbeats 2000000 in
theorem refpart40_bad (b : Option Addr) (m d N : Nat) (xss : List (List Int)) (w : World) (hx : Rows2 w b m xss) (hN : N ≤ 64) (hm : m ≤ 1000) (sx : (xss.any fun xs => chk xs != 0) = true) :
    Calls Try.prog 40 #[.int .i64 N, .slice b m d] w fun e w' => e = .returned (.tuple #[.bool false, .int .i64 1]) ∧ Below w.heap.size w w' := by
  have HX := Lib.hid hx
  have HXL := Lib.hid hx.len
  have HSX := Lib.hid sx
  have d1 : decide ((N : Int) < 0) = false := by simp
  have d2 : decide (64 < (N : Int)) = false := by simp; omega
  clear hx sx
  go_enter Try.func40, Try.ntmps40
  go_wp2_with (fail)
  go_loopw [6] (fun i wr => ∃ k q : Nat, k ≤ m ∧ i = .int .i64 k ∧ wr = w.drewN q ∧ ((xss.drop k).any fun xs => chk xs != 0) = true) (fun i _ => m - (intOf i).toNat)
  case atStart => exact ⟨0, 0, by omega, rfl, rfl, HSX.out⟩
  case round =>
    obtain ⟨k, q, hk, rfl, rfl, hch⟩ := hrel
    have HC := Lib.hid hch
    clear hch
    by_cases hlt : k < m
    · have hx1 := HX.out
      obtain ⟨xs, b2, o2, v2, hxs, rfl, hc2, a3, n3, c3, rfl, hI3⟩ := Sl.at hx1 hlt
      have hkl : k < xss.length := by rw [HXL.out]; exact hlt
      have hst : ((xss.drop k).any fun xs => chk xs != 0) = ((chk xs != 0) || ((xss.drop (k + 1)).any fun xs => chk xs != 0)) := by
        rw [List.drop_eq_getElem_cons hkl, List.any_cons]
        rw [List.getElem?_eq_getElem hkl] at hxs
        cases hxs
        rfl
      have HS := Lib.hid hst
      have H2 := Lib.hid (refcheck_any a3 n3 c3 xs (w.drewN q) hI3.drewN)
      clear hxs hI3 hx1 hst hkl
      cases h2 : (chk xs != 0)
      · have HN := Lib.hid (show ((xss.drop (k + 1)).any fun xs => chk xs != 0) = true by rw [← HC.out, HS.out, h2]; rfl)
        generalize chk xs = ck at *
        go_wp2_with (fail)
        refine (H2.out).mono ?_
        rintro e w' ⟨rfl, r, rfl⟩
        go_wp2_with (fail)
        exact ⟨⟨k + 1, _, by omega, by go_num, rfl, HN.out⟩, by simp [intOf]; omega⟩
      · generalize chk xs = ck at *
        go_wp2_with (fail)
        refine (H2.out).mono ?_
        rintro e w' ⟨rfl, r, rfl⟩
        go_wp2_with (fail)
        go_ret2
        exact ⟨rfl, bdrewN w _⟩
    · have := HC.out
      rw [List.drop_eq_nil_of_le (by rw [HXL.out]; omega)] at this
      cases this

theorem refpart40 (b : Option Addr) (m d : Nat) (n : Int) (xss : List (List Int)) (w : World) (hn : I64 n) (hx : Rows2 w b m xss) (hm : m ≤ 1000) :
    Calls Try.prog 40 #[.int .i64 n, .slice b m d] w fun e w' => e = .returned (.tuple #[.bool (partR n xss), .int .i64 (partE n xss)]) ∧ Below w.heap.size w w' := by
  by_cases h1 : n < 0 ∨ 64 < n
  · have hE : partE n xss = 2 := by rw [partE, if_pos h1]
    have hR : partR n xss = false := by rw [partR, hE]; rfl
    rw [hE, hR]
    clear hE hR hx
    by_cases h2 : n < 0
    · have d1 : decide (n < 0) = true := by simpa using h2
      go_enter Try.func40, Try.ntmps40
      go_wp2_with (fail)
      go_ret2
      exact ⟨rfl, Below.refl _ _⟩
    · have d1 : decide (n < 0) = false := by simpa using h2
      have d2 : decide (64 < n) = true := by simp; omega
      go_enter Try.func40, Try.ntmps40
      go_wp2_with (fail)
      go_ret2
      exact ⟨rfl, Below.refl _ _⟩
  · obtain ⟨N, rfl⟩ : ∃ N : Nat, n = N := ⟨n.toNat, by omega⟩
    cases h3 : (xss.any fun xs => chk xs != 0)
    · have hE : partE N xss = 0 := by rw [partE, if_neg h1, h3]; rfl
      have hR : partR N xss = partB N xss := by rw [partR, hE]; rfl
      rw [hE, hR]
      exact refpart40_ok b m d N xss w hx (by omega) hm h3
    · have hE : partE N xss = 1 := by rw [partE, if_neg h1, h3]; rfl
      have hR : partR N xss = false := by rw [partR, hE]; rfl
      rw [hE, hR]
      exact refpart40_bad b m d N xss w hx (by omega) hm h3

end Go.Proofs.Ytcmckcmckbdmhaa
