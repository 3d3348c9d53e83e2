import Derived.Test.YtcmckcmckbdmhaaW4
import Derived.Test.YtcmckcmckbdmhaaShelf
namespace Go.Proofs.Ytcmckcmckbdmhaa
open Go.RowKit Go.Ap

theorem bsearch69 (a : Option Addr) (n c : Nat) (xs : List Int) (k : Int) (w : World) (h : Ints w a n xs) (hs : SetL xs) :
    Calls Try.prog 69 #[.slice a n c, .int .i64 k] w fun e w' => ∃ i, e = .returned (.tuple #[.int .i64 i, .bool (xs.contains k)]) ∧ ∃ q, w' = w.drewN q := by
  by_cases h0 : n = 0
  · subst h0
    have := h.zero
    subst this
    exact (Try.slices_BinarySearch_int_empty a c k w).mono (by rintro e w' ⟨rfl, rfl⟩; exact ⟨_, rfl, 0, rfl⟩)
  · obtain ⟨b, off, rfl, hc⟩ := Ints.at h (by omega)
    have := Try.slices_BinarySearch_int b off n c xs k w (by rw [h.len]; omega) (by have := h.small; omega) (fun j hj => hc j (by rw [← h.len]; exact hj)) (by rw [List.take_of_length_le (by rw [h.len]; omega)]; exact hs.le)
    rw [List.take_of_length_le (by rw [h.len]; omega)] at this
    exact this.mono (by rintro e w' ⟨rfl, q, rfl⟩; exact ⟨_, rfl, q, rfl⟩)

theorem has68 (bx : Nat) (a : Option Addr) (n c : Nat) (xs : List Int) (k : Int) (w : World) (hb : w.cell? ⟨bx, 0, none⟩ = some (.slice a n c)) (h : Ints w a n xs) (hs : SetL xs) :
    Calls Try.prog 68 #[.int .i64 k, .pointer (some ⟨bx, 0, none⟩)] w fun e w' => e = .returned (.bool (xs.contains k)) ∧ ∃ q, w' = w.drewN q := by
  have H := Lib.hid (bsearch69 a n c xs k w h hs)
  go_enter Try.func68, Try.ntmps68
  go_wp2_with (fail)
  refine (H.out).mono ?_
  rintro e w' ⟨i, rfl, q, rfl⟩
  generalize hr : xs.contains k = r
  have HR := Lib.hid hr
  clear hr
  go_wp2_with (fail)
  go_ret
  exact ⟨ret_b HR.out.symm, _, rfl⟩

theorem has44 (a : Option Addr) (n c : Nat) (xs : List Int) (w : World) (h : Ints w a n xs) (hs : SetL xs) :
    Calls Try.prog 44 #[.slice a n c] w fun e w' => ∃ cap, e = .returned (.func (.func 68) #[] cap) ∧ Fn1 Try.prog 68 cap (fun k => xs.contains k) w' ∧ Below w.heap.size w w' := by
  go_enter Try.func44, Try.ntmps44
  go_wp2_with (fail)
  go_ret
  have hbl : Below w.heap.size w (w.alloc (.cells #[.slice a n c] 22)) := (Below.refl _ w).alloc (Nat.le_refl _) _
  refine ⟨_, rfl, ⟨enters_of Try.func68 (by kernel_rfl) rfl, fun w' hw k _ => ?_⟩, hbl⟩
  exact has68 _ a n c xs k w' ((hw.cell (p := ⟨w.heap.size, 0, none⟩) (by simp)).trans (by simp)) (h.mono (Nat.le_refl _) (hbl.trans (hw.mono hbl.size))) hs

end Go.Proofs.Ytcmckcmckbdmhaa
