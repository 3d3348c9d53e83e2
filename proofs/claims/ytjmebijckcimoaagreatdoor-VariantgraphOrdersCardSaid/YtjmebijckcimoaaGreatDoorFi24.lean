/-
  Which collations the laws speak of.
-/
import Derived.Test.YtjmebijckcimoaaGreatDoorQ7
import Derived.Test.YtjmebijckcimoaaGreatDoorRnc
import Derived.Test.YtjmebijckcimoaaGreatDoorCn24
namespace Go.Proofs.YtjmebijckcimoaaGreatDoor
open Go.RowKit Go.Ap Go.Shelf Go.Proofs

attribute [local go_sem] Oper.semAt_some bs_toList empty_toList bs_size bs_extract
set_option maxHeartbeats 1000000 in
theorem fineP (x : Coll) (a1 : Option Addr) (n1 c1 : Nat) (a2 : Option Addr) (n2 c2 : Nat) (a3 : Option Addr) (n3 c3 : Nat) (w : World) (h : CollM w a1 a2 a3 n1 n2 n3 x) :
    Calls Tryz.prog 26 #[collV x.sec a1 n1 c1 a2 n2 c2 a3 n3 c3] w fun e w' => (∃ b, e = .returned (.bool b) ∧ (b = true → collC x = 0 ∧ x.columns.length ≤ 24)) ∧ Below w.heap.size w w' := by
  have HGR := Lib.hid (fun W (hb : Below w.heap.size w W) => greatR x a1 n1 c1 a2 n2 c2 a3 n3 c3 W (h.mono (Nat.le_refl _) hb))
  have HCR := Lib.hid (fun W (hb : Below w.heap.size w W) => collR x a1 n1 c1 a2 n2 c2 a3 n3 c3 W (h.mono (Nat.le_refl _) hb))
  obtain ⟨W4, hW4⟩ : ∃ W4, w.alloc (.cells #[.string (bs x.sec), .slice a1 n1 c1, .slice a2 n2 c2, .slice a3 n3 c3] 26) = W4 := ⟨_, rfl⟩
  have HB4 := Lib.hid (show Below w.heap.size w W4 by rw [← hW4]; exact balloc _ _)
  have HBX := Lib.hid (show BoxC W4 w.heap.size x.sec a1 n1 c1 a2 n2 c2 a3 n3 c3 by rw [← hW4]; exact BoxC.new w _ _ _ _ _ _ _ _ _ _)
  clear h
  obtain ⟨q, hq⟩ : ∃ q, collC x = q := ⟨_, rfl⟩
  rw [hq] at HCR
  have HQ := Lib.hid hq
  obtain ⟨d, hd⟩ : ∃ d, (q == 0) = d := ⟨_, rfl⟩
  have HD := Lib.hid hd
  clear hq
  unfold collV at HGR HCR ⊢
  go_enter Tryz.func26, Tryz.ntmps26
  obtain ⟨k0, k1, k2, k3⟩ := HBX.out
  go_wp2_with (fail)
  refine (HGR.out _ HB4.out).mono ?_
  rintro e w1 ⟨⟨b, rfl, hb⟩, hb1⟩
  have HB1 := Lib.hid (bstep HB4.out hb1)
  have HX1 := Lib.hid (HBX.out.below hb1)
  have HGB := Lib.hid hb
  clear k0 k1 k2 k3 hb1 hb
  obtain ⟨k0, k1, k2, k3⟩ := HX1.out
  cases b
  · go_wp2_with (fail)
    refine (HCR.out _ HB1.out).mono ?_
    rintro e w2 ⟨rfl, hb2⟩
    go_wp2_with (fail)
    go_ret
    exact ⟨⟨_, rfl, fun h => ⟨by rw [HQ.out]; rw [← HD.out] at h; simpa using h, HGB.out (by first | rfl | trivial)⟩⟩, bstep HB1.out hb2⟩
  · go_wp2_with (fail)
    go_ret
    exact ⟨⟨_, rfl, fun h => by cases h⟩, HB1.out⟩
end Go.Proofs.YtjmebijckcimoaaGreatDoor
