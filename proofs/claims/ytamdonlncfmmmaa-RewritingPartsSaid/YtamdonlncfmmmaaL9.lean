/-
  RewritingParts.
-/
import Derived.Test.YtamdonlncfmmmaaPLaw
namespace Go.Proofs.Ytamdonlncfmmmaa
open Go.RowKit Go.Ap Go.Shelf Go.Proofs

attribute [local go_sem] Oper.semAt_some bs_toList empty_toList bs_size ext_drop ext_take bs_append
attribute [local go_sem high] run_max3 run_max4

set_option maxRecDepth 100000 in
set_option maxHeartbeats 2000000 in
theorem law9 (a : Option Addr) (n c : Nat) (rs : List Rule) (u v : Str) (w : World) (h : Rls w a n rs) (hu : u.length ≤ 4611686018427387903) (hv : v.length ≤ 4611686018427387903) :
    Calls Try.prog 9 #[.slice a n c, .string (bs u), .string (bs v)] w fun e w' => e = .returned (.bool true) ∧ Below w.heap.size w w' := by
  have B0 := Lib.hid ((Below.refl _ w).alloc (Nat.le_refl _) (.cells #[.string (bs u), .string (bs v)] 9))
  have HX := fun W (hb : Below w.heap.size w W) => h.mono (Nat.le_refl _) hb
  have H32 := Lib.hid (fine32 a (some ⟨w.heap.size, 0, none⟩) n 2 c 2 rs [u, v] _ (HX _ B0.out) (StrsL.lit2 w u v) (by intro s hs; simp at hs; rcases hs with rfl | rfl <;> assumption))
  have H13 := Lib.hid awake13
  cases hf : fineB rs [u, v]
  · rw [hf] at H32
    clear hf HX h
    go_enter Try.func9, Try.ntmps9
    go_wp2_with (fail)
    refine H32.out.mono ?_
    rintro e w1 ⟨rfl, hb⟩
    have B1 := Lib.hid (B0.out.trans (hb.mono (by simp)))
    clear hb
    go_wp2_with (fail)
    refine (H13.out _).mono ?_
    rintro e w2 ⟨rfl, hb⟩
    go_wp2_with (fail)
    go_ret
    exact ⟨rfl, bstep B1.out hb⟩
  · rw [hf] at H32
    obtain ⟨x, y, z, e1, e2, e3, e4, e5⟩ := parts_law hf
    have hl := (fine_ok hf).2.1
    have lu := (hl u (by simp)).1
    have lv := (hl v (by simp)).1
    have HU := Lib.hid (fun W hb => e1 ▸ normal28 a n c rs u W (HX W hb) hu)
    have HV := Lib.hid (fun W hb => e2 ▸ normal28 a n c rs v W (HX W hb) hv)
    have HUV := Lib.hid (fun W hb => e3 ▸ normal28 a n c rs (u ++ v) W (HX W hb) (by rw [List.length_append]; omega))
    have HN := Lib.hid (fun W => e4 ▸ normal28 none 0 0 [] (u ++ v) W ⟨rfl, by omega, fun k x hx => by simp at hx⟩ (by rw [List.length_append]; omega))
    have g1 : ¬ 9223372036854775807 < u.length + v.length := by omega
    clear hf e1 e2 e3 e4 hl lu lv HX h hu hv
    go_enter Try.func9, Try.ntmps9
    go_wp2_with (fail)
    refine H32.out.mono ?_
    rintro e w1 ⟨rfl, hb⟩
    have B1 := Lib.hid (B0.out.trans (hb.mono (by simp)))
    clear hb
    go_wp2_with (fail)
    refine (HU.out _ B1.out).mono ?_
    rintro e w2 ⟨rfl, hb⟩
    have B2 := Lib.hid (bstep B1.out hb)
    clear hb B1
    go_wp2_with (fail)
    refine (HV.out _ B2.out).mono ?_
    rintro e w3 ⟨rfl, hb⟩
    have B3 := Lib.hid (bstep B2.out hb)
    clear hb B2
    go_wp2_with (fail)
    refine (HUV.out _ B3.out).mono ?_
    rintro e w4 ⟨rfl, hb⟩
    have B4 := Lib.hid (bstep B3.out hb)
    clear hb B3
    go_wp2_with (fail)
    refine (HN.out _).mono ?_
    rintro e w5 ⟨rfl, hb⟩
    have B5 := Lib.hid (bstep B4.out hb)
    clear hb B4 HU HV HUV HN H32 B0
    have HE := Lib.hid e5
    clear e5
    cases x <;> cases y <;> cases z
    all_goals first
      | (exfalso; have := HE.out; revert this; decide)
      | (go_wp2_with (fail)
         refine (H13.out _).mono ?_
         rintro e w6 ⟨rfl, hb⟩
         go_wp2_with (fail)
         go_ret
         exact ⟨rfl, bstep B5.out hb⟩)
end Go.Proofs.Ytamdonlncfmmmaa
