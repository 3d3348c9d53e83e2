/-
  The check of one arc (reference).
-/
import Derived.Test.YtjmebijckcimoaaGreatDoorCk24
import Derived.Test.YtjmebijckcimoaaGreatDoorSt24
namespace Go.Proofs.YtjmebijckcimoaaGreatDoor
open Go.RowKit Go.Ap Go.Shelf Go.Proofs

attribute [local go_sem] Oper.semAt_some bs_toList empty_toList bs_size bs_extract
set_option maxRecDepth 100000 in
set_option maxHeartbeats 4000000 in
theorem arcR57 (ws : List Str) (al : List Vg.Arc) (a1 : Option Addr) (n1 c1 : Nat) (a2 : Option Addr) (n2 c2 : Nat) (i : Nat) (x : Vg.Arc) (w : World) (h : GraphM w a1 n1 a2 n2 ws al) (hx : al[i]? = some x) (hn2 : n2 ≤ 65536) :
    Calls Tryz.prog 57 #[graphV a1 n1 c1 a2 n2 c2, .int .i64 (i : Int)] w fun e w' => e = .returned (.int .i64 (Vg.arcC n1 (prevE al i) x)) ∧ Below w.heap.size w w' := by
  have hl2 := h.arcs.len
  have hs1 := h.words.small
  have hi : i < n2 := by rw [← hl2]; exact (List.getElem?_eq_some_iff.1 hx).1
  obtain ⟨x', b, off, a5, k5, hx', rfl, p0, p1, p2, hsrc⟩ := h.arcs.at hi
  rw [hx] at hx'
  cases hx'
  obtain ⟨⟨f, t⟩, src⟩ := x
  have hfr := hsrc.fr
  have hto := hsrc.to
  have hsi := hsrc.src
  simp only at p0 p1 p2 hfr hto hsi
  have HSI := Lib.hid hsi
  obtain ⟨W4, hW4⟩ : ∃ W4, w.alloc (.cells #[.slice a1 n1 c1, .slice (some ⟨b, off, none⟩) n2 c2] 31) = W4 := ⟨_, rfl⟩
  have hB4 : Below w.heap.size w W4 := by rw [← hW4]; exact balloc _ _
  have hX4 : BoxG W4 w.heap.size a1 n1 c1 (some ⟨b, off, none⟩) n2 c2 := by rw [← hW4]; exact BoxG.new w a1 n1 c1 _ n2 c2
  obtain ⟨m5, hm5⟩ : ∃ m, src.length = m := ⟨_, rfl⟩
  rw [hm5] at p2 HSI
  have HM5 := Lib.hid hm5
  have kb := balloc W4 (.cells #[.int .i64 f, .int .i64 t, .slice a5 m5 k5] 48)
  have hK := BlkK.new W4 #[.int .i64 f, .int .i64 t, .slice a5 m5 k5] 48
  obtain ⟨X, hX⟩ : ∃ X, W4.heap.size = X := ⟨_, rfl⟩
  rw [hX] at hK
  have q0 := cell_keep hB4 p0
  have q1 := cell_keep hB4 p1
  have q2 := cell_keep hB4 p2
  have HB5 := Lib.hid (bstep hB4 kb)
  have HX5 := Lib.hid (hX4.below kb)
  obtain ⟨k0, k1⟩ := hX4
  obtain ⟨WA, hWA⟩ : ∃ W, W4.alloc (.cells #[.int .i64 f, .int .i64 t, .slice a5 m5 k5] 48) = W := ⟨_, rfl⟩
  rw [hWA] at hK HB5 HX5
  have HK := Lib.hid hK
  have z0 : WA.cell? ⟨X, 0, none⟩ = some (.int .i64 f) := hK.cell (i := 0) rfl
  have z1 : WA.cell? ⟨X, 1, none⟩ = some (.int .i64 t) := hK.cell (i := 1) rfl
  have z2 : WA.cell? ⟨X, 2, none⟩ = some (.slice a5 m5 k5) := hK.cell (i := 2) rfl
  obtain ⟨j0, j1⟩ := HX5.out
  have i1 : (i : Int) < (n2 : Int) := by omega
  have i0 : (0 : Int) ≤ (i : Int) := by omega
  obtain ⟨pv, hpv⟩ : ∃ p, prevE al i = p := ⟨_, rfl⟩
  have HPV := Lib.hid (show (i = 0 ∧ pv = none) ∨ ∃ (pf pt : Int) (ps : List Int) (a6 : Option Addr) (k6 : Nat), 0 < i ∧ pv = some (pf, pt) ∧ w.cell? ⟨b, off + (i - 1) * 3, none⟩ = some (.int .i64 pf) ∧ w.cell? ⟨b, off + (i - 1) * 3 + 1, none⟩ = some (.int .i64 pt) ∧ w.cell? ⟨b, off + (i - 1) * 3 + 2, none⟩ = some (.slice a6 ps.length k6) ∧ ps.length ≤ 4611686018427387903 by
    by_cases hi0 : i = 0
    · exact .inl ⟨hi0, by rw [← hpv]; unfold prevE; rw [if_pos hi0]⟩
    · obtain ⟨y, b', off', a6, k6, hy, he, g0, g1, g2, gs⟩ := h.arcs.at (show i - 1 < n2 by omega)
      cases he
      obtain ⟨⟨pf, pt⟩, ps⟩ := y
      exact .inr ⟨pf, pt, ps, a6, k6, by omega, by rw [← hpv]; unfold prevE; rw [if_neg hi0, hy]; rfl, g0, g1, g2, gs.src.small⟩)
  rw [hpv]
  clear h hx hl2 hsrc hpv hB4 kb hK p0 p1 p2 hm5 hsi hi
  show Calls _ _ #[.agg #[.slice a1 n1 c1, .slice (some ⟨b, off, none⟩) n2 c2], .int .i64 (i : Int)] _ _
  go_enter Tryz.func57, Tryz.ntmps57
  by_cases r0 : f < 0
  · go_wp2_with (fail)
    go_ret
    exact ⟨ret_i (arcC_range (.inl r0)).symm, HB5.out⟩
  by_cases r1 : (n1 : Int) ≤ f
  · go_wp2_with (fail)
    go_ret
    exact ⟨ret_i (arcC_range (.inr (.inl r1))).symm, HB5.out⟩
  by_cases r2 : t < 0
  · go_wp2_with (fail)
    go_ret
    exact ⟨ret_i (arcC_range (.inr (.inr (.inl r2)))).symm, HB5.out⟩
  by_cases r3 : (n1 : Int) ≤ t
  · go_wp2_with (fail)
    go_ret
    exact ⟨ret_i (arcC_range (.inr (.inr (.inr r3)))).symm, HB5.out⟩
  have HR := Lib.hid (show ¬(f < 0 ∨ (n1 : Int) ≤ f ∨ t < 0 ∨ (n1 : Int) ≤ t) by omega)
  by_cases o0 : t ≤ f
  · go_wp2_with (fail)
    go_ret
    exact ⟨ret_i (arcC_order HR.out (.inl o0)).symm, HB5.out⟩
  rcases HPV.out with ⟨hi0, rfl⟩ | ⟨pf, pt, ps, a6, k6, hip, rfl, g0, g1, g2, hps⟩
  · have e0 : decide ((0 : Int) < (i : Int)) = false := decide_eq_false (by omega)
    have e0' : decide (0 < i) = false := decide_eq_false (by omega)
    have HO := Lib.hid (show ¬(t ≤ f ∨ ∃ q, (none : Option Vg.En) = some q ∧ ¬Vg.ltE q (f, t)) from fun h => by rcases h with h | ⟨q, h, _⟩; exact o0 h; cases h)
    clear hi0
    by_cases s0 : m5 = 0
    · have e5 : ((m5 : Int) == 0) = true := by rw [s0]; rfl
      have hnil : src = [] := List.eq_nil_of_length_eq_zero (by rw [HM5.out, s0])
      have HNL := Lib.hid hnil
      clear s0 hnil
      go_wp2_with (fail)
      go_ret
      exact ⟨ret_i (arcC_arg HR.out HO.out (.inl HNL.out)).symm, HB5.out⟩
    have e5 : ((m5 : Int) == 0) = false := beq_eq_false_iff_ne.2 (by omega)
    have HNN := Lib.hid (show src ≠ [] from fun e => s0 (by rw [← HM5.out, e]; rfl))
    have HSR := Lib.hid (setR a5 m5 k5 src WA (HSI.out.mono (Nat.le_refl _) HB5.out))
    obtain ⟨q, hq⟩ : ∃ q, Vg.setGo none src = q := ⟨_, rfl⟩
    rw [hq] at HSR
    have HQ := Lib.hid hq
    clear hq
    have HPOS := Lib.hid (show 0 < m5 by omega)
    clear s0
    by_cases s1 : q = 0
    · obtain ⟨y, b7, o7, v7, hy, he7, hc7, hv7, _⟩ := Sl.at HSI.out (show m5 - 1 < m5 by have := HPOS.out; omega)
      subst he7 hv7
      have hs5 := HSI.out.small
      have g5 := HPOS.out
      have HY := Lib.hid (show src.getLastD 0 = y by rw [last_nth HNN.out, HM5.out]; unfold nth; rw [List.getD_eq_getElem?_getD, hy]; rfl)
      have w5 : IntKind.i64.wrap ((m5 : Int) - 1) = ((m5 - 1 : Nat) : Int) := by rw [IntWalk.i64_in _ (by omega)]; omega
      have w6 : ((m5 - 1 : Nat) : Int) < (m5 : Int) := by omega
      have c7 := cell_keep HB5.out hc7
      have e6 : (q != 0) = false := by rw [s1]; rfl
      clear hc7 hy g5
      by_cases s2 : 32 ≤ y
      · go_wp2_with (fail)
        refine HSR.out.mono ?_
        rintro e w9 ⟨rfl, q9, rfl⟩
        go_wp2_with (fail)
        go_ret
        exact ⟨ret_i (arcC_arg HR.out HO.out (.inr (.inr (by rw [HY.out]; omega)))).symm, bstep HB5.out (bdrewN _ _)⟩
      · go_wp2_with (fail)
        refine HSR.out.mono ?_
        rintro e w9 ⟨rfl, q9, rfl⟩
        go_wp2_with (fail)
        go_ret
        exact ⟨ret_i (arcC_ok HR.out HO.out (fun h => by rcases h with h | h | h; exact HNN.out h; exact h (by rw [HQ.out]; exact s1); rw [HY.out] at h; omega)).symm, bstep HB5.out (bdrewN _ _)⟩
    · have e6 : (q != 0) = true := by simpa using s1
      go_wp2_with (fail)
      refine HSR.out.mono ?_
      rintro e w9 ⟨rfl, q9, rfl⟩
      go_wp2_with (fail)
      go_ret
      exact ⟨ret_i (arcC_arg HR.out HO.out (.inr (.inl (by rw [HQ.out]; exact s1)))).symm, bstep HB5.out (bdrewN _ _)⟩
  · have e0 : decide ((0 : Int) < (i : Int)) = true := decide_eq_true (by omega)
    have e0' : decide (0 < i) = true := decide_eq_true hip
    obtain ⟨m6, hm6⟩ : ∃ m, ps.length = m := ⟨_, rfl⟩
    rw [hm6] at g2 hps
    have kc := balloc WA (.cells #[.int .i64 pf, .int .i64 pt, .slice a6 m6 k6] 48)
    have hK6 := BlkK.new WA #[.int .i64 pf, .int .i64 pt, .slice a6 m6 k6] 48
    obtain ⟨Y, hY⟩ : ∃ Y, WA.heap.size = Y := ⟨_, rfl⟩
    rw [hY] at hK6
    have l0 := cell_keep HB5.out g0
    have l1 := cell_keep HB5.out g1
    have l2 := cell_keep HB5.out g2
    have HB6 := Lib.hid (bstep HB5.out kc)
    have hK7 := HK.out.below kc
    have hX7 := HX5.out.below kc
    obtain ⟨WB, hWB⟩ : ∃ W, WA.alloc (.cells #[.int .i64 pf, .int .i64 pt, .slice a6 m6 k6] 48) = W := ⟨_, rfl⟩
    rw [hWB] at hK6 HB6 hK7 hX7
    have y0 : WB.cell? ⟨Y, 0, none⟩ = some (.int .i64 pf) := hK6.cell (i := 0) rfl
    have y1 : WB.cell? ⟨Y, 1, none⟩ = some (.int .i64 pt) := hK6.cell (i := 1) rfl
    have x0 : WB.cell? ⟨X, 0, none⟩ = some (.int .i64 f) := hK7.cell (i := 0) rfl
    have x1 : WB.cell? ⟨X, 1, none⟩ = some (.int .i64 t) := hK7.cell (i := 1) rfl
    have x2 : WB.cell? ⟨X, 2, none⟩ = some (.slice a5 m5 k5) := hK7.cell (i := 2) rfl
    have wi : IntKind.i64.wrap ((i : Int) - 1) = ((i - 1 : Nat) : Int) := by rw [IntWalk.i64_in _ (by omega)]; omega
    have wj : ((i - 1 : Nat) : Int) < (n2 : Int) := by omega
    clear kc hK6 hK7 hX7 hm6 g0 g1 g2
    by_cases b0 : f < pf
    · go_wp2_with (fail)
      go_ret
      exact ⟨ret_i (arcC_order HR.out (.inr ⟨_, rfl, fun h => by unfold Vg.ltE at h; simp only at h; omega⟩)).symm, HB6.out⟩
    by_cases b1 : pf = f
    · have e1 : (pf == f) = true := by rw [b1]; exact beq_self_eq_true f
      have HBE := Lib.hid b1
      clear b1
      by_cases b2 : t ≤ pt
      · go_wp2_with (fail)
        go_ret
        exact ⟨ret_i (arcC_order HR.out (.inr ⟨_, rfl, fun h => by unfold Vg.ltE at h; simp only at h; have := HBE.out; omega⟩)).symm, HB6.out⟩
      have HO := Lib.hid (show ¬(t ≤ f ∨ ∃ q, (some (pf, pt) : Option Vg.En) = some q ∧ ¬Vg.ltE q (f, t)) from fun h => by rcases h with h | ⟨q, h, h2⟩; exact o0 h; cases h; exact h2 (by unfold Vg.ltE; simp only; have := HBE.out; omega))
      by_cases s0 : m5 = 0
      · have e5 : ((m5 : Int) == 0) = true := by rw [s0]; rfl
        have hnil : src = [] := List.eq_nil_of_length_eq_zero (by rw [HM5.out, s0])
        have HNL := Lib.hid hnil
        clear s0 hnil
        go_wp2_with (fail)
        go_ret
        exact ⟨ret_i (arcC_arg HR.out HO.out (.inl HNL.out)).symm, HB6.out⟩
      have e5 : ((m5 : Int) == 0) = false := beq_eq_false_iff_ne.2 (by omega)
      have HNN := Lib.hid (show src ≠ [] from fun e => s0 (by rw [← HM5.out, e]; rfl))
      have HSR := Lib.hid (setR a5 m5 k5 src WB (HSI.out.mono (Nat.le_refl _) HB6.out))
      obtain ⟨q, hq⟩ : ∃ q, Vg.setGo none src = q := ⟨_, rfl⟩
      rw [hq] at HSR
      have HQ := Lib.hid hq
      clear hq
      have HPOS := Lib.hid (show 0 < m5 by omega)
      clear s0
      by_cases s1 : q = 0
      · obtain ⟨y, b7, o7, v7, hy, he7, hc7, hv7, _⟩ := Sl.at HSI.out (show m5 - 1 < m5 by have := HPOS.out; omega)
        subst he7 hv7
        have hs5 := HSI.out.small
        have g5 := HPOS.out
        have HY := Lib.hid (show src.getLastD 0 = y by rw [last_nth HNN.out, HM5.out]; unfold nth; rw [List.getD_eq_getElem?_getD, hy]; rfl)
        have w5 : IntKind.i64.wrap ((m5 : Int) - 1) = ((m5 - 1 : Nat) : Int) := by rw [IntWalk.i64_in _ (by omega)]; omega
        have w6 : ((m5 - 1 : Nat) : Int) < (m5 : Int) := by omega
        have c7 := cell_keep HB6.out hc7
        have e6 : (q != 0) = false := by rw [s1]; rfl
        clear hc7 hy g5
        by_cases s2 : 32 ≤ y
        · go_wp2_with (fail)
          refine HSR.out.mono ?_
          rintro e w9 ⟨rfl, q9, rfl⟩
          go_wp2_with (fail)
          go_ret
          exact ⟨ret_i (arcC_arg HR.out HO.out (.inr (.inr (by rw [HY.out]; omega)))).symm, bstep HB6.out (bdrewN _ _)⟩
        · go_wp2_with (fail)
          refine HSR.out.mono ?_
          rintro e w9 ⟨rfl, q9, rfl⟩
          go_wp2_with (fail)
          go_ret
          exact ⟨ret_i (arcC_ok HR.out HO.out (fun h => by rcases h with h | h | h; exact HNN.out h; exact h (by rw [HQ.out]; exact s1); rw [HY.out] at h; omega)).symm, bstep HB6.out (bdrewN _ _)⟩
      · have e6 : (q != 0) = true := by simpa using s1
        go_wp2_with (fail)
        refine HSR.out.mono ?_
        rintro e w9 ⟨rfl, q9, rfl⟩
        go_wp2_with (fail)
        go_ret
        exact ⟨ret_i (arcC_arg HR.out HO.out (.inr (.inl (by rw [HQ.out]; exact s1)))).symm, bstep HB6.out (bdrewN _ _)⟩
    · have e1 : (pf == f) = false := beq_eq_false_iff_ne.2 b1
      have HO := Lib.hid (show ¬(t ≤ f ∨ ∃ q, (some (pf, pt) : Option Vg.En) = some q ∧ ¬Vg.ltE q (f, t)) from fun h => by rcases h with h | ⟨q, h, h2⟩; exact o0 h; cases h; exact h2 (by unfold Vg.ltE; simp only; omega))
      clear b1
      by_cases s0 : m5 = 0
      · have e5 : ((m5 : Int) == 0) = true := by rw [s0]; rfl
        have hnil : src = [] := List.eq_nil_of_length_eq_zero (by rw [HM5.out, s0])
        have HNL := Lib.hid hnil
        clear s0 hnil
        go_wp2_with (fail)
        go_ret
        exact ⟨ret_i (arcC_arg HR.out HO.out (.inl HNL.out)).symm, HB6.out⟩
      have e5 : ((m5 : Int) == 0) = false := beq_eq_false_iff_ne.2 (by omega)
      have HNN := Lib.hid (show src ≠ [] from fun e => s0 (by rw [← HM5.out, e]; rfl))
      have HSR := Lib.hid (setR a5 m5 k5 src WB (HSI.out.mono (Nat.le_refl _) HB6.out))
      obtain ⟨q, hq⟩ : ∃ q, Vg.setGo none src = q := ⟨_, rfl⟩
      rw [hq] at HSR
      have HQ := Lib.hid hq
      clear hq
      have HPOS := Lib.hid (show 0 < m5 by omega)
      clear s0
      by_cases s1 : q = 0
      · obtain ⟨y, b7, o7, v7, hy, he7, hc7, hv7, _⟩ := Sl.at HSI.out (show m5 - 1 < m5 by have := HPOS.out; omega)
        subst he7 hv7
        have hs5 := HSI.out.small
        have g5 := HPOS.out
        have HY := Lib.hid (show src.getLastD 0 = y by rw [last_nth HNN.out, HM5.out]; unfold nth; rw [List.getD_eq_getElem?_getD, hy]; rfl)
        have w5 : IntKind.i64.wrap ((m5 : Int) - 1) = ((m5 - 1 : Nat) : Int) := by rw [IntWalk.i64_in _ (by omega)]; omega
        have w6 : ((m5 - 1 : Nat) : Int) < (m5 : Int) := by omega
        have c7 := cell_keep HB6.out hc7
        have e6 : (q != 0) = false := by rw [s1]; rfl
        clear hc7 hy g5
        by_cases s2 : 32 ≤ y
        · go_wp2_with (fail)
          refine HSR.out.mono ?_
          rintro e w9 ⟨rfl, q9, rfl⟩
          go_wp2_with (fail)
          go_ret
          exact ⟨ret_i (arcC_arg HR.out HO.out (.inr (.inr (by rw [HY.out]; omega)))).symm, bstep HB6.out (bdrewN _ _)⟩
        · go_wp2_with (fail)
          refine HSR.out.mono ?_
          rintro e w9 ⟨rfl, q9, rfl⟩
          go_wp2_with (fail)
          go_ret
          exact ⟨ret_i (arcC_ok HR.out HO.out (fun h => by rcases h with h | h | h; exact HNN.out h; exact h (by rw [HQ.out]; exact s1); rw [HY.out] at h; omega)).symm, bstep HB6.out (bdrewN _ _)⟩
      · have e6 : (q != 0) = true := by simpa using s1
        go_wp2_with (fail)
        refine HSR.out.mono ?_
        rintro e w9 ⟨rfl, q9, rfl⟩
        go_wp2_with (fail)
        go_ret
        exact ⟨ret_i (arcC_arg HR.out HO.out (.inr (.inl (by rw [HQ.out]; exact s1)))).symm, bstep HB6.out (bdrewN _ _)⟩
end Go.Proofs.YtjmebijckcimoaaGreatDoor
