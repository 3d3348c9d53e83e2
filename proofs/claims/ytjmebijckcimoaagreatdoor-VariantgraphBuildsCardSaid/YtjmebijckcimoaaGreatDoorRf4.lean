import Derived.Test.YtjmebijckcimoaaGreatDoorCk24
import Derived.Test.YtjmebijckcimoaaGreatDoorSt24
import Derived.Test.YtjmebijckcimoaaGreatDoorCg
import Derived.Test.YtjmebijckcimoaaGreatDoorPlM24



namespace Go.Proofs.YtjmebijckcimoaaGreatDoor
open Go.RowKit Go.Ap Go.Shelf Go.Proofs

attribute [local go_sem] Oper.semAt_some bs_toList empty_toList bs_size bs_extract
set_option maxRecDepth 100000 in
set_option maxHeartbeats 4000000 in
theorem arcR57 (ws : List Str) (al : List Vg.Arc) (a1 : Option Addr) (n1 c1 : Nat) (a2 : Option Addr) (n2 c2 : Nat) (i : Nat) (x : Vg.Arc) (w : World) (h : GraphM w a1 n1 a2 n2 ws al) (hx : al[i]? = some x) (hn2 : n2 ≤ 65536) :
    Calls Tryz.prog 57 #[graphV a1 n1 c1 a2 n2 c2, .int .i64 (i : Int)] w fun e w' => e = .returned (.int .i64 (Vg.arcC n1 (prevE al i) x)) ∧ Below w.heap.size w w' := by
  have hl2 := h.arcs.len
  have hs1 := h.words.small
  have hi : i < n2 := by rw [← hl2]; exact (List.getElem?_eq_some_iff.1 hx).1
  obtain ⟨x', b, off, a5, k5, hx', rfl, p0, p1, p2, hsrc⟩ := h.arcs.at hi
  rw [hx] at hx'
  cases hx'
  obtain ⟨⟨f, t⟩, src⟩ := x
  have hfr := hsrc.fr
  have hto := hsrc.to
  have hsi := hsrc.src
  simp only at p0 p1 p2 hfr hto hsi
  have HSI := Lib.hid hsi
  obtain ⟨W4, hW4⟩ : ∃ W4, w.alloc (.cells #[.slice a1 n1 c1, .slice (some ⟨b, off, none⟩) n2 c2] 31) = W4 := ⟨_, rfl⟩
  have hB4 : Below w.heap.size w W4 := by rw [← hW4]; exact balloc _ _
  have hX4 : BoxG W4 w.heap.size a1 n1 c1 (some ⟨b, off, none⟩) n2 c2 := by rw [← hW4]; exact BoxG.new w a1 n1 c1 _ n2 c2
  obtain ⟨m5, hm5⟩ : ∃ m, src.length = m := ⟨_, rfl⟩
  rw [hm5] at p2 HSI
  have HM5 := Lib.hid hm5
  have kb := balloc W4 (.cells #[.int .i64 f, .int .i64 t, .slice a5 m5 k5] 48)
  have hK := BlkK.new W4 #[.int .i64 f, .int .i64 t, .slice a5 m5 k5] 48
  obtain ⟨X, hX⟩ : ∃ X, W4.heap.size = X := ⟨_, rfl⟩
  rw [hX] at hK
  have q0 := cell_keep hB4 p0
  have q1 := cell_keep hB4 p1
  have q2 := cell_keep hB4 p2
  have HB5 := Lib.hid (bstep hB4 kb)
  have HX5 := Lib.hid (hX4.below kb)
  obtain ⟨k0, k1⟩ := hX4
  obtain ⟨WA, hWA⟩ : ∃ W, W4.alloc (.cells #[.int .i64 f, .int .i64 t, .slice a5 m5 k5] 48) = W := ⟨_, rfl⟩
  rw [hWA] at hK HB5 HX5
  have HK := Lib.hid hK
  have z0 : WA.cell? ⟨X, 0, none⟩ = some (.int .i64 f) := hK.cell (i := 0) rfl
  have z1 : WA.cell? ⟨X, 1, none⟩ = some (.int .i64 t) := hK.cell (i := 1) rfl
  have z2 : WA.cell? ⟨X, 2, none⟩ = some (.slice a5 m5 k5) := hK.cell (i := 2) rfl
  obtain ⟨j0, j1⟩ := HX5.out
  have i1 : (i : Int) < (n2 : Int) := by omega
  have i0 : (0 : Int) ≤ (i : Int) := by omega
  obtain ⟨pv, hpv⟩ : ∃ p, prevE al i = p := ⟨_, rfl⟩
  have HPV := Lib.hid (show (i = 0 ∧ pv = none) ∨ ∃ (pf pt : Int) (ps : List Int) (a6 : Option Addr) (k6 : Nat), 0 < i ∧ pv = some (pf, pt) ∧ w.cell? ⟨b, off + (i - 1) * 3, none⟩ = some (.int .i64 pf) ∧ w.cell? ⟨b, off + (i - 1) * 3 + 1, none⟩ = some (.int .i64 pt) ∧ w.cell? ⟨b, off + (i - 1) * 3 + 2, none⟩ = some (.slice a6 ps.length k6) ∧ ps.length ≤ 4611686018427387903 by
    by_cases hi0 : i = 0
    · exact .inl ⟨hi0, by rw [← hpv]; unfold prevE; rw [if_pos hi0]⟩
    · obtain ⟨y, b', off', a6, k6, hy, he, g0, g1, g2, gs⟩ := h.arcs.at (show i - 1 < n2 by omega)
      cases he
      obtain ⟨⟨pf, pt⟩, ps⟩ := y
      exact .inr ⟨pf, pt, ps, a6, k6, by omega, by rw [← hpv]; unfold prevE; rw [if_neg hi0, hy]; rfl, g0, g1, g2, gs.src.small⟩)
  rw [hpv]
  clear h hx hl2 hsrc hpv hB4 kb hK p0 p1 p2 hm5 hsi hi
  show Calls _ _ #[.agg #[.slice a1 n1 c1, .slice (some ⟨b, off, none⟩) n2 c2], .int .i64 (i : Int)] _ _
  go_enter Tryz.func57, Tryz.ntmps57
  by_cases r0 : f < 0
  · go_wp2_with (fail)
    go_ret
    exact ⟨ret_i (arcC_range (.inl r0)).symm, HB5.out⟩
  by_cases r1 : (n1 : Int) ≤ f
  · go_wp2_with (fail)
    go_ret
    exact ⟨ret_i (arcC_range (.inr (.inl r1))).symm, HB5.out⟩
  by_cases r2 : t < 0
  · go_wp2_with (fail)
    go_ret
    exact ⟨ret_i (arcC_range (.inr (.inr (.inl r2)))).symm, HB5.out⟩
  by_cases r3 : (n1 : Int) ≤ t
  · go_wp2_with (fail)
    go_ret
    exact ⟨ret_i (arcC_range (.inr (.inr (.inr r3)))).symm, HB5.out⟩
  have HR := Lib.hid (show ¬(f < 0 ∨ (n1 : Int) ≤ f ∨ t < 0 ∨ (n1 : Int) ≤ t) by omega)
  by_cases o0 : t ≤ f
  · go_wp2_with (fail)
    go_ret
    exact ⟨ret_i (arcC_order HR.out (.inl o0)).symm, HB5.out⟩
  rcases HPV.out with ⟨hi0, rfl⟩ | ⟨pf, pt, ps, a6, k6, hip, rfl, g0, g1, g2, hps⟩
  · have e0 : decide ((0 : Int) < (i : Int)) = false := decide_eq_false (by omega)
    have e0' : decide (0 < i) = false := decide_eq_false (by omega)
    have HO := Lib.hid (show ¬(t ≤ f ∨ ∃ q, (none : Option Vg.En) = some q ∧ ¬Vg.ltE q (f, t)) from fun h => by rcases h with h | ⟨q, h, _⟩; exact o0 h; cases h)
    clear hi0
    by_cases s0 : m5 = 0
    · have e5 : ((m5 : Int) == 0) = true := by rw [s0]; rfl
      have hnil : src = [] := List.eq_nil_of_length_eq_zero (by rw [HM5.out, s0])
      have HNL := Lib.hid hnil
      clear s0 hnil
      go_wp2_with (fail)
      go_ret
      exact ⟨ret_i (arcC_arg HR.out HO.out (.inl HNL.out)).symm, HB5.out⟩
    have e5 : ((m5 : Int) == 0) = false := beq_eq_false_iff_ne.2 (by omega)
    have HNN := Lib.hid (show src ≠ [] from fun e => s0 (by rw [← HM5.out, e]; rfl))
    have HSR := Lib.hid (setR a5 m5 k5 src WA (HSI.out.mono (Nat.le_refl _) HB5.out))
    obtain ⟨q, hq⟩ : ∃ q, Vg.setGo none src = q := ⟨_, rfl⟩
    rw [hq] at HSR
    have HQ := Lib.hid hq
    clear hq
    have HPOS := Lib.hid (show 0 < m5 by omega)
    clear s0
    by_cases s1 : q = 0
    · obtain ⟨y, b7, o7, v7, hy, he7, hc7, hv7, _⟩ := Sl.at HSI.out (show m5 - 1 < m5 by have := HPOS.out; omega)
      subst he7 hv7
      have hs5 := HSI.out.small
      have g5 := HPOS.out
      have HY := Lib.hid (show src.getLastD 0 = y by rw [last_nth HNN.out, HM5.out]; unfold nth; rw [List.getD_eq_getElem?_getD, hy]; rfl)
      have w5 : IntKind.i64.wrap ((m5 : Int) - 1) = ((m5 - 1 : Nat) : Int) := by rw [IntWalk.i64_in _ (by omega)]; omega
      have w6 : ((m5 - 1 : Nat) : Int) < (m5 : Int) := by omega
      have c7 := cell_keep HB5.out hc7
      have e6 : (q != 0) = false := by rw [s1]; rfl
      clear hc7 hy g5
      by_cases s2 : 32 ≤ y
      · go_wp2_with (fail)
        refine HSR.out.mono ?_
        rintro e w9 ⟨rfl, q9, rfl⟩
        go_wp2_with (fail)
        go_ret
        exact ⟨ret_i (arcC_arg HR.out HO.out (.inr (.inr (by rw [HY.out]; omega)))).symm, bstep HB5.out (bdrewN _ _)⟩
      · go_wp2_with (fail)
        refine HSR.out.mono ?_
        rintro e w9 ⟨rfl, q9, rfl⟩
        go_wp2_with (fail)
        go_ret
        exact ⟨ret_i (arcC_ok HR.out HO.out (fun h => by rcases h with h | h | h; exact HNN.out h; exact h (by rw [HQ.out]; exact s1); rw [HY.out] at h; omega)).symm, bstep HB5.out (bdrewN _ _)⟩
    · have e6 : (q != 0) = true := by simpa using s1
      go_wp2_with (fail)
      refine HSR.out.mono ?_
      rintro e w9 ⟨rfl, q9, rfl⟩
      go_wp2_with (fail)
      go_ret
      exact ⟨ret_i (arcC_arg HR.out HO.out (.inr (.inl (by rw [HQ.out]; exact s1)))).symm, bstep HB5.out (bdrewN _ _)⟩
  · have e0 : decide ((0 : Int) < (i : Int)) = true := decide_eq_true (by omega)
    have e0' : decide (0 < i) = true := decide_eq_true hip
    obtain ⟨m6, hm6⟩ : ∃ m, ps.length = m := ⟨_, rfl⟩
    rw [hm6] at g2 hps
    have kc := balloc WA (.cells #[.int .i64 pf, .int .i64 pt, .slice a6 m6 k6] 48)
    have hK6 := BlkK.new WA #[.int .i64 pf, .int .i64 pt, .slice a6 m6 k6] 48
    obtain ⟨Y, hY⟩ : ∃ Y, WA.heap.size = Y := ⟨_, rfl⟩
    rw [hY] at hK6
    have l0 := cell_keep HB5.out g0
    have l1 := cell_keep HB5.out g1
    have l2 := cell_keep HB5.out g2
    have HB6 := Lib.hid (bstep HB5.out kc)
    have hK7 := HK.out.below kc
    have hX7 := HX5.out.below kc
    obtain ⟨WB, hWB⟩ : ∃ W, WA.alloc (.cells #[.int .i64 pf, .int .i64 pt, .slice a6 m6 k6] 48) = W := ⟨_, rfl⟩
    rw [hWB] at hK6 HB6 hK7 hX7
    have y0 : WB.cell? ⟨Y, 0, none⟩ = some (.int .i64 pf) := hK6.cell (i := 0) rfl
    have y1 : WB.cell? ⟨Y, 1, none⟩ = some (.int .i64 pt) := hK6.cell (i := 1) rfl
    have x0 : WB.cell? ⟨X, 0, none⟩ = some (.int .i64 f) := hK7.cell (i := 0) rfl
    have x1 : WB.cell? ⟨X, 1, none⟩ = some (.int .i64 t) := hK7.cell (i := 1) rfl
    have x2 : WB.cell? ⟨X, 2, none⟩ = some (.slice a5 m5 k5) := hK7.cell (i := 2) rfl
    have wi : IntKind.i64.wrap ((i : Int) - 1) = ((i - 1 : Nat) : Int) := by rw [IntWalk.i64_in _ (by omega)]; omega
    have wj : ((i - 1 : Nat) : Int) < (n2 : Int) := by omega
    clear kc hK6 hK7 hX7 hm6 g0 g1 g2
    by_cases b0 : f < pf
    · go_wp2_with (fail)
      go_ret
      exact ⟨ret_i (arcC_order HR.out (.inr ⟨_, rfl, fun h => by unfold Vg.ltE at h; simp only at h; omega⟩)).symm, HB6.out⟩
    by_cases b1 : pf = f
    · have e1 : (pf == f) = true := by rw [b1]; exact beq_self_eq_true f
      have HBE := Lib.hid b1
      clear b1
      by_cases b2 : t ≤ pt
      · go_wp2_with (fail)
        go_ret
        exact ⟨ret_i (arcC_order HR.out (.inr ⟨_, rfl, fun h => by unfold Vg.ltE at h; simp only at h; have := HBE.out; omega⟩)).symm, HB6.out⟩
      have HO := Lib.hid (show ¬(t ≤ f ∨ ∃ q, (some (pf, pt) : Option Vg.En) = some q ∧ ¬Vg.ltE q (f, t)) from fun h => by rcases h with h | ⟨q, h, h2⟩; exact o0 h; cases h; exact h2 (by unfold Vg.ltE; simp only; have := HBE.out; omega))
      by_cases s0 : m5 = 0
      · have e5 : ((m5 : Int) == 0) = true := by rw [s0]; rfl
        have hnil : src = [] := List.eq_nil_of_length_eq_zero (by rw [HM5.out, s0])
        have HNL := Lib.hid hnil
        clear s0 hnil
        go_wp2_with (fail)
        go_ret
        exact ⟨ret_i (arcC_arg HR.out HO.out (.inl HNL.out)).symm, HB6.out⟩
      have e5 : ((m5 : Int) == 0) = false := beq_eq_false_iff_ne.2 (by omega)
      have HNN := Lib.hid (show src ≠ [] from fun e => s0 (by rw [← HM5.out, e]; rfl))
      have HSR := Lib.hid (setR a5 m5 k5 src WB (HSI.out.mono (Nat.le_refl _) HB6.out))
      obtain ⟨q, hq⟩ : ∃ q, Vg.setGo none src = q := ⟨_, rfl⟩
      rw [hq] at HSR
      have HQ := Lib.hid hq
      clear hq
      have HPOS := Lib.hid (show 0 < m5 by omega)
      clear s0
      by_cases s1 : q = 0
      · obtain ⟨y, b7, o7, v7, hy, he7, hc7, hv7, _⟩ := Sl.at HSI.out (show m5 - 1 < m5 by have := HPOS.out; omega)
        subst he7 hv7
        have hs5 := HSI.out.small
        have g5 := HPOS.out
        have HY := Lib.hid (show src.getLastD 0 = y by rw [last_nth HNN.out, HM5.out]; unfold nth; rw [List.getD_eq_getElem?_getD, hy]; rfl)
        have w5 : IntKind.i64.wrap ((m5 : Int) - 1) = ((m5 - 1 : Nat) : Int) := by rw [IntWalk.i64_in _ (by omega)]; omega
        have w6 : ((m5 - 1 : Nat) : Int) < (m5 : Int) := by omega
        have c7 := cell_keep HB6.out hc7
        have e6 : (q != 0) = false := by rw [s1]; rfl
        clear hc7 hy g5
        by_cases s2 : 32 ≤ y
        · go_wp2_with (fail)
          refine HSR.out.mono ?_
          rintro e w9 ⟨rfl, q9, rfl⟩
          go_wp2_with (fail)
          go_ret
          exact ⟨ret_i (arcC_arg HR.out HO.out (.inr (.inr (by rw [HY.out]; omega)))).symm, bstep HB6.out (bdrewN _ _)⟩
        · go_wp2_with (fail)
          refine HSR.out.mono ?_
          rintro e w9 ⟨rfl, q9, rfl⟩
          go_wp2_with (fail)
          go_ret
          exact ⟨ret_i (arcC_ok HR.out HO.out (fun h => by rcases h with h | h | h; exact HNN.out h; exact h (by rw [HQ.out]; exact s1); rw [HY.out] at h; omega)).symm, bstep HB6.out (bdrewN _ _)⟩
      · have e6 : (q != 0) = true := by simpa using s1
        go_wp2_with (fail)
        refine HSR.out.mono ?_
        rintro e w9 ⟨rfl, q9, rfl⟩
        go_wp2_with (fail)
        go_ret
        exact ⟨ret_i (arcC_arg HR.out HO.out (.inr (.inl (by rw [HQ.out]; exact s1)))).symm, bstep HB6.out (bdrewN _ _)⟩
    · have e1 : (pf == f) = false := beq_eq_false_iff_ne.2 b1
      have HO := Lib.hid (show ¬(t ≤ f ∨ ∃ q, (some (pf, pt) : Option Vg.En) = some q ∧ ¬Vg.ltE q (f, t)) from fun h => by rcases h with h | ⟨q, h, h2⟩; exact o0 h; cases h; exact h2 (by unfold Vg.ltE; simp only; omega))
      clear b1
      by_cases s0 : m5 = 0
      · have e5 : ((m5 : Int) == 0) = true := by rw [s0]; rfl
        have hnil : src = [] := List.eq_nil_of_length_eq_zero (by rw [HM5.out, s0])
        have HNL := Lib.hid hnil
        clear s0 hnil
        go_wp2_with (fail)
        go_ret
        exact ⟨ret_i (arcC_arg HR.out HO.out (.inl HNL.out)).symm, HB6.out⟩
      have e5 : ((m5 : Int) == 0) = false := beq_eq_false_iff_ne.2 (by omega)
      have HNN := Lib.hid (show src ≠ [] from fun e => s0 (by rw [← HM5.out, e]; rfl))
      have HSR := Lib.hid (setR a5 m5 k5 src WB (HSI.out.mono (Nat.le_refl _) HB6.out))
      obtain ⟨q, hq⟩ : ∃ q, Vg.setGo none src = q := ⟨_, rfl⟩
      rw [hq] at HSR
      have HQ := Lib.hid hq
      clear hq
      have HPOS := Lib.hid (show 0 < m5 by omega)
      clear s0
      by_cases s1 : q = 0
      · obtain ⟨y, b7, o7, v7, hy, he7, hc7, hv7, _⟩ := Sl.at HSI.out (show m5 - 1 < m5 by have := HPOS.out; omega)
        subst he7 hv7
        have hs5 := HSI.out.small
        have g5 := HPOS.out
        have HY := Lib.hid (show src.getLastD 0 = y by rw [last_nth HNN.out, HM5.out]; unfold nth; rw [List.getD_eq_getElem?_getD, hy]; rfl)
        have w5 : IntKind.i64.wrap ((m5 : Int) - 1) = ((m5 - 1 : Nat) : Int) := by rw [IntWalk.i64_in _ (by omega)]; omega
        have w6 : ((m5 - 1 : Nat) : Int) < (m5 : Int) := by omega
        have c7 := cell_keep HB6.out hc7
        have e6 : (q != 0) = false := by rw [s1]; rfl
        clear hc7 hy g5
        by_cases s2 : 32 ≤ y
        · go_wp2_with (fail)
          refine HSR.out.mono ?_
          rintro e w9 ⟨rfl, q9, rfl⟩
          go_wp2_with (fail)
          go_ret
          exact ⟨ret_i (arcC_arg HR.out HO.out (.inr (.inr (by rw [HY.out]; omega)))).symm, bstep HB6.out (bdrewN _ _)⟩
        · go_wp2_with (fail)
          refine HSR.out.mono ?_
          rintro e w9 ⟨rfl, q9, rfl⟩
          go_wp2_with (fail)
          go_ret
          exact ⟨ret_i (arcC_ok HR.out HO.out (fun h => by rcases h with h | h | h; exact HNN.out h; exact h (by rw [HQ.out]; exact s1); rw [HY.out] at h; omega)).symm, bstep HB6.out (bdrewN _ _)⟩
      · have e6 : (q != 0) = true := by simpa using s1
        go_wp2_with (fail)
        refine HSR.out.mono ?_
        rintro e w9 ⟨rfl, q9, rfl⟩
        go_wp2_with (fail)
        go_ret
        exact ⟨ret_i (arcC_arg HR.out HO.out (.inr (.inl (by rw [HQ.out]; exact s1)))).symm, bstep HB6.out (bdrewN _ _)⟩
end Go.Proofs.YtjmebijckcimoaaGreatDoor





namespace Go.Proofs.YtjmebijckcimoaaGreatDoor
open Go.RowKit Go.Ap Go.Shelf Go.Proofs

attribute [local go_sem] Oper.semAt_some bs_toList empty_toList bs_size bs_extract
def usedB (l : List Vg.Arc) (k : Int) : Bool := l.any fun a => a.1.1 == k || a.1.2 == k
theorem usedB_snoc (l : List Vg.Arc) (a : Vg.Arc) (k : Int) : usedB (l ++ [a]) k = (usedB l k || (a.1.1 == k || a.1.2 == k)) := by
  unfold usedB
  simp
theorem usedB_iff (l : List Vg.Arc) (k : Int) : usedB l k = true ↔ ∃ a ∈ l, a.1.1 = k ∨ a.1.2 = k := by
  unfold usedB
  simp
def anyB (s : Int) (l : List Vg.Arc) : Bool := !(Vg.endsOf s l).isEmpty
theorem anyB_iff (s : Int) (l : List Vg.Arc) : anyB s l = true ↔ Vg.endsOf s l ≠ [] := by
  unfold anyB
  cases Vg.endsOf s l <;> simp
theorem anyB_hit {s : Int} {l : List Vg.Arc} {x : Vg.Arc} (h : s ∈ x.2) : anyB s (l ++ [x]) = true := by
  rw [anyB_iff, Vg.endsOf_snoc, if_pos h]
  simp
theorem anyB_miss {s : Int} {l : List Vg.Arc} {x : Vg.Arc} (h : s ∉ x.2) : anyB s (l ++ [x]) = anyB s l := by
  unfold anyB
  rw [Vg.endsOf_snoc, if_neg h, List.append_nil]
/-- what the rounds ask of one source -/
def FlowS (e : Int) (al : List Vg.Arc) (s : Int) : Prop := (Vg.endsOf s al ≠ [] → Vg.outE (Vg.endsOf s al) 0 = 1) ∧ ∀ k, 0 < k → k < e → Vg.inE (Vg.endsOf s al) k ≤ 1 ∧ Vg.inE (Vg.endsOf s al) k = Vg.outE (Vg.endsOf s al) k
def inF (s : Int) (l : List Vg.Arc) (k : Nat) : Nat := Vg.inE (Vg.endsOf s l) (k : Int)
def outF (s : Int) (l : List Vg.Arc) (k : Nat) : Nat := Vg.outE (Vg.endsOf s l) (k : Int)
theorem inF_nil (s : Int) : inF s [] = fun _ => 0 := rfl
theorem outF_nil (s : Int) : outF s [] = fun _ => 0 := rfl
theorem inF_hit {s : Int} {l : List Vg.Arc} {f t : Nat} {src : List Int} (h : s ∈ src) : inF s (l ++ [(((f : Int), (t : Int)), src)]) = Vg.upd (inF s l) t (inF s l t + 1) := by
  funext k
  unfold inF Vg.upd
  rw [Vg.inE_snoc]
  by_cases e : k = t
  · subst e; rw [if_pos ⟨h, rfl⟩, if_pos rfl]
  · rw [if_neg (fun g => e (by have := g.2; simp only at this; omega)), if_neg e]; rfl
theorem outF_hit {s : Int} {l : List Vg.Arc} {f t : Nat} {src : List Int} (h : s ∈ src) : outF s (l ++ [(((f : Int), (t : Int)), src)]) = Vg.upd (outF s l) f (outF s l f + 1) := by
  funext k
  unfold outF Vg.upd
  rw [Vg.outE_snoc]
  by_cases e : k = f
  · subst e; rw [if_pos ⟨h, rfl⟩, if_pos rfl]
  · rw [if_neg (fun g => e (by have := g.2; simp only at this; omega)), if_neg e]; rfl
theorem inF_miss {s : Int} {l : List Vg.Arc} {x : Vg.Arc} (h : s ∉ x.2) : inF s (l ++ [x]) = inF s l := by
  funext k
  unfold inF
  rw [Vg.inE_snoc, if_neg (fun g => h g.1)]; rfl
theorem outF_miss {s : Int} {l : List Vg.Arc} {x : Vg.Arc} (h : s ∉ x.2) : outF s (l ++ [x]) = outF s l := by
  funext k
  unfold outF
  rw [Vg.outE_snoc, if_neg (fun g => h g.1)]; rfl
theorem hasI_iff (xs : List Int) (x : Int) : hasI xs x = true ↔ x ∈ xs := by unfold hasI; simp
def FlowA (w : World) (n1 : Nat) (al : List Vg.Arc) (e : Ending) (w' : World) : Prop := (∃ b, e = .returned (.bool b) ∧ (b = true ↔ Vg.Flows ((n1 : Int) - 1) al)) ∧ Below w.heap.size w w'
set_option maxRecDepth 100000 in
set_option maxHeartbeats 8000000 in
theorem flowsR (ws : List Str) (al : List Vg.Arc) (a1 : Option Addr) (n1 c1 : Nat) (a2 : Option Addr) (n2 c2 : Nat) (w : World) (h : GraphM w a1 n1 a2 n2 ws al) (hrng : ∀ a ∈ al, 0 ≤ a.1.1 ∧ a.1.1 < a.1.2 ∧ a.1.2 < (n1 : Int)) (d0 : 2 ≤ n1) (hn1 : n1 ≤ 4096) (hn2 : n2 ≤ 65536) :
    Calls Tryz.prog 58 #[graphV a1 n1 c1 a2 n2 c2] w (FlowA w n1 al) := by
  have HL2 := Lib.hid h.arcs.len
  have HRG := Lib.hid hrng
  obtain ⟨W4, hW4⟩ : ∃ W4, w.alloc (.cells #[.slice a1 n1 c1, .slice a2 n2 c2] 31) = W4 := ⟨_, rfl⟩
  have HB4 := Lib.hid (show Below w.heap.size w W4 by rw [← hW4]; exact balloc _ _)
  have HBX := Lib.hid (show BoxG W4 w.heap.size a1 n1 c1 a2 n2 c2 by rw [← hW4]; exact BoxG.new w a1 n1 c1 a2 n2 c2)
  have HG := Lib.hid (show GraphM W4 a1 n1 a2 n2 ws al from h.mono (Nat.le_refl _) HB4.out)
  have HMK := Lib.hid (make_nums n1 (by omega))
  have HBL := Lib.hid (show w.heap.size < W4.heap.size by rw [← hW4]; simp)
  have hwn : IntKind.i64.wrap ((n1 : Int) - 1) = (n1 : Int) - 1 := IntWalk.i64_in _ (by omega)
  clear h hrng
  unfold graphV
  go_enter Tryz.func58, Tryz.ntmps58
  obtain ⟨k0, k1⟩ := HBX.out
  go_wp2_with (fail)
  go_loopw [3] (fun kv wr => ∃ k : Nat, 1 ≤ k ∧ k + 1 ≤ n1 ∧ kv = .int .i64 k ∧ wr = W4 ∧ ∀ j : Nat, 0 < j → j < k → usedB al j = true) (fun kv _ => n1 - (intOf kv).toNat)
  case atStart => exact ⟨1, Nat.le_refl _, d0, rfl, rfl, fun j h1 h2 => by omega⟩
  case round =>
    obtain ⟨k, hk0, hk1, rfl, hwr, hus⟩ := hrel
    obtain rfl := hwr.symm
    have HUS := Lib.hid hus
    clear hus
    by_cases hkn : k + 1 < n1
    case pos =>
      have q1 : (k : Int) < (n1 : Int) - 1 := by omega
      have HKN := Lib.hid hkn
      have HK0 := Lib.hid hk0
      clear hk1 hkn hk0
      go_wp2_with (fail)
      go_loopw [4, 5] (fun uv iv w9 => ∃ i : Nat, i ≤ n2 ∧ uv = .bool (usedB (al.take i) k) ∧ iv = .int .i64 i ∧ w9 = W4) (fun _ iv _ => n2 - (intOf iv).toNat)
      case atStart => exact ⟨0, Nat.zero_le _, rfl, rfl, rfl⟩
      case round =>
        obtain ⟨i, hi, rfl, rfl, hwr⟩ := hrel
        obtain rfl := hwr.symm
        obtain ⟨ub, hub⟩ : ∃ u, usedB (al.take i) k = u := ⟨_, rfl⟩
        rw [hub]
        have HUB := Lib.hid hub
        clear hub
        by_cases hin : i < n2
        case pos =>
          obtain ⟨x, b, off, a5, k5, hx, rfl, p0, p1, p2, _⟩ := HG.out.arcs.at hin
          have HTK := Lib.hid (show usedB (al.take (i + 1)) k = (ub || (x.1.1 == (k : Int) || x.1.2 == (k : Int))) by rw [List.take_add_one, hx, ← HUB.out]; exact usedB_snoc _ _ _)
          obtain ⟨⟨f, t⟩, src⟩ := x
          simp only at p0 p1 HTK
          have i1 : (i : Int) < (n2 : Int) := by omega
          have HIN := Lib.hid hin
          clear hx p2 hi hin
          cases ub
          case true =>
            go_wp2_with (fail)
            go_roundw
            case rel => exact ⟨i + 1, by have := HIN.out; omega, by rw [HTK.out]; rfl, by simp, by first | rfl | trivial⟩
            case measure => have := HIN.out; simp [intOf]; omega
          by_cases hf : f = (k : Int)
          · obtain rfl : f = (k : Int) := hf
            have e1 : ((k : Int) == (k : Int)) = true := beq_self_eq_true _
            have HTV := Lib.hid (show usedB (al.take (i + 1)) k = true by rw [HTK.out, e1]; rfl)
            go_wp2_with (fail)
            go_roundw
            case rel => exact ⟨i + 1, by have := HIN.out; omega, by rw [HTV.out], by simp, by first | rfl | trivial⟩
            case measure => have := HIN.out; simp [intOf]; omega
          · have e1 : (f == (k : Int)) = false := beq_eq_false_iff_ne.2 hf
            obtain ⟨tb, htb⟩ : ∃ tb, (t == (k : Int)) = tb := ⟨_, rfl⟩
            have HTV := Lib.hid (show usedB (al.take (i + 1)) k = tb by rw [HTK.out, e1, htb]; rfl)
            clear hf
            go_wp2_with (fail)
            go_roundw
            case rel => exact ⟨i + 1, by have := HIN.out; omega, by rw [HTV.out], by simp, by first | rfl | trivial⟩
            case measure => have := HIN.out; simp [intOf]; omega
        case neg =>
          obtain rfl : n2 = i := by omega
          rw [List.take_of_length_le (by rw [HL2.out]; exact Nat.le_refl _)] at HUB
          cases ub
          case true =>
            go_wp2_with (fail)
            go_roundw
            case rel => exact ⟨k + 1, by omega, by have := HKN.out; omega, by simp, by first | rfl | trivial, fun j h1 h2 => by
              by_cases hjk : j = k
              · rw [hjk]; exact HUB.out
              · exact HUS.out j h1 (by omega)⟩
            case measure => have := HKN.out; simp [intOf]; omega
          case false =>
            go_wp2_with (fail)
            go_ret
            refine ⟨⟨false, rfl, ⟨fun h => (by cases h), fun h => ?_⟩⟩, HB4.out⟩
            have h1 := (usedB_iff al k).2 (h.1 k (by have := HK0.out; omega) (by have := HKN.out; omega))
            rw [HUB.out] at h1
            cases h1
    case neg =>
      obtain rfl : k = n1 - 1 := by omega
      have q1 : ¬(((n1 - 1 : Nat) : Int) < (n1 : Int) - 1) := by omega
      have HUA := Lib.hid (show ∀ k : Int, 0 < k → k < (n1 : Int) - 1 → ∃ a ∈ al, a.1.1 = k ∨ a.1.2 = k from fun k h1 h2 => by
        have := HUS.out k.toNat (by omega) (by omega)
        rw [usedB_iff, Int.toNat_of_nonneg (by omega)] at this
        exact this)
      clear hk0 hk1 hkn
      go_wp2_with (fail)
      clear q1 k0 k1
      go_loopw [6] (fun sv w9 => ∃ s : Nat, s ≤ 32 ∧ sv = .int .i64 s ∧ Below W4.heap.size W4 w9 ∧ ∀ j : Nat, j < s → FlowS ((n1 : Int) - 1) al j) (fun sv _ => 32 - (intOf sv).toNat)
      case atStart => exact ⟨0, Nat.zero_le _, rfl, Below.refl _ _, fun j hj => by omega⟩
      case round =>
        obtain ⟨wi, rfl⟩ : ∃ wi : World, wi = wr := ⟨_, rfl⟩
        obtain ⟨s, hs, rfl, hb, hfl⟩ := hrel
        have HFL := Lib.hid hfl
        have HB := Lib.hid hb
        obtain ⟨k0, k1⟩ := HBX.out.below hb
        clear hfl
        by_cases hs32 : s < 32
        case neg =>
          obtain rfl : s = 32 := by omega
          clear hs hs32 hb
          go_wp2_with (fail)
          go_ret
          exact ⟨⟨true, rfl, ⟨fun _ => ⟨HUA.out, fun s hs => HFL.out s hs⟩, fun _ => rfl⟩⟩, bstep HB4.out HB.out⟩
        have i32 : (s : Int) < 32 := by omega
        have HS32 := Lib.hid hs32
        have hmk := HMK.out
        have kb1 := balloc wi (.cells (Array.replicate n1 (.int .i64 0)) 3)
        have kb2 := balloc (wi.alloc (.cells (Array.replicate n1 (.int .i64 0)) 3)) (.cells (Array.replicate n1 (.int .i64 0)) 3)
        have hA7 : Arr (wi.alloc (.cells (Array.replicate n1 (.int .i64 0)) 3)) wi.heap.size 3 (arrN n1 fun _ => 0) := Arr.zero rfl
        have HA7 := Lib.hid (hA7.kept kb2)
        have HA8 := Lib.hid (show Arr ((wi.alloc (.cells (Array.replicate n1 (.int .i64 0)) 3)).alloc (.cells (Array.replicate n1 (.int .i64 0)) 3)) (wi.heap.size + 1) 3 (arrN n1 fun _ => 0) from Arr.zero (by simp))
        have HBN := Lib.hid (bstep (bstep hb kb1) kb2)
        have j0 := cell_keep kb1 k0
        have j1 := cell_keep kb1 k1
        have l0 := cell_keep kb2 j0
        have l1 := cell_keep kb2 j1
        have HSZ := Lib.hid hb.size
        clear hs hs32 hb kb1 kb2 hA7
        go_wp2_with (fail)
        obtain ⟨S7, hS7⟩ : ∃ S, wi.heap.size = S := ⟨_, rfl⟩
        rw [hS7] at HA7 HA8 HSZ ⊢
        clear hmk k0 k1 j0 j1 l0 l1 hS7
        generalize (wi.alloc (.cells (Array.replicate n1 (.int .i64 0)) 3)).alloc (.cells (Array.replicate n1 (.int .i64 0)) 3) = WN at HA7 HA8 HBN ⊢
        go_loopw [9, 10] (fun av jv w9 => ∃ i : Nat, i ≤ n2 ∧ av = .bool (anyB s (al.take i)) ∧ jv = .int .i64 i ∧ Arr w9 S7 3 (arrN n1 (inF s (al.take i))) ∧ Arr w9 (S7 + 1) 3 (arrN n1 (outF s (al.take i))) ∧ Below W4.heap.size W4 w9) (fun _ jv _ => n2 - (intOf jv).toNat)
        case atStart => exact ⟨0, Nat.zero_le _, rfl, rfl, by rw [List.take_zero, inF_nil]; exact HA7.out, by rw [List.take_zero, outF_nil]; exact HA8.out, HBN.out⟩
        case round =>
          obtain ⟨wj, rfl⟩ : ∃ wj : World, wj = wr := ⟨_, rfl⟩
          obtain ⟨i, hi, rfl, rfl, hA, hB', hb⟩ := hrel
          obtain ⟨k0, k1⟩ := HBX.out.below hb
          have HBJ := Lib.hid hb
          obtain ⟨ub, hub⟩ : ∃ u, anyB s (al.take i) = u := ⟨_, rfl⟩
          rw [hub]
          have HUB := Lib.hid hub
          clear hub
          by_cases hin : i < n2
          case pos =>
            obtain ⟨x, b, off, a5, k5, hx, rfl, v0, v1, v2, hsrc⟩ := HG.out.arcs.at hin
            have p0 := cell_keep hb v0
            have p1 := cell_keep hb v1
            have p2 := cell_keep hb v2
            have HV1 := Lib.hid v1
            have hsi := hsrc.src.mono (Nat.le_refl _) hb
            clear v0 v1 v2
            obtain ⟨r1, r2, r3⟩ := HRG.out _ (List.mem_of_getElem? hx)
            obtain ⟨⟨f0, t0⟩, src⟩ := x
            simp only at p0 p1 p2 r1 r2 r3 hsi HV1
            obtain ⟨f, rfl⟩ : ∃ f : Nat, f0 = f := ⟨f0.toNat, by omega⟩
            obtain ⟨t, rfl⟩ : ∃ t : Nat, t0 = t := ⟨t0.toNat, by omega⟩
            have hfn : f < n1 := by omega
            have htn : t < n1 := by omega
            have HTK := Lib.hid (show al.take (i + 1) = al.take i ++ [(((f : Int), (t : Int)), src)] by rw [List.take_add_one, hx]; rfl)
            have i1 : (i : Int) < (n2 : Int) := by omega
            have i2 : (f : Int) < (n1 : Int) := by omega
            have i3 : (t : Int) < (n1 : Int) := by omega
            obtain ⟨m5, hm5⟩ : ∃ m, src.length = m := ⟨_, rfl⟩
            rw [hm5] at p2 hsi
            have HHS := Lib.hid (hasS24 a5 m5 k5 src (s : Int) wj hsi)
            have HIN := Lib.hid hin
            have bin := inE_le (s : Int) (t : Int) (al.take i)
            have bou := outE_le (s : Int) (f : Int) (al.take i)
            rw [List.length_take] at bin bou
            obtain ⟨ci, hci⟩ : ∃ c, inF s (al.take i) t = c := ⟨_, rfl⟩
            obtain ⟨co, hco⟩ : ∃ c, outF s (al.take i) f = c := ⟨_, rfl⟩
            have bi2 : ci ≤ 65536 := by rw [← hci]; unfold inF; omega
            have bo2 : co ≤ 65536 := by rw [← hco]; unfold outF; omega
            obtain ⟨ei, hei⟩ : ∃ z, ci + 1 = z := ⟨_, rfl⟩
            obtain ⟨eo, heo⟩ : ∃ z, co + 1 = z := ⟨_, rfl⟩
            have hwi : IntKind.i64.wrap ((ci : Int) + 1) = (ei : Int) := by rw [IntWalk.i64_in _ (by omega)]; omega
            have hwo : IntKind.i64.wrap ((co : Int) + 1) = (eo : Int) := by rw [IntWalk.i64_in _ (by omega)]; omega
            have y0 := hB'.getN hfn
            have y1 := hB'.free f
            rw [hco] at y0
            have HA' := Lib.hid hA
            have HB' := Lib.hid hB'
            have hA2 := Arr.other24 (c := S7 + 1) (j := f) (v := .int .i64 (eo : Int)) hA (by omega)
            have y2 := hA2.getN htn
            have y3 := hA2.free t
            rw [hci] at y2
            by_cases hm : (s : Int) ∈ src
            · have hh : hasI src (s : Int) = true := (hasI_iff _ _).2 hm
              rw [hh] at HHS
              have HN1 := Lib.hid (show Arr ((wj.setCell ⟨S7 + 1, f, none⟩ (.int .i64 (eo : Int))).setCell ⟨S7, t, none⟩ (.int .i64 (ei : Int))) S7 3 (arrN n1 (inF s (al.take (i + 1)))) by
                rw [HTK.out, inF_hit hm, hci, hei]
                exact hA2.setN t ei)
              have HN2 := Lib.hid (show Arr ((wj.setCell ⟨S7 + 1, f, none⟩ (.int .i64 (eo : Int))).setCell ⟨S7, t, none⟩ (.int .i64 (ei : Int))) (S7 + 1) 3 (arrN n1 (outF s (al.take (i + 1)))) by
                rw [HTK.out, outF_hit hm, hco, heo]
                exact Arr.other24 (c := S7) (j := t) (hB'.setN f eo) (by omega))
              have HN3 := Lib.hid ((hb.setCell (p := ⟨S7 + 1, f, none⟩) (u := .int .i64 (eo : Int)) (by have := HSZ.out; show W4.heap.size ≤ S7 + 1; omega)).setCell (p := ⟨S7, t, none⟩) (u := .int .i64 (ei : Int)) HSZ.out)
              have HN4 := Lib.hid (show anyB s (al.take (i + 1)) = true by rw [HTK.out]; exact anyB_hit hm)
              have hbs := hb.setCell (p := ⟨S7 + 1, f, none⟩) (u := .int .i64 (eo : Int)) (by have := HSZ.out; show W4.heap.size ≤ S7 + 1; omega)
              have n0 := (HBX.out.far hbs HBL.out).k1
              have n1' := cell_keep hbs HV1.out
              clear hm hh hx hsrc hsi hA hB' hb hA2 hei heo hci hco hm5 bin bou hi hin r1 r2 r3 hbs
              go_wp2_with (fail)
              refine HHS.out.mono ?_
              rintro e w8 ⟨rfl, rfl⟩
              go_wp2_with (fail)
              go_roundw
              case rel => exact ⟨i + 1, by have := HIN.out; omega, by rw [HN4.out], by simp, HN1.out, HN2.out, HN3.out⟩
              case measure => have := HIN.out; simp [intOf]; omega
            · have hh : hasI src (s : Int) = false := by cases hq : hasI src (s : Int); rfl; exact absurd ((hasI_iff _ _).1 hq) hm
              rw [hh] at HHS
              have HN1 := Lib.hid (show inF s (al.take (i + 1)) = inF s (al.take i) by rw [HTK.out]; exact inF_miss hm)
              have HN2 := Lib.hid (show outF s (al.take (i + 1)) = outF s (al.take i) by rw [HTK.out]; exact outF_miss hm)
              have HN4 := Lib.hid (show anyB s (al.take (i + 1)) = ub by rw [HTK.out, anyB_miss hm, HUB.out])
              clear hm hh hx hsrc hsi hA hB' hb hA2 hei heo hci hco hm5 bin bou hi hin r1 r2 r3 y0 y1 y2 y3
              go_wp2_with (fail)
              refine HHS.out.mono ?_
              rintro e w8 ⟨rfl, rfl⟩
              go_wp2_with (fail)
              go_roundw
              case rel => exact ⟨i + 1, by have := HIN.out; omega, by rw [HN4.out], by simp, by rw [HN1.out]; exact HA'.out, by rw [HN2.out]; exact HB'.out, HBJ.out⟩
              case measure => have := HIN.out; simp [intOf]; omega
          case neg =>
            obtain rfl : n2 = i := by omega
            have htk : al.take n2 = al := List.take_of_length_le (by rw [HL2.out]; exact Nat.le_refl _)
            rw [htk] at hA hB' HUB
            have HA' := Lib.hid hA
            have HB' := Lib.hid hB'
            have y0 := hB'.getN (k := 0) (by omega)
            obtain ⟨c0, hc0⟩ : ∃ c, outF s al 0 = c := ⟨_, rfl⟩
            rw [hc0] at y0
            have bo0 := outE_le (s : Int) ((0 : Nat) : Int) al
            have bo1 : c0 ≤ 65536 := by rw [← hc0]; unfold outF; rw [HL2.out] at bo0; omega
            have HC0 := Lib.hid hc0
            have p0i : (0 : Int) < (n1 : Int) := by omega
            have key : ∀ bad : Bool, bad = (ub && ((c0 : Int) != 1)) → True := fun _ _ => trivial
            clear key hA hB' hb hc0 bo0 hi hin htk
            by_cases hbad : ub = true ∧ c0 ≠ 1
            · obtain ⟨rfl, hc1⟩ := hbad
              have e1 : ((c0 : Int) != 1) = true := by rw [bne_iff_ne]; omega
              go_wp2_with (fail)
              go_ret
              refine ⟨⟨false, rfl, ⟨fun h => (by cases h), fun h => ?_⟩⟩, bstep HB4.out HBJ.out⟩
              have h1 := (h.2 s HS32.out).1 ((anyB_iff _ _).1 HUB.out)
              have h2 := HC0.out
              unfold outF at h2
              rw [show ((0 : Nat) : Int) = 0 from rfl] at h2
              omega
            · have HF1 := Lib.hid (show Vg.endsOf s al ≠ [] → Vg.outE (Vg.endsOf s al) 0 = 1 from fun h => by
                have h1 := (anyB_iff _ _).2 h
                rw [HUB.out] at h1
                have h2 := HC0.out
                unfold outF at h2
                rw [show ((0 : Nat) : Int) = 0 from rfl] at h2
                rw [h2]
                exact Classical.byContradiction fun g => hbad ⟨h1, g⟩)
              have e1 : (ub && ((c0 : Int) != 1)) = false := by
                cases ub
                · rfl
                · have : c0 = 1 := Classical.byContradiction fun g => hbad ⟨rfl, g⟩
                  rw [this]; rfl
              have HE := Lib.hid e1
              have htail : True := trivial
              clear hbad
              cases ub
              case false =>
                clear e1
                go_wp2_with (fail)
                clear y0 k0 k1
                go_loopw [11] (fun kv w9 => ∃ k : Nat, 1 ≤ k ∧ k + 1 ≤ n1 ∧ kv = .int .i64 k ∧ Below wj.heap.size wj w9 ∧ ∀ j : Nat, 0 < j → j < k → inF s al j ≤ 1 ∧ inF s al j = outF s al j) (fun kv _ => n1 - (intOf kv).toNat)
                case atStart => exact ⟨1, Nat.le_refl _, d0, rfl, Below.refl _ _, fun j h1 h2 => by omega⟩
                case round =>
                  obtain ⟨wk, rfl⟩ : ∃ wk : World, wk = wr := ⟨_, rfl⟩
                  obtain ⟨k, hk0, hk1, rfl, hb, hok⟩ := hrel
                  have HOK := Lib.hid hok
                  have HBK := Lib.hid hb
                  have HBW := Lib.hid (bstep HBJ.out hb)
                  obtain ⟨k0, k1⟩ := HBX.out.below HBW.out
                  have HK0 := Lib.hid hk0
                  clear hok
                  by_cases hkn : k + 1 < n1
                  case neg =>
                    obtain rfl : k = n1 - 1 := by omega
                    have q1 : ¬(((n1 - 1 : Nat) : Int) < (n1 : Int) - 1) := by omega
                    have HFS := Lib.hid (show FlowS ((n1 : Int) - 1) al s from ⟨HF1.out, fun k h1 h2 => by
                      have := HOK.out k.toNat (by omega) (by omega)
                      unfold inF outF at this
                      rw [Int.toNat_of_nonneg (by omega)] at this
                      exact this⟩)
                    clear hk0 hk1 hkn hb
                    go_wp2_with (fail)
                    go_roundw
                    case rel => exact ⟨s + 1, by have := HS32.out; omega, by simp, HBW.out, fun j hj => by
                      by_cases hjs : j = s
                      · subst hjs; exact HFS.out
                      · exact HFL.out j (by omega)⟩
                    case measure => have := HS32.out; simp [intOf]; omega
                  have q1 : (k : Int) < (n1 : Int) - 1 := by omega
                  have q2 : (k : Int) < (n1 : Int) := by omega
                  have HKN := Lib.hid hkn
                  have HIA := Lib.hid (HA'.out.kept hb)
                  have HOA := Lib.hid (HB'.out.kept hb)
                  obtain ⟨ci, hci⟩ : ∃ c, inF s al k = c := ⟨_, rfl⟩
                  obtain ⟨co, hco⟩ : ∃ c, outF s al k = c := ⟨_, rfl⟩
                  have HCI := Lib.hid hci
                  have HCO := Lib.hid hco
                  have HKL := Lib.hid (show k < n1 by omega)
                  clear hk0 hk1 hkn hb hci hco
                  by_cases hc : 1 < ci
                  · have e5 : decide ((1 : Int) < (ci : Int)) = true := decide_eq_true (by omega)
                    have e5' : decide (1 < ci) = true := decide_eq_true hc
                    go_wp2_with (fail)
                    refine (wpIn_wide (n := 20)).1 ?_
                    refine wpIn_region_planM (fun W' => Arr W' S7 3 (arrN n1 (inF s al)) ∧ Arr W' (S7 + 1) 3 (arrN n1 (outF s al))) 16 (.take 0 <| .take 1 <| .take 2 <| .take 3 <| .take 4 <| .take 5 <| .take 6 <| .take 7 <| .take 8 <| .take 9 <| .take 10 <| .take 11 <| .take 12 <| .take 13 <| .take 14 <| .take 15 <| .fin) (fun _ => trivial) (by kernel_rfl) (by kernel_rfl) (⟨HIA.out.drew, HOA.out.drew⟩) ?_
                    iterate 3
                      apply pm_take rfl rfl (by rfl)
                      case hy =>
                        rintro W' hb'
                        clear hb'
                        go_simp
                        first | done | with_reducible rfl
                      simp only [List.setIfInBounds_toArray, List.set_cons_zero, List.set_cons_succ]
                    apply pm_take rfl rfl (by rfl)
                    case hy =>
                      rintro W' hb'
                      have z0 := hb'.1.getN HKL.out
                      have z1 := hb'.2.getN HKL.out
                      rw [HCI.out] at z0
                      rw [HCO.out] at z1
                      clear hb'
                      go_simp
                      first | done | with_reducible rfl
                    simp only [List.setIfInBounds_toArray, List.set_cons_zero, List.set_cons_succ]
                    iterate 2
                      apply pm_take rfl rfl (by rfl)
                      case hy =>
                        rintro W' hb'
                        clear hb'
                        go_simp
                        first | done | with_reducible rfl
                      simp only [List.setIfInBounds_toArray, List.set_cons_zero, List.set_cons_succ]
                    iterate 9
                      apply pm_no (j := 5) (t := 119) (b := true) (c := false) rfl rfl rfl rfl rfl (by simp) rfl
                      simp only [List.setIfInBounds_toArray, List.set_cons_zero, List.set_cons_succ]
                    apply pm_take rfl rfl (by rfl)
                    case hy =>
                      rintro W' hb'
                      clear hb'
                      go_simp
                      first | done | with_reducible rfl
                    simp only [List.setIfInBounds_toArray, List.set_cons_zero, List.set_cons_succ]
                    refine pm_fin ?_
                    gi_wp2_with (fail)
                    go_wp2_with (fail)
                    go_ret
                    refine ⟨⟨false, rfl, ⟨fun h => (by cases h), fun h => ?_⟩⟩, bstep HB4.out (below_drew' HBW.out)⟩
                    have h1 := ((h.2 s HS32.out).2 (k : Int) (by have := HK0.out; omega) (by have := HKN.out; omega)).1
                    have h2 := HCI.out
                    unfold inF at h2
                    omega
                  · have e5 : decide ((1 : Int) < (ci : Int)) = false := decide_eq_false (by omega)
                    have e5' : decide (1 < ci) = false := decide_eq_false hc
                    have HC := Lib.hid hc
                    clear hc
                    by_cases hcc : ci = co
                    · obtain rfl : ci = co := hcc
                      have e6 : ((ci : Int) != (ci : Int)) = false := by simp
                      go_wp2_with (fail)
                      refine (wpIn_wide (n := 20)).1 ?_
                      refine wpIn_region_planM (fun W' => Arr W' S7 3 (arrN n1 (inF s al)) ∧ Arr W' (S7 + 1) 3 (arrN n1 (outF s al))) 16 (.take 0 <| .take 1 <| .take 2 <| .take 3 <| .take 4 <| .take 5 <| .take 6 <| .take 7 <| .take 8 <| .take 9 <| .take 10 <| .take 11 <| .take 12 <| .take 13 <| .take 14 <| .take 15 <| .fin) (fun _ => trivial) (by kernel_rfl) (by kernel_rfl) (⟨HIA.out.drew, HOA.out.drew⟩) ?_
                      iterate 3
                        apply pm_take rfl rfl (by rfl)
                        case hy =>
                          rintro W' hb'
                          clear hb'
                          go_simp
                          first | done | with_reducible rfl
                        simp only [List.setIfInBounds_toArray, List.set_cons_zero, List.set_cons_succ]
                      apply pm_take rfl rfl (by rfl)
                      case hy =>
                        rintro W' hb'
                        have z0 := hb'.1.getN HKL.out
                        have z1 := hb'.2.getN HKL.out
                        rw [HCI.out] at z0
                        rw [HCO.out] at z1
                        clear hb'
                        go_simp
                        first | done | with_reducible rfl
                      simp only [List.setIfInBounds_toArray, List.set_cons_zero, List.set_cons_succ]
                      iterate 2
                        apply pm_take rfl rfl (by rfl)
                        case hy =>
                          rintro W' hb'
                          clear hb'
                          go_simp
                          first | done | with_reducible rfl
                        simp only [List.setIfInBounds_toArray, List.set_cons_zero, List.set_cons_succ]
                      iterate 3
                        apply pm_gd (j := 5) (t := 119) (b := false) (c := false) rfl rfl rfl rfl rfl (by simp) rfl
                        case hy =>
                          rintro W' hb'
                          clear hb'
                          go_simp
                          first | done | with_reducible rfl
                        simp only [List.setIfInBounds_toArray, List.set_cons_zero, List.set_cons_succ]
                      apply pm_gd (j := 5) (t := 119) (b := false) (c := false) rfl rfl rfl rfl rfl (by simp) rfl
                      case hy =>
                        rintro W' hb'
                        have z0 := hb'.1.getN HKL.out
                        have z1 := hb'.2.getN HKL.out
                        rw [HCI.out] at z0
                        rw [HCO.out] at z1
                        clear hb'
                        go_simp
                        first | done | with_reducible rfl
                      simp only [List.setIfInBounds_toArray, List.set_cons_zero, List.set_cons_succ]
                      iterate 3
                        apply pm_gd (j := 5) (t := 119) (b := false) (c := false) rfl rfl rfl rfl rfl (by simp) rfl
                        case hy =>
                          rintro W' hb'
                          clear hb'
                          go_simp
                          first | done | with_reducible rfl
                        simp only [List.setIfInBounds_toArray, List.set_cons_zero, List.set_cons_succ]
                      apply pm_gd (j := 5) (t := 119) (b := false) (c := false) rfl rfl rfl rfl rfl (by simp) rfl
                      case hy =>
                        rintro W' hb'
                        have z0 := hb'.1.getN HKL.out
                        have z1 := hb'.2.getN HKL.out
                        rw [HCI.out] at z0
                        rw [HCO.out] at z1
                        clear hb'
                        go_simp
                        first | done | with_reducible rfl
                      simp only [List.setIfInBounds_toArray, List.set_cons_zero, List.set_cons_succ]
                      apply pm_gd (j := 5) (t := 119) (b := false) (c := false) rfl rfl rfl rfl rfl (by simp) rfl
                      case hy =>
                        rintro W' hb'
                        clear hb'
                        go_simp
                        first | done | with_reducible rfl
                      simp only [List.setIfInBounds_toArray, List.set_cons_zero, List.set_cons_succ]
                      apply pm_take rfl rfl (by rfl)
                      case hy =>
                        rintro W' hb'
                        clear hb'
                        go_simp
                        first | done | with_reducible rfl
                      simp only [List.setIfInBounds_toArray, List.set_cons_zero, List.set_cons_succ]
                      refine pm_fin ?_
                      gi_wp2_with (fail)
                      go_wp2_with (fail)
                      go_roundw
                      case rel => exact ⟨k + 1, by omega, by have := HKN.out; omega, by simp, below_drew' HBK.out, fun j h1 h2 => by
                        by_cases hjk : j = k
                        · subst hjk
                          rw [HCI.out, HCO.out]
                          exact ⟨by have := HC.out; omega, rfl⟩
                        · exact HOK.out j h1 (by omega)⟩
                      case measure => have := HKN.out; simp [intOf]; omega
                    · have e6 : ((ci : Int) != (co : Int)) = true := by rw [bne_iff_ne]; omega
                      have HCC := Lib.hid hcc
                      clear hcc
                      go_wp2_with (fail)
                      refine (wpIn_wide (n := 20)).1 ?_
                      refine wpIn_region_planM (fun W' => Arr W' S7 3 (arrN n1 (inF s al)) ∧ Arr W' (S7 + 1) 3 (arrN n1 (outF s al))) 16 (.take 0 <| .take 1 <| .take 2 <| .take 3 <| .take 4 <| .take 5 <| .take 6 <| .take 7 <| .take 8 <| .take 9 <| .take 10 <| .take 11 <| .take 12 <| .take 13 <| .take 14 <| .take 15 <| .fin) (fun _ => trivial) (by kernel_rfl) (by kernel_rfl) (⟨HIA.out.drew, HOA.out.drew⟩) ?_
                      iterate 3
                        apply pm_take rfl rfl (by rfl)
                        case hy =>
                          rintro W' hb'
                          clear hb'
                          go_simp
                          first | done | with_reducible rfl
                        simp only [List.setIfInBounds_toArray, List.set_cons_zero, List.set_cons_succ]
                      apply pm_take rfl rfl (by rfl)
                      case hy =>
                        rintro W' hb'
                        have z0 := hb'.1.getN HKL.out
                        have z1 := hb'.2.getN HKL.out
                        rw [HCI.out] at z0
                        rw [HCO.out] at z1
                        clear hb'
                        go_simp
                        first | done | with_reducible rfl
                      simp only [List.setIfInBounds_toArray, List.set_cons_zero, List.set_cons_succ]
                      iterate 2
                        apply pm_take rfl rfl (by rfl)
                        case hy =>
                          rintro W' hb'
                          clear hb'
                          go_simp
                          first | done | with_reducible rfl
                        simp only [List.setIfInBounds_toArray, List.set_cons_zero, List.set_cons_succ]
                      iterate 3
                        apply pm_gd (j := 5) (t := 119) (b := false) (c := false) rfl rfl rfl rfl rfl (by simp) rfl
                        case hy =>
                          rintro W' hb'
                          clear hb'
                          go_simp
                          first | done | with_reducible rfl
                        simp only [List.setIfInBounds_toArray, List.set_cons_zero, List.set_cons_succ]
                      apply pm_gd (j := 5) (t := 119) (b := false) (c := false) rfl rfl rfl rfl rfl (by simp) rfl
                      case hy =>
                        rintro W' hb'
                        have z0 := hb'.1.getN HKL.out
                        have z1 := hb'.2.getN HKL.out
                        rw [HCI.out] at z0
                        rw [HCO.out] at z1
                        clear hb'
                        go_simp
                        first | done | with_reducible rfl
                      simp only [List.setIfInBounds_toArray, List.set_cons_zero, List.set_cons_succ]
                      iterate 3
                        apply pm_gd (j := 5) (t := 119) (b := false) (c := false) rfl rfl rfl rfl rfl (by simp) rfl
                        case hy =>
                          rintro W' hb'
                          clear hb'
                          go_simp
                          first | done | with_reducible rfl
                        simp only [List.setIfInBounds_toArray, List.set_cons_zero, List.set_cons_succ]
                      apply pm_gd (j := 5) (t := 119) (b := false) (c := false) rfl rfl rfl rfl rfl (by simp) rfl
                      case hy =>
                        rintro W' hb'
                        have z0 := hb'.1.getN HKL.out
                        have z1 := hb'.2.getN HKL.out
                        rw [HCI.out] at z0
                        rw [HCO.out] at z1
                        clear hb'
                        go_simp
                        first | done | with_reducible rfl
                      simp only [List.setIfInBounds_toArray, List.set_cons_zero, List.set_cons_succ]
                      apply pm_gd (j := 5) (t := 119) (b := false) (c := false) rfl rfl rfl rfl rfl (by simp) rfl
                      case hy =>
                        rintro W' hb'
                        clear hb'
                        go_simp
                        first | done | with_reducible rfl
                      simp only [List.setIfInBounds_toArray, List.set_cons_zero, List.set_cons_succ]
                      apply pm_take rfl rfl (by rfl)
                      case hy =>
                        rintro W' hb'
                        clear hb'
                        go_simp
                        first | done | with_reducible rfl
                      simp only [List.setIfInBounds_toArray, List.set_cons_zero, List.set_cons_succ]
                      refine pm_fin ?_
                      gi_wp2_with (fail)
                      go_wp2_with (fail)
                      go_ret
                      refine ⟨⟨false, rfl, ⟨fun h => (by cases h), fun h => ?_⟩⟩, bstep HB4.out (below_drew' HBW.out)⟩
                      have h1 := ((h.2 s HS32.out).2 (k : Int) (by have := HK0.out; omega) (by have := HKN.out; omega)).2
                      have h2 := HCI.out
                      have h3 := HCO.out
                      unfold inF at h2
                      unfold outF at h3
                      exact absurd (show ci = co by omega) HCC.out
              case true =>
                have e2 : ((c0 : Int) != 1) = false := by simpa using e1
                clear e1
                go_wp2_with (fail)
                clear y0 k0 k1
                go_loopw [11] (fun kv w9 => ∃ k : Nat, 1 ≤ k ∧ k + 1 ≤ n1 ∧ kv = .int .i64 k ∧ Below wj.heap.size wj w9 ∧ ∀ j : Nat, 0 < j → j < k → inF s al j ≤ 1 ∧ inF s al j = outF s al j) (fun kv _ => n1 - (intOf kv).toNat)
                case atStart => exact ⟨1, Nat.le_refl _, d0, rfl, Below.refl _ _, fun j h1 h2 => by omega⟩
                case round =>
                  obtain ⟨wk, rfl⟩ : ∃ wk : World, wk = wr := ⟨_, rfl⟩
                  obtain ⟨k, hk0, hk1, rfl, hb, hok⟩ := hrel
                  have HOK := Lib.hid hok
                  have HBK := Lib.hid hb
                  have HBW := Lib.hid (bstep HBJ.out hb)
                  obtain ⟨k0, k1⟩ := HBX.out.below HBW.out
                  have HK0 := Lib.hid hk0
                  clear hok
                  by_cases hkn : k + 1 < n1
                  case neg =>
                    obtain rfl : k = n1 - 1 := by omega
                    have q1 : ¬(((n1 - 1 : Nat) : Int) < (n1 : Int) - 1) := by omega
                    have HFS := Lib.hid (show FlowS ((n1 : Int) - 1) al s from ⟨HF1.out, fun k h1 h2 => by
                      have := HOK.out k.toNat (by omega) (by omega)
                      unfold inF outF at this
                      rw [Int.toNat_of_nonneg (by omega)] at this
                      exact this⟩)
                    clear hk0 hk1 hkn hb
                    go_wp2_with (fail)
                    go_roundw
                    case rel => exact ⟨s + 1, by have := HS32.out; omega, by simp, HBW.out, fun j hj => by
                      by_cases hjs : j = s
                      · subst hjs; exact HFS.out
                      · exact HFL.out j (by omega)⟩
                    case measure => have := HS32.out; simp [intOf]; omega
                  have q1 : (k : Int) < (n1 : Int) - 1 := by omega
                  have q2 : (k : Int) < (n1 : Int) := by omega
                  have HKN := Lib.hid hkn
                  have HIA := Lib.hid (HA'.out.kept hb)
                  have HOA := Lib.hid (HB'.out.kept hb)
                  obtain ⟨ci, hci⟩ : ∃ c, inF s al k = c := ⟨_, rfl⟩
                  obtain ⟨co, hco⟩ : ∃ c, outF s al k = c := ⟨_, rfl⟩
                  have HCI := Lib.hid hci
                  have HCO := Lib.hid hco
                  have HKL := Lib.hid (show k < n1 by omega)
                  clear hk0 hk1 hkn hb hci hco
                  by_cases hc : 1 < ci
                  · have e5 : decide ((1 : Int) < (ci : Int)) = true := decide_eq_true (by omega)
                    have e5' : decide (1 < ci) = true := decide_eq_true hc
                    go_wp2_with (fail)
                    refine (wpIn_wide (n := 20)).1 ?_
                    refine wpIn_region_planM (fun W' => Arr W' S7 3 (arrN n1 (inF s al)) ∧ Arr W' (S7 + 1) 3 (arrN n1 (outF s al))) 16 (.take 0 <| .take 1 <| .take 2 <| .take 3 <| .take 4 <| .take 5 <| .take 6 <| .take 7 <| .take 8 <| .take 9 <| .take 10 <| .take 11 <| .take 12 <| .take 13 <| .take 14 <| .take 15 <| .fin) (fun _ => trivial) (by kernel_rfl) (by kernel_rfl) (⟨HIA.out.drew, HOA.out.drew⟩) ?_
                    iterate 3
                      apply pm_take rfl rfl (by rfl)
                      case hy =>
                        rintro W' hb'
                        clear hb'
                        go_simp
                        first | done | with_reducible rfl
                      simp only [List.setIfInBounds_toArray, List.set_cons_zero, List.set_cons_succ]
                    apply pm_take rfl rfl (by rfl)
                    case hy =>
                      rintro W' hb'
                      have z0 := hb'.1.getN HKL.out
                      have z1 := hb'.2.getN HKL.out
                      rw [HCI.out] at z0
                      rw [HCO.out] at z1
                      clear hb'
                      go_simp
                      first | done | with_reducible rfl
                    simp only [List.setIfInBounds_toArray, List.set_cons_zero, List.set_cons_succ]
                    iterate 2
                      apply pm_take rfl rfl (by rfl)
                      case hy =>
                        rintro W' hb'
                        clear hb'
                        go_simp
                        first | done | with_reducible rfl
                      simp only [List.setIfInBounds_toArray, List.set_cons_zero, List.set_cons_succ]
                    iterate 9
                      apply pm_no (j := 5) (t := 119) (b := true) (c := false) rfl rfl rfl rfl rfl (by simp) rfl
                      simp only [List.setIfInBounds_toArray, List.set_cons_zero, List.set_cons_succ]
                    apply pm_take rfl rfl (by rfl)
                    case hy =>
                      rintro W' hb'
                      clear hb'
                      go_simp
                      first | done | with_reducible rfl
                    simp only [List.setIfInBounds_toArray, List.set_cons_zero, List.set_cons_succ]
                    refine pm_fin ?_
                    gi_wp2_with (fail)
                    go_wp2_with (fail)
                    go_ret
                    refine ⟨⟨false, rfl, ⟨fun h => (by cases h), fun h => ?_⟩⟩, bstep HB4.out (below_drew' HBW.out)⟩
                    have h1 := ((h.2 s HS32.out).2 (k : Int) (by have := HK0.out; omega) (by have := HKN.out; omega)).1
                    have h2 := HCI.out
                    unfold inF at h2
                    omega
                  · have e5 : decide ((1 : Int) < (ci : Int)) = false := decide_eq_false (by omega)
                    have e5' : decide (1 < ci) = false := decide_eq_false hc
                    have HC := Lib.hid hc
                    clear hc
                    by_cases hcc : ci = co
                    · obtain rfl : ci = co := hcc
                      have e6 : ((ci : Int) != (ci : Int)) = false := by simp
                      go_wp2_with (fail)
                      refine (wpIn_wide (n := 20)).1 ?_
                      refine wpIn_region_planM (fun W' => Arr W' S7 3 (arrN n1 (inF s al)) ∧ Arr W' (S7 + 1) 3 (arrN n1 (outF s al))) 16 (.take 0 <| .take 1 <| .take 2 <| .take 3 <| .take 4 <| .take 5 <| .take 6 <| .take 7 <| .take 8 <| .take 9 <| .take 10 <| .take 11 <| .take 12 <| .take 13 <| .take 14 <| .take 15 <| .fin) (fun _ => trivial) (by kernel_rfl) (by kernel_rfl) (⟨HIA.out.drew, HOA.out.drew⟩) ?_
                      iterate 3
                        apply pm_take rfl rfl (by rfl)
                        case hy =>
                          rintro W' hb'
                          clear hb'
                          go_simp
                          first | done | with_reducible rfl
                        simp only [List.setIfInBounds_toArray, List.set_cons_zero, List.set_cons_succ]
                      apply pm_take rfl rfl (by rfl)
                      case hy =>
                        rintro W' hb'
                        have z0 := hb'.1.getN HKL.out
                        have z1 := hb'.2.getN HKL.out
                        rw [HCI.out] at z0
                        rw [HCO.out] at z1
                        clear hb'
                        go_simp
                        first | done | with_reducible rfl
                      simp only [List.setIfInBounds_toArray, List.set_cons_zero, List.set_cons_succ]
                      iterate 2
                        apply pm_take rfl rfl (by rfl)
                        case hy =>
                          rintro W' hb'
                          clear hb'
                          go_simp
                          first | done | with_reducible rfl
                        simp only [List.setIfInBounds_toArray, List.set_cons_zero, List.set_cons_succ]
                      iterate 3
                        apply pm_gd (j := 5) (t := 119) (b := false) (c := false) rfl rfl rfl rfl rfl (by simp) rfl
                        case hy =>
                          rintro W' hb'
                          clear hb'
                          go_simp
                          first | done | with_reducible rfl
                        simp only [List.setIfInBounds_toArray, List.set_cons_zero, List.set_cons_succ]
                      apply pm_gd (j := 5) (t := 119) (b := false) (c := false) rfl rfl rfl rfl rfl (by simp) rfl
                      case hy =>
                        rintro W' hb'
                        have z0 := hb'.1.getN HKL.out
                        have z1 := hb'.2.getN HKL.out
                        rw [HCI.out] at z0
                        rw [HCO.out] at z1
                        clear hb'
                        go_simp
                        first | done | with_reducible rfl
                      simp only [List.setIfInBounds_toArray, List.set_cons_zero, List.set_cons_succ]
                      iterate 3
                        apply pm_gd (j := 5) (t := 119) (b := false) (c := false) rfl rfl rfl rfl rfl (by simp) rfl
                        case hy =>
                          rintro W' hb'
                          clear hb'
                          go_simp
                          first | done | with_reducible rfl
                        simp only [List.setIfInBounds_toArray, List.set_cons_zero, List.set_cons_succ]
                      apply pm_gd (j := 5) (t := 119) (b := false) (c := false) rfl rfl rfl rfl rfl (by simp) rfl
                      case hy =>
                        rintro W' hb'
                        have z0 := hb'.1.getN HKL.out
                        have z1 := hb'.2.getN HKL.out
                        rw [HCI.out] at z0
                        rw [HCO.out] at z1
                        clear hb'
                        go_simp
                        first | done | with_reducible rfl
                      simp only [List.setIfInBounds_toArray, List.set_cons_zero, List.set_cons_succ]
                      apply pm_gd (j := 5) (t := 119) (b := false) (c := false) rfl rfl rfl rfl rfl (by simp) rfl
                      case hy =>
                        rintro W' hb'
                        clear hb'
                        go_simp
                        first | done | with_reducible rfl
                      simp only [List.setIfInBounds_toArray, List.set_cons_zero, List.set_cons_succ]
                      apply pm_take rfl rfl (by rfl)
                      case hy =>
                        rintro W' hb'
                        clear hb'
                        go_simp
                        first | done | with_reducible rfl
                      simp only [List.setIfInBounds_toArray, List.set_cons_zero, List.set_cons_succ]
                      refine pm_fin ?_
                      gi_wp2_with (fail)
                      go_wp2_with (fail)
                      go_roundw
                      case rel => exact ⟨k + 1, by omega, by have := HKN.out; omega, by simp, below_drew' HBK.out, fun j h1 h2 => by
                        by_cases hjk : j = k
                        · subst hjk
                          rw [HCI.out, HCO.out]
                          exact ⟨by have := HC.out; omega, rfl⟩
                        · exact HOK.out j h1 (by omega)⟩
                      case measure => have := HKN.out; simp [intOf]; omega
                    · have e6 : ((ci : Int) != (co : Int)) = true := by rw [bne_iff_ne]; omega
                      have HCC := Lib.hid hcc
                      clear hcc
                      go_wp2_with (fail)
                      refine (wpIn_wide (n := 20)).1 ?_
                      refine wpIn_region_planM (fun W' => Arr W' S7 3 (arrN n1 (inF s al)) ∧ Arr W' (S7 + 1) 3 (arrN n1 (outF s al))) 16 (.take 0 <| .take 1 <| .take 2 <| .take 3 <| .take 4 <| .take 5 <| .take 6 <| .take 7 <| .take 8 <| .take 9 <| .take 10 <| .take 11 <| .take 12 <| .take 13 <| .take 14 <| .take 15 <| .fin) (fun _ => trivial) (by kernel_rfl) (by kernel_rfl) (⟨HIA.out.drew, HOA.out.drew⟩) ?_
                      iterate 3
                        apply pm_take rfl rfl (by rfl)
                        case hy =>
                          rintro W' hb'
                          clear hb'
                          go_simp
                          first | done | with_reducible rfl
                        simp only [List.setIfInBounds_toArray, List.set_cons_zero, List.set_cons_succ]
                      apply pm_take rfl rfl (by rfl)
                      case hy =>
                        rintro W' hb'
                        have z0 := hb'.1.getN HKL.out
                        have z1 := hb'.2.getN HKL.out
                        rw [HCI.out] at z0
                        rw [HCO.out] at z1
                        clear hb'
                        go_simp
                        first | done | with_reducible rfl
                      simp only [List.setIfInBounds_toArray, List.set_cons_zero, List.set_cons_succ]
                      iterate 2
                        apply pm_take rfl rfl (by rfl)
                        case hy =>
                          rintro W' hb'
                          clear hb'
                          go_simp
                          first | done | with_reducible rfl
                        simp only [List.setIfInBounds_toArray, List.set_cons_zero, List.set_cons_succ]
                      iterate 3
                        apply pm_gd (j := 5) (t := 119) (b := false) (c := false) rfl rfl rfl rfl rfl (by simp) rfl
                        case hy =>
                          rintro W' hb'
                          clear hb'
                          go_simp
                          first | done | with_reducible rfl
                        simp only [List.setIfInBounds_toArray, List.set_cons_zero, List.set_cons_succ]
                      apply pm_gd (j := 5) (t := 119) (b := false) (c := false) rfl rfl rfl rfl rfl (by simp) rfl
                      case hy =>
                        rintro W' hb'
                        have z0 := hb'.1.getN HKL.out
                        have z1 := hb'.2.getN HKL.out
                        rw [HCI.out] at z0
                        rw [HCO.out] at z1
                        clear hb'
                        go_simp
                        first | done | with_reducible rfl
                      simp only [List.setIfInBounds_toArray, List.set_cons_zero, List.set_cons_succ]
                      iterate 3
                        apply pm_gd (j := 5) (t := 119) (b := false) (c := false) rfl rfl rfl rfl rfl (by simp) rfl
                        case hy =>
                          rintro W' hb'
                          clear hb'
                          go_simp
                          first | done | with_reducible rfl
                        simp only [List.setIfInBounds_toArray, List.set_cons_zero, List.set_cons_succ]
                      apply pm_gd (j := 5) (t := 119) (b := false) (c := false) rfl rfl rfl rfl rfl (by simp) rfl
                      case hy =>
                        rintro W' hb'
                        have z0 := hb'.1.getN HKL.out
                        have z1 := hb'.2.getN HKL.out
                        rw [HCI.out] at z0
                        rw [HCO.out] at z1
                        clear hb'
                        go_simp
                        first | done | with_reducible rfl
                      simp only [List.setIfInBounds_toArray, List.set_cons_zero, List.set_cons_succ]
                      apply pm_gd (j := 5) (t := 119) (b := false) (c := false) rfl rfl rfl rfl rfl (by simp) rfl
                      case hy =>
                        rintro W' hb'
                        clear hb'
                        go_simp
                        first | done | with_reducible rfl
                      simp only [List.setIfInBounds_toArray, List.set_cons_zero, List.set_cons_succ]
                      apply pm_take rfl rfl (by rfl)
                      case hy =>
                        rintro W' hb'
                        clear hb'
                        go_simp
                        first | done | with_reducible rfl
                      simp only [List.setIfInBounds_toArray, List.set_cons_zero, List.set_cons_succ]
                      refine pm_fin ?_
                      gi_wp2_with (fail)
                      go_wp2_with (fail)
                      go_ret
                      refine ⟨⟨false, rfl, ⟨fun h => (by cases h), fun h => ?_⟩⟩, bstep HB4.out (below_drew' HBW.out)⟩
                      have h1 := ((h.2 s HS32.out).2 (k : Int) (by have := HK0.out; omega) (by have := HKN.out; omega)).2
                      have h2 := HCI.out
                      have h3 := HCO.out
                      unfold inF at h2
                      unfold outF at h3
                      exact absurd (show ci = co by omega) HCC.out
end Go.Proofs.YtjmebijckcimoaaGreatDoor
