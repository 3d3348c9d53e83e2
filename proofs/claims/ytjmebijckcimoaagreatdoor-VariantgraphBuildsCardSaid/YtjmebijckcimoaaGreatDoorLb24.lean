/-
 Law Builds: program and reference lay the same graph of any collation, and spell and count it alike.
-/
import Derived.Test.YtjmebijckcimoaaGreatDoorAw24
import Derived.Test.YtjmebijckcimoaaGreatDoorBt24
import Derived.Test.YtjmebijckcimoaaGreatDoorAb24
import Derived.Test.YtjmebijckcimoaaGreatDoorSg24
import Derived.Test.YtjmebijckcimoaaGreatDoorEq
import Derived.Test.YtjmebijckcimoaaGreatDoorGo24
import Derived.Test.YtjmebijckcimoaaGreatDoorQ7
namespace Go.Proofs.YtjmebijckcimoaaGreatDoor
open Go.RowKit Go.Ap Go.Shelf Go.Proofs

theorem walkA_len (s : Int) : ∀ (al : List Vg.Arc) (p : Int), (Vg.walkA s p al).length ≤ al.length
 | [], p => by simp [Vg.walkA]
 | a :: r, p => by
  rw [Vg.walkA_cons]
  split
  · have := walkA_len s r a.1.2
    simp only [List.length_cons]
    omega
  · have := walkA_len s r p
    simp only [List.length_cons]
    omega
theorem spellW_len (ws : List Str) (al : List Vg.Arc) (s : Int) : (Vg.spellW ws al s).length ≤ al.length := by
 unfold Vg.spellW
 rw [List.length_map]
 exact Nat.le_trans (List.length_filter_le _ _) (walkA_len s al 0)
def BuildA (w : World) (ws : List Str) (al : List Vg.Arc) (er : Int) (e : Ending) (w' : World) : Prop := ∃ b1 m1 k1 b2 m2 k2, e = .returned (.tuple #[graphV b1 m1 k1 b2 m2 k2, .int .i64 er]) ∧ GraphM w' b1 m1 b2 m2 ws al ∧ Below w.heap.size w w'
/-- both sides lay one graph -/
theorem builds (x : Coll) (h24 : x.columns.length ≤ 24) : ∃ ws al er, ws.length ≤ 1000 ∧ al.length ≤ 900 ∧ (allS al).length ≤ 30000 ∧
 ∀ (a1 : Option Addr) (n1 c1 : Nat) (a2 : Option Addr) (n2 c2 : Nat) (a3 : Option Addr) (n3 c3 : Nat) (w : World), CollM w a1 a2 a3 n1 n2 n3 x → n1 ≤ c1 → EV w →
  Calls Tryz.prog 13 #[collV x.sec a1 n1 c1 a2 n2 c2 a3 n3 c3] w (BuildA w ws al er) ∧ Calls Tryz.prog 14 #[collV x.sec a1 n1 c1 a2 n2 c2 a3 n3 c3] w (BuildA w ws al er) := by
 by_cases hok : collC x = 0
 · have hv := val_of hok
   obtain ⟨g1, g2, g3⟩ := graph_len hv h24
   refine ⟨_, _, 0, g1, g2, g3, fun a1 n1 c1 a2 n2 c2 a3 n3 c3 w h hc1 hev => ?_⟩
   have h3 := h.columns.len
   have h1 := h.sigla.len
   rw [h1]
   exact ⟨buildOk x a1 n1 c1 a2 n2 c2 a3 n3 c3 w h hc1 hev hok (by omega), buildROk x a1 n1 c1 a2 n2 c2 a3 n3 c3 w h hok (by omega)⟩
 · refine ⟨[], [], 1, by simp, by simp, by simp [allS], fun a1 n1 c1 a2 n2 c2 a3 n3 c3 w h hc1 hev => ⟨?_, ?_⟩⟩
   · exact (buildBad x a1 n1 c1 a2 n2 c2 a3 n3 c3 w h hc1 hev hok).mono fun e w' ⟨he, hb⟩ => ⟨none, 0, 0, none, 0, 0, he, ⟨Sl.nil _ _, SlM.nil _ _⟩, hb⟩
   · exact (buildRBad x a1 n1 c1 a2 n2 c2 a3 n3 c3 w h hok).mono fun e w' ⟨he, hb⟩ => ⟨none, 0, 0, none, 0, 0, he, ⟨Sl.nil _ _, SlM.nil _ _⟩, hb⟩
attribute [local go_sem] Oper.semAt_some bs_toList empty_toList bs_size bs_extract
set_option maxRecDepth 100000 in
set_option maxHeartbeats 8000000 in
theorem law3 (x : Coll) (a1 : Option Addr) (n1 c1 : Nat) (a2 : Option Addr) (n2 c2 : Nat) (a3 : Option Addr) (n3 c3 : Nat) (s : Int) (w : World) (h : CollM w a1 a2 a3 n1 n2 n3 x) (hc1 : n1 ≤ c1) (_ : I64 s) (hev : EV w) :
 Calls Tryz.prog 3 #[collV x.sec a1 n1 c1 a2 n2 c2 a3 n3 c3, .int .i64 s] w fun e w' => e = .returned (.bool true) ∧ Below w.heap.size w w' := by
 have HGR := Lib.hid (fun W (hb : Below w.heap.size w W) => greatR x a1 n1 c1 a2 n2 c2 a3 n3 c3 W (h.mono (Nat.le_refl _) hb))
 have HAW := Lib.hid (fun W (hb : Below w.heap.size w W) => awake12 W (hev.mono (Nat.le_refl _) hb))
 have HBU := Lib.hid (fun (h24 : x.columns.length ≤ 24) => builds x h24)
 have HM := Lib.hid (fun W (hb : Below w.heap.size w W) => (⟨h.mono (Nat.le_refl _) hb, hev.mono (Nat.le_refl _) hb⟩ : CollM W a1 a2 a3 n1 n2 n3 x ∧ EV W))
 obtain ⟨W4, hW4⟩ : ∃ W4, w.alloc (.cells #[.string (bs x.sec), .slice a1 n1 c1, .slice a2 n2 c2, .slice a3 n3 c3] 26) = W4 := ⟨_, rfl⟩
 have HB4 := Lib.hid (show Below w.heap.size w W4 by rw [← hW4]; exact balloc _ _)
 have HBX := Lib.hid (show BoxC W4 w.heap.size x.sec a1 n1 c1 a2 n2 c2 a3 n3 c3 by rw [← hW4]; exact BoxC.new w _ _ _ _ _ _ _ _ _ _)
 have HW4 := Lib.hid hW4
 clear h hev hW4
 unfold collV at HGR ⊢
 go_enter Tryz.func3, Tryz.ntmps3
 obtain ⟨k0, k1, k2, k3⟩ := HBX.out
 rw [← HW4.out] at k0 k1 k2 k3
 go_wp2_with (fail)
 rw [HW4.out]
 refine (HGR.out _ HB4.out).mono ?_
 clear k0 k1 k2 k3
 rintro e w1 ⟨⟨q, rfl, hq⟩, hb1⟩
 have HB1 := Lib.hid (bstep HB4.out hb1)
 have HX1 := Lib.hid (HBX.out.below hb1)
 clear hb1
 cases q
 case true =>
  go_wp2_with (fail)
  refine (HAW.out _ HB1.out).mono ?_
  rintro e w2 ⟨rfl, hb2⟩
  go_wp2_with (fail)
  go_ret
  exact ⟨rfl, bstep HB1.out hb2⟩
 obtain ⟨ws, al, er, g1, g2, g3, hbu⟩ := HBU.out (hq rfl)
 have HG1 := Lib.hid g1
 have HG2 := Lib.hid g2
 obtain ⟨sw, sc, p, pc, hsw, hans⟩ := answersB ws al s (by omega) (by omega) (by omega) (fun s => .inl (by have := spellW_len ws al s; omega))
 have HSW := Lib.hid hsw
 have HAN := Lib.hid hans
 have HBP := Lib.hid (fun W (hb : Below w.heap.size w W) => (hbu a1 n1 c1 a2 n2 c2 a3 n3 c3 W (HM.out W hb).1 hc1 (HM.out W hb).2).1)
 have HBR := Lib.hid (fun W (hb : Below w.heap.size w W) => (hbu a1 n1 c1 a2 n2 c2 a3 n3 c3 W (HM.out W hb).1 hc1 (HM.out W hb).2).2)
 clear hq g1 g2 g3 hbu hsw hans HBU
 unfold collV at HBP HBR
 obtain ⟨k0, k1, k2, k3⟩ := HX1.out
 go_wp2_with (fail)
 refine (HBP.out _ HB1.out).mono ?_
 clear k0 k1 k2 k3
 rintro e w2 ⟨b1, m1, j1, b2, m2, j2, rfl, hg, hb2⟩
 have kb := balloc w2 (.cells #[.slice b1 m1 j1, .slice b2 m2 j2] 31)
 have hK := BoxG.new w2 b1 m1 j1 b2 m2 j2
 obtain ⟨C, hC⟩ : ∃ C, w2.heap.size = C := ⟨_, rfl⟩
 obtain ⟨W3, hW3⟩ : ∃ W, w2.alloc (.cells #[.slice b1 m1 j1, .slice b2 m2 j2] 31) = W := ⟨_, rfl⟩
 have hg3 := hg.mono (Nat.le_refl _) kb
 have hb3 := bstep hb2 kb
 rw [hC] at hK
 rw [hW3] at hK hg3 hb3
 have HB3 := Lib.hid (bstep HB1.out hb3)
 have HG3 := Lib.hid hg3
 have HK3 := Lib.hid hK
 have HX3 := Lib.hid (HX1.out.below hb3)
 have HCC := Lib.hid hC
 have HWW3 := Lib.hid hW3
 clear hg kb hK hg3 hb3 hb2 hC hW3
 unfold graphV
 obtain ⟨k0, k1, k2, k3⟩ := HX3.out
 rw [← HWW3.out] at k0 k1 k2 k3
 go_wp2_with (fail)
 rw [HWW3.out]
 try rw [HCC.out]
 refine (HBR.out _ HB3.out).mono ?_
 clear k0 k1 k2 k3
 rintro e w4 ⟨d1, l1, i1, d2, l2, i2, rfl, hg, hb4⟩
 have kb := balloc w4 (.cells #[.slice d1 l1 i1, .slice d2 l2 i2] 31)
 have hK := BoxG.new w4 d1 l1 i1 d2 l2 i2
 obtain ⟨D, hD⟩ : ∃ D, w4.heap.size = D := ⟨_, rfl⟩
 obtain ⟨W5, hW5⟩ : ∃ W, w4.alloc (.cells #[.slice d1 l1 i1, .slice d2 l2 i2] 31) = W := ⟨_, rfl⟩
 have hg5 := hg.mono (Nat.le_refl _) kb
 have hb5 := bstep hb4 kb
 rw [hD] at hK
 rw [hW5] at hK hg5 hb5
 have HB5 := Lib.hid (bstep HB3.out hb5)
 have HG5 := Lib.hid hg5
 have HK5 := Lib.hid hK
 have HG35 := Lib.hid (HG3.out.mono (Nat.le_refl _) hb5)
 have HK35 := Lib.hid (HK3.out.below hb5)
 have HDD := Lib.hid hD
 have HWW5 := Lib.hid hW5
 clear hg kb hK hg5 hb5 hb4 hD hW5
 unfold graphV
 have HST := Lib.hid (sameT ws al b1 m1 j1 b2 m2 j2 d1 l1 i1 d2 l2 i2 W5 HG35.out HG5.out)
 unfold graphV at HST
 obtain ⟨x0, x1⟩ := HK35.out
 obtain ⟨y0, y1⟩ := HK5.out
 rw [← HWW5.out] at x0 x1 y0 y1
 rw [← HDD.out] at y0 y1
 go_wp2_with (fail)
 rw [HWW5.out, HDD.out]
 refine HST.out.mono ?_
 clear x0 x1 y0 y1
 rintro e w6 ⟨rfl, hb6⟩
 have HB6 := Lib.hid (bstep HB5.out hb6)
 have HK6 := Lib.hid (HK5.out.below hb6)
 have HAN6 := Lib.hid (fun W (hb : Below w6.heap.size w6 W) => HAN.out d1 l1 i1 d2 l2 i2 W (HG5.out.mono (Nat.le_refl _) (bstep hb6 hb)))
 clear hb6 HAN HST HG3 HG5 HG35 HK3 HK35 HBP HBR
 unfold graphV at HAN6
 have z0 : (er != er) = false := by simp
 obtain ⟨y0, y1⟩ := HK6.out
 have HA7 := Lib.hid (HAN6.out w6 (Below.refl _ _)).spell
 go_wp2_with (fail)
 clear z0 y0 y1
 refine HA7.out.mono ?_
 rintro e w7 ⟨u7, rfl, ho7, hb7⟩
 have HB7 := Lib.hid hb7
 have HO7 := Lib.hid ho7
 obtain ⟨y0, y1⟩ := HK6.out.below hb7
 have HA8 := Lib.hid (HAN6.out w7 hb7).spellR
 clear ho7 hb7 HA7
 go_wp2_with (fail)
 clear y0 y1
 refine HA8.out.mono ?_
 rintro e w8 ⟨u8, rfl, ho8, hb8⟩
 have HB8 := Lib.hid (bstep HB7.out hb8)
 have HO8 := Lib.hid ho8
 have HO78 := Lib.hid (HO7.out.below hb8)
 obtain ⟨y0, y1⟩ := HK6.out.below HB8.out
 have HA9 := Lib.hid (HAN6.out w8 HB8.out).paths
 clear ho8 hb8 HA8 HO7
 go_wp2_with (fail)
 clear y0 y1
 refine HA9.out.mono ?_
 rintro e w9 ⟨rfl, hb9⟩
 have HB9 := Lib.hid (bstep HB8.out hb9)
 have HO89 := Lib.hid (HO8.out.below hb9)
 have HO79 := Lib.hid (HO78.out.below hb9)
 obtain ⟨y0, y1⟩ := HK6.out.below HB9.out
 have HA10 := Lib.hid (HAN6.out w9 HB9.out).pathsR
 clear hb9 HA9 HO8 HO78
 go_wp2_with (fail)
 clear y0 y1
 refine HA10.out.mono ?_
 rintro e w10 ⟨rfl, hb10⟩
 have HB10 := Lib.hid (bstep HB9.out hb10)
 obtain ⟨ap, cp, rfl, hsp⟩ := OwnS.strs (HO79.out.below hb10) (by have := HSW.out; omega)
 obtain ⟨ar, cr, rfl, hsr⟩ := OwnS.strs (HO89.out.below hb10) (by have := HSW.out; omega)
 have HEQ := Lib.hid (eqStrs ap ar cp cr sw.length sw.length sw sw w10 hsp hsr)
 rw [show decide (sw = sw) = true by simp] at HEQ
 obtain ⟨ms, hms⟩ : ∃ m, sw.length = m := ⟨_, rfl⟩
 rw [hms] at HEQ ⊢
 clear hb10 HA10 hsp hsr hms HO79 HO89
 have z1 : (sc == sc) = true := by simp
 have z2 : (p == p) = true := by simp
 have z3 : (pc == pc) = true := by simp
 go_wp2_with (fail)
 refine HEQ.out.mono ?_
 rintro e w11 ⟨rfl, qn, rfl⟩
 have HB11 := Lib.hid (bstep HB6.out (bstep HB10.out (bdrewN w10 qn)))
 generalize w10.drewN qn = w11 at HB11 ⊢
 go_wp2_with (fail)
 refine (HAW.out _ HB11.out).mono ?_
 rintro e w12 ⟨rfl, hb12⟩
 go_wp2_with (fail)
 go_ret
 exact ⟨rfl, bstep HB11.out hb12⟩
end Go.Proofs.YtjmebijckcimoaaGreatDoor
