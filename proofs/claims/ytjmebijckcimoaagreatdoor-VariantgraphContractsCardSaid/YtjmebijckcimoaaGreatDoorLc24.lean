/-
  Law Contracts: contracting keeps the texts and the number of paths; contracting twice is contracting once.
-/
import Derived.Test.YtjmebijckcimoaaGreatDoorCp24
import Derived.Test.YtjmebijckcimoaaGreatDoorAw24
import Derived.Test.YtjmebijckcimoaaGreatDoorRk24r
namespace Go.Proofs.YtjmebijckcimoaaGreatDoor
open Go.RowKit Go.Ap Go.Shelf Go.Proofs

attribute [local go_sem] Oper.semAt_some bs_toList empty_toList bs_size bs_extract max5
set_option maxRecDepth 100000 in
set_option maxHeartbeats 8000000 in
theorem law9 (ws : List Str) (al : List Vg.Arc) (a1 : Option Addr) (n1 c1 : Nat) (a2 : Option Addr) (n2 c2 : Nat) (w : World) (h : GraphM w a1 n1 a2 n2 ws al) (hev : EV w) :
    Calls Tryz.prog 9 #[graphV a1 n1 c1 a2 n2 c2] w fun e w' => e = .returned (.bool true) ∧ Below w.heap.size w w' := by
  have HL1 := Lib.hid h.words.len
  have HL2 := Lib.hid h.arcs.len
  have HGR := Lib.hid (fun W (hb : Below w.heap.size w W) => great21 ws al a1 n1 c1 a2 n2 c2 W (h.mono (Nat.le_refl _) hb))
  have HAW := Lib.hid (fun W (hb : Below w.heap.size w W) => awake12 W (hev.mono (Nat.le_refl _) hb))
  have HCK := Lib.hid (fun (g1 : n1 ≤ 4096) (g2 : n2 ≤ 65536) W (hb : Below w.heap.size w W) => checkR30 ws al a1 n1 c1 a2 n2 c2 W (h.mono (Nat.le_refl _) hb) g1 g2)
  have HMO := Lib.hid (fun W (hb : Below w.heap.size w W) => h.mono (Nat.le_refl _) hb)
  obtain ⟨W4, hW4⟩ : ∃ W4, w.alloc (.cells #[.slice a1 n1 c1, .slice a2 n2 c2] 31) = W4 := ⟨_, rfl⟩
  have HB4 := Lib.hid (show Below w.heap.size w W4 by rw [← hW4]; exact balloc _ _)
  have HBX := Lib.hid (show BoxG W4 w.heap.size a1 n1 c1 a2 n2 c2 by rw [← hW4]; exact BoxG.new w a1 n1 c1 a2 n2 c2)
  clear h hev
  unfold graphV at HGR HCK ⊢
  go_enter Tryz.func9, Tryz.ntmps9
  obtain ⟨k0, k1⟩ := HBX.out
  go_wp2_with (fail)
  refine (HGR.out _ HB4.out).mono ?_
  rintro e w1 ⟨⟨b, rfl, hb⟩, hb1⟩
  have HB1 := Lib.hid (bstep HB4.out hb1)
  have HX1 := Lib.hid (HBX.out.below hb1)
  have HGB := Lib.hid hb
  clear k0 k1 hb1 hb
  obtain ⟨k0, k1⟩ := HX1.out
  cases b
  case true =>
    go_wp2_with (fail)
    refine (HAW.out _ HB1.out).mono ?_
    rintro e w2 ⟨rfl, hb2⟩
    go_wp2_with (fail)
    go_ret
    exact ⟨rfl, bstep HB1.out hb2⟩
  have hsm := HGB.out rfl
  obtain ⟨s1, s2, s3, s4⟩ := hsm
  have h14 : n1 ≤ 14 := HL1.out ▸ s1
  have h24 : n2 ≤ 24 := HL2.out ▸ s2
  have hall : (allS al).length ≤ 144 := Nat.le_trans (allS_small s4) (by omega)
  have HCK2 := Lib.hid (HCK.out (by omega) (by omega))
  by_cases hok : Vg.chkG ws al = 0
  case neg =>
    obtain ⟨q, hq⟩ : ∃ q, Vg.chkG ws al = q := ⟨_, rfl⟩
    rw [hq] at hok HCK2
    have d0 : (q != 0) = true := by simpa using hok
    clear hq hok s1 s2 s3 s4 h14 h24 hall HCK
    go_wp2_with (fail)
    refine (HCK2.out _ HB1.out).mono ?_
    rintro e w2 ⟨rfl, hb2⟩
    have HB2 := Lib.hid (bstep HB1.out hb2)
    clear hb2
    go_wp2_with (fail)
    refine (HAW.out _ HB2.out).mono ?_
    rintro e w3 ⟨rfl, hb3⟩
    go_wp2_with (fail)
    go_ret
    exact ⟨rfl, bstep HB2.out hb3⟩
  rw [hok] at HCK2
  have HOK := Lib.hid hok
  have HSM := Lib.hid (show SmallG ws al from ⟨s1, s2, s3, s4⟩)
  have H14 := Lib.hid h14
  have H24 := Lib.hid h24
  have HALL := Lib.hid hall
  have HSLN := Lib.hid (show (srcC al).length ≤ 144 from Nat.le_trans (srcC_len al) hall)
  clear HCK s1 s2 s3 s4 hall h14 h24 hok
  go_wp2_with (fail)
  refine (HCK2.out _ HB1.out).mono ?_
  rintro e w2 ⟨rfl, hb2⟩
  have HB2 := Lib.hid (bstep HB1.out hb2)
  have HX2 := Lib.hid (HX1.out.below hb2)
  clear k0 k1 hb2
  obtain ⟨k0, k1⟩ := HX2.out
  have hco := contractOk ws al a1 n1 c1 a2 n2 c2 w2 (HMO.out _ HB2.out) (by have := H14.out; omega) (by have := H24.out; omega) HOK.out
    (fun k x => Nat.le_trans (accW_small (n := 14) (m := 40) HSM.out.2.2.1 HSM.out.1 k x) (by omega)) (by have := HALL.out; omega)
  have HCO := Lib.hid hco
  unfold graphV at HCO
  clear hco
  go_wp2_with (fail)
  refine HCO.out.mono ?_
  rintro e w3 ⟨a3, m3, c3, a4, m4, c4, al', rfl, hg3, hC, hb3⟩
  have hct := ctr_of HOK.out HSM.out hC
  have HCT := Lib.hid hct
  have hg3' : GraphM w3 a3 m3 a4 m4 (contrE ws al) al' := hg3
  obtain ⟨cw, hcw⟩ : ∃ cw, contrE ws al = cw := ⟨_, rfl⟩
  rw [hcw] at HCT hg3'
  have hm3 := hg3'.words.len
  have hm4 := hg3'.arcs.len
  have HM3 := Lib.hid (show m3 ≤ n1 by have := HCT.out.len; rw [hm3, HL1.out] at this; exact this)
  have HM4 := Lib.hid (show m4 ≤ 144 by have := HCT.out.arcs; rw [hm4] at this; exact this)
  have HW3 := Lib.hid hm3
  obtain ⟨bc, hbc⟩ : ∃ b, w3.heap.size = b := ⟨_, rfl⟩
  have kb := balloc w3 (.cells #[.slice a3 m3 c3, .slice a4 m4 c4] 31)
  have hK := BoxG.new w3 a3 m3 c3 a4 m4 c4
  rw [hbc] at hK
  have hb23 := bstep hb3 kb
  have HB3 := Lib.hid (bstep HB2.out hb23)
  have HX3 := Lib.hid (HX2.out.below hb23)
  have hgc := hg3'.mono (Nat.le_refl _) kb
  obtain ⟨W3, hW3⟩ : ∃ W, w3.alloc (.cells #[.slice a3 m3 c3, .slice a4 m4 c4] 31) = W := ⟨_, rfl⟩
  rw [hW3] at hK HB3 HX3 hgc
  have HXC := Lib.hid hK
  have HGC := Lib.hid hgc
  clear k0 k1 hb3 kb hb23 hg3 hg3' hC hct hcw hgc hm3 hm4
  obtain ⟨k0, k1⟩ := hK
  have hco := contractOk cw al' a3 m3 c3 a4 m4 c4 W3 HGC.out (by have := H14.out; have := HM3.out; omega) (by have := HM4.out; omega) HCT.out.ok
    (fun k x => Nat.le_trans (accW_small (n := 14) (m := 614) HCT.out.words (by have := HCT.out.len; have := HSM.out.1; omega) k x) (by omega)) (by have := HCT.out.allS; omega)
  have HCO2 := Lib.hid hco
  unfold graphV at HCO2
  clear hco HCO
  go_wp2_with (fail)
  refine HCO2.out.mono ?_
  rintro e w4 ⟨a5, m5, c5, a6, m6, c6, al2, rfl, hg4, hC2, hb4⟩
  have hal := HCT.out.same al2 hC2
  subst hal
  have hg4' : GraphM w4 a5 m5 a6 m6 (contrE cw al2) al2 := hg4
  rw [HCT.out.again] at hg4'
  have hm5 : m5 = m3 := by have := hg4'.words.len; have h3 := HW3.out; omega
  have hm6 : m6 = m4 := by have := hg4'.arcs.len; have h3 := HGC.out.arcs.len; omega
  subst hm5 hm6
  obtain ⟨bd, hbd⟩ : ∃ b, w4.heap.size = b := ⟨_, rfl⟩
  have kb := balloc w4 (.cells #[.slice a5 m5 c5, .slice a6 m6 c6] 31)
  have hK := BoxG.new w4 a5 m5 c5 a6 m6 c6
  rw [hbd] at hK
  have hb34 := bstep hb4 kb
  have HB4' := Lib.hid (bstep HB3.out hb34)
  have HX4 := Lib.hid (HX3.out.below hb34)
  have HXC4 := Lib.hid (HXC.out.below hb34)
  have HGC4 := Lib.hid (HGC.out.mono (Nat.le_refl _) hb34)
  have hgd := hg4'.mono (Nat.le_refl _) kb
  obtain ⟨W5, hW5⟩ : ∃ W, w4.alloc (.cells #[.slice a5 m5 c5, .slice a6 m6 c6] 31) = W := ⟨_, rfl⟩
  rw [hW5] at hK HB4' HX4 HXC4 HGC4 hgd
  have HXD := Lib.hid hK
  have HGD := Lib.hid hgd
  clear k0 k1 hb4 kb hb34 hg4 hg4' hC2 hgd hK HCO2 hW3 hbc
  obtain ⟨k0, k1⟩ := HX4.out
  have hpa := pathsOk ws al a1 n1 c1 a2 n2 c2 W5 (HMO.out _ HB4'.out) (by have := H14.out; omega) (by have := H24.out; omega) HOK.out
  obtain ⟨pn, hpn⟩ : ∃ p, Vg.pathsN 1073741824 ((ws.length : Int) - 1) al = p := ⟨_, rfl⟩
  have HPE := Lib.hid (show Vg.pathsN 1073741824 ((cw.length : Int) - 1) al2 = pn by rw [HCT.out.paths]; exact hpn)
  rw [hpn] at hpa
  have HPA := Lib.hid hpa
  unfold graphV at HPA
  clear hpa hpn
  go_wp2_with (fail)
  refine HPA.out.mono ?_
  rintro e w5 ⟨rfl, hb5⟩
  have HB5 := Lib.hid (bstep HB4'.out hb5)
  have HX5 := Lib.hid (HX4.out.below hb5)
  have HXC5 := Lib.hid (HXC4.out.below hb5)
  have HXD5 := Lib.hid (HXD.out.below hb5)
  have HGC5 := Lib.hid (HGC4.out.mono (Nat.le_refl _) hb5)
  have HGD5 := Lib.hid (HGD.out.mono (Nat.le_refl _) hb5)
  clear k0 k1 hb5 hW5 hbd
  obtain ⟨k0, k1⟩ := HXC5.out
  have hpa := pathsOk cw al2 a3 m5 c3 a4 m6 c4 w5 HGC5.out (by have := H14.out; have := HM3.out; omega) (by have := HM4.out; omega) HCT.out.ok
  rw [HPE.out] at hpa
  have HPA2 := Lib.hid hpa
  unfold graphV at HPA2
  clear hpa HPA
  go_wp2_with (fail)
  refine HPA2.out.mono ?_
  rintro e w6 ⟨rfl, hb6⟩
  have HB6 := Lib.hid (bstep HB5.out hb6)
  have HX6 := Lib.hid (HX5.out.below hb6)
  have HXC6 := Lib.hid (HXC5.out.below hb6)
  have HXD6 := Lib.hid (HXD5.out.below hb6)
  have HGC6 := Lib.hid (HGC5.out.mono (Nat.le_refl _) hb6)
  have HGD6 := Lib.hid (HGD5.out.mono (Nat.le_refl _) hb6)
  clear k0 k1 hb6 HPA2
  obtain ⟨k0, k1⟩ := HX6.out
  have HSO := Lib.hid (sourcesOk ws al a1 n1 c1 a2 n2 c2 w6 (HMO.out _ HB6.out) (by have := H14.out; omega) (by have := H24.out; omega) (by have := HALL.out; omega) HOK.out)
  unfold graphV at HSO
  go_wp2_with (fail)
  refine HSO.out.mono ?_
  rintro e w7 ⟨u, rfl, hu, hb7⟩
  obtain ⟨al3, cl3, rfl, hui⟩ := hu.ints (by have := HSLN.out; omega)
  have HB7 := Lib.hid (bstep HB6.out hb7)
  have HX7 := Lib.hid (HX6.out.below hb7)
  have HXC7 := Lib.hid (HXC6.out.below hb7)
  have HXD7 := Lib.hid (HXD6.out.below hb7)
  have HGC7 := Lib.hid (HGC6.out.mono (Nat.le_refl _) hb7)
  have HGD7 := Lib.hid (HGD6.out.mono (Nat.le_refl _) hb7)
  have HUI := Lib.hid hui
  obtain ⟨ss, hss⟩ : ∃ ss, srcC al = ss := ⟨_, rfl⟩
  have HSS := Lib.hid hss
  rw [hss] at HUI HSLN ⊢
  obtain ⟨ms, hms⟩ : ∃ m, ss.length = m := ⟨_, rfl⟩
  rw [hms] at HUI HSLN ⊢
  clear k0 k1 hb7 hu hui hss hms HSO
  obtain ⟨k0, k1⟩ := HXC7.out
  have HCC := Lib.hid (checkP cw al2 a3 m5 c3 a4 m6 c4 w7 HGC7.out (by have := H14.out; have := HM3.out; omega) (by have := HM4.out; omega))
  rw [HCT.out.ok] at HCC
  unfold graphV at HCC
  go_wp2_with (fail)
  refine HCC.out.mono ?_
  rintro e w8 ⟨rfl, hb8⟩
  have HB8 := Lib.hid (bstep HB7.out hb8)
  have HX8 := Lib.hid (HX7.out.below hb8)
  have HXC8 := Lib.hid (HXC7.out.below hb8)
  have HXD8 := Lib.hid (HXD7.out.below hb8)
  have HGC8 := Lib.hid (HGC7.out.mono (Nat.le_refl _) hb8)
  have HGD8 := Lib.hid (HGD7.out.mono (Nat.le_refl _) hb8)
  have HU8 := Lib.hid (HUI.out.mono (Nat.le_refl _) hb8)
  clear k0 k1 hb8 HCC
  obtain ⟨k0, k1⟩ := HXC8.out
  obtain ⟨l0, l1⟩ := HXD8.out
  have HSA := Lib.hid (sameT cw al2 a3 m5 c3 a4 m6 c4 a5 m5 c5 a6 m6 c6 w8 HGC8.out HGD8.out)
  unfold graphV at HSA
  go_wp2_with (fail)
  refine HSA.out.mono ?_
  rintro e w9 ⟨rfl, hb9⟩
  have HB9 := Lib.hid (bstep HB8.out hb9)
  have HX9 := Lib.hid (HX8.out.below hb9)
  have HXC9 := Lib.hid (HXC8.out.below hb9)
  have HGC9 := Lib.hid (HGC8.out.mono (Nat.le_refl _) hb9)
  have HU9 := Lib.hid (HU8.out.mono (Nat.le_refl _) hb9)
  clear k0 k1 l0 l1 hb9 HSA
  obtain ⟨k0, k1⟩ := HX9.out
  obtain ⟨l0, l1⟩ := HXC9.out
  have e5 : ((pn : Int) != (pn : Int)) = false := by simp
  have e6 : decide ((n1 : Int) < (m5 : Int)) = false := decide_eq_false (by have := HM3.out; omega)
  have e6' : decide (n1 < m5) = false := decide_eq_false (by have := HM3.out; omega)
  go_wp2_with (fail)
  clear k0 k1 l0 l1 e5 e6 e6'
  have hms4 : ms ≤ 144 := HSLN.out
  go_loopw [86] (fun iv wr => ∃ i : Nat, i ≤ ms ∧ iv = .int .i64 i ∧ Below w9.heap.size w9 wr) (fun iv _ => ms - (intOf iv).toNat)
  case atStart => exact ⟨0, Nat.zero_le _, rfl, Below.refl _ _⟩
  case round =>
    obtain ⟨wi, rfl⟩ : ∃ wi : World, wi = wr := ⟨_, rfl⟩
    obtain ⟨i, hi, rfl, hb⟩ := hrel
    have HBI := Lib.hid hb
    have HBW := Lib.hid (bstep HB9.out hb)
    by_cases hin : i < ms
    case neg =>
      obtain rfl : ms = i := by omega
      clear hi hin hb
      go_wp2_with (fail)
      refine (HAW.out _ HBW.out).mono ?_
      rintro e w10 ⟨rfl, hb10⟩
      go_wp2_with (fail)
      go_ret
      exact ⟨rfl, bstep HBW.out hb10⟩
    have i1 : (i : Int) < (ms : Int) := by omega
    have HIN := Lib.hid hin
    have HXI := Lib.hid (HX9.out.below hb)
    have HXCI := Lib.hid (HXC9.out.below hb)
    have HGCI := Lib.hid (HGC9.out.mono (Nat.le_refl _) hb)
    obtain ⟨s, b7, o7, v7, hs, he7, hc7, hv7, _⟩ := Sl.at (HU9.out.mono (Nat.le_refl _) hb) hin
    subst he7 hv7
    have hsm : s ∈ srcC al := by rw [HSS.out]; exact List.mem_of_getElem? hs
    have hsm2 : s ∈ srcC al2 := (HCT.out.src s).2 hsm
    have HJE := Lib.hid (HCT.out.join s)
    obtain ⟨g1, g2⟩ := spell_len24 HOK.out HSM.out.2.2.1 s
    obtain ⟨g3, g4⟩ := spell_len24 HCT.out.ok HCT.out.words s
    have hsp := callsIn_wide.1 (spellOk ws al a1 n1 c1 a2 n2 c2 s wi (HMO.out _ HBW.out) (by have := H14.out; omega) (by have := H24.out; omega) (by have := HALL.out; omega) HOK.out hsm)
    obtain ⟨A, hA⟩ : ∃ A, Vg.spellW ws al s = A := ⟨_, rfl⟩
    obtain ⟨B, hB⟩ : ∃ B, Vg.spellW cw al2 s = B := ⟨_, rfl⟩
    have HSPB := Lib.hid (fun W (hb : Below wi.heap.size wi W) => callsIn_wide.1 (spellOk cw al2 a3 m5 c3 a4 m6 c4 s W (HGCI.out.mono (Nat.le_refl _) hb) (by have := H14.out; have := HM3.out; omega) (by have := HM4.out; omega) (by have := HCT.out.allS; omega) HCT.out.ok hsm2))
    rw [hA] at hsp HJE g1 g2
    rw [hB] at HJE HSPB g3 g4
    have HSPA := Lib.hid hsp
    unfold graphV at HSPA HSPB
    have HAL := Lib.hid (show A.length ≤ 24 by have := HL2.out; have := H24.out; omega)
    have HBL := Lib.hid (show B.length ≤ 144 by have := HCT.out.arcs; omega)
    have HAW2 := Lib.hid g2
    have HBW2 := Lib.hid g4
    clear hs hsm hsm2 g1 g2 g3 g4 hsp hA hB hi hin hb
    obtain ⟨k0, k1⟩ := HXI.out
    go_wp2_with (fail)
    refine HSPA.out.mono ?_
    rintro e w10 ⟨v10, rfl, hv10, hb10⟩
    obtain ⟨a7, c7, rfl, hs7, hc7'⟩ := OwnS.cap hv10 (by have := HAL.out; omega)
    have HS7 := Lib.hid hs7
    have HC7 := Lib.hid hc7'
    have HB10 := Lib.hid hb10
    clear hv10 hs7 hc7' k0 k1 hc7
    obtain ⟨k0, k1⟩ := HXCI.out.below hb10
    clear hb10
    obtain ⟨mA, hmA⟩ : ∃ m, A.length = m := ⟨_, rfl⟩
    rw [hmA] at HS7 HC7 ⊢
    have HMA := Lib.hid hmA
    clear hmA
    go_wp2_with (fail)
    refine (HSPB.out _ HB10.out).mono ?_
    rintro e w11 ⟨v11, rfl, hv11, hb11⟩
    obtain ⟨a8, c8, rfl, hs8, hc8⟩ := OwnS.cap hv11 (by have := HBL.out; omega)
    have HB11 := Lib.hid (bstep HB10.out hb11)
    have hja := join_len [32] (m := 40) HAW2.out
    have hjb := join_len [32] (m := 614) HBW2.out
    have hja2 : A.length * (40 + 1) ≤ 24 * 41 := Nat.mul_le_mul HAL.out (by omega)
    have hjb2 : B.length * (614 + 1) ≤ 144 * 615 := Nat.mul_le_mul HBL.out (by omega)
    simp only [List.length_cons, List.length_nil] at hja hjb
    have HJA := Lib.hid (joinC a7 mA c7 A [32] w11 (HS7.out.mono (Nat.le_refl _) hb11) HC7.out (by omega) (by have := HMA.out; have := HAL.out; omega))
    have HJB := Lib.hid (fun W (hb : Below w11.heap.size w11 W) => joinC a8 _ c8 B [32] W (hs8.mono (Nat.le_refl _) hb) hc8 (by omega) (by have := HBL.out; omega))
    rw [HJE.out] at HJB
    obtain ⟨J, hJ⟩ : ∃ J, Lib.join A [32] = J := ⟨_, rfl⟩
    rw [hJ] at HJA HJB
    obtain ⟨mB, hmB⟩ : ∃ m, B.length = m := ⟨_, rfl⟩
    rw [hmB] at HJB ⊢
    clear hv11 hb11 hs8 hc8 hja hjb hja2 hjb2 hJ hmB k0 k1
    go_wp2_with (fail)
    refine HJA.out.mono ?_
    rintro e w12 ⟨rfl, hb12⟩
    have HB12 := Lib.hid (bstep HB11.out hb12)
    have HB12' := Lib.hid hb12
    clear hb12
    go_wp2_with (fail)
    refine (HJB.out _ HB12'.out).mono ?_
    rintro e w13 ⟨rfl, hb13⟩
    have HB13 := Lib.hid (bstep HB12.out hb13)
    clear hb13
    have eJ : (J != J) = false := by simp
    go_wp2_with (fail)
    go_roundw
    case rel => exact ⟨i + 1, by have := HIN.out; omega, by simp, HBI.out.trans (HB13.out.mono HBI.out.size)⟩
    case measure => have := HIN.out; simp [intOf]; omega
end Go.Proofs.YtjmebijckcimoaaGreatDoor
