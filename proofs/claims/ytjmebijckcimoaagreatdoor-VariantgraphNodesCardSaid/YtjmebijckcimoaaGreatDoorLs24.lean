/-
  Law Spells: each source spells its text in the graph of its collation.
-/
import Derived.Test.YtjmebijckcimoaaGreatDoorAw24
import Derived.Test.YtjmebijckcimoaaGreatDoorFi24
import Derived.Test.YtjmebijckcimoaaGreatDoorTx24
namespace Go.Proofs.YtjmebijckcimoaaGreatDoor
open Go.RowKit Go.Ap Go.Shelf Go.Proofs

attribute [local go_sem] Oper.semAt_some bs_toList empty_toList bs_size bs_extract
theorem src_in {x : Coll} {s : Nat} (hs : s < x.sigla.length) : (s : Int) ∈ srcC (Vg.arcsG (optC x) x.sigla.length) :=
  ((srcC_all _).all _).2 ((Vg.arcsG_goes (cs := optC x) (n := x.sigla.length) (s : Int)).2 ⟨s, rfl, hs⟩)
theorem src_out {x : Coll} : ((x.sigla.length : Nat) : Int) ∉ srcC (Vg.arcsG (optC x) x.sigla.length) := fun h => by
  obtain ⟨i, h1, h2⟩ := (Vg.arcsG_goes (cs := optC x) (n := x.sigla.length) ((x.sigla.length : Nat) : Int)).1 (((srcC_all _).all _).1 h)
  omega
theorem spell_text {x : Coll} {s : Nat} (hs : s < x.sigla.length) : Vg.spellW (Vg.wordsL [] (optC x)) (Vg.arcsG (optC x) x.sigla.length) (s : Int) = readL x s 0 x.columns.length := by
  rw [← textsL_read hs, ← Vg.arcsG_spell (cs := optC x) hs []]
  unfold Vg.spellW
  rw [wordsL_end]
set_option maxRecDepth 100000 in
set_option maxHeartbeats 4000000 in
theorem law5 (x : Coll) (a1 : Option Addr) (n1 c1 : Nat) (a2 : Option Addr) (n2 c2 : Nat) (a3 : Option Addr) (n3 c3 : Nat) (w : World) (h : CollM w a1 a2 a3 n1 n2 n3 x) (hc1 : n1 ≤ c1) (hev : EV w) :
    Calls Tryz.prog 5 #[collV x.sec a1 n1 c1 a2 n2 c2 a3 n3 c3] w fun e w' => e = .returned (.bool true) ∧ Below w.heap.size w w' := by
  have hl1 := h.sigla.len
  have hl3 := h.columns.len
  have HFI := Lib.hid (fun W (hb : Below w.heap.size w W) => fineP x a1 n1 c1 a2 n2 c2 a3 n3 c3 W (h.mono (Nat.le_refl _) hb))
  have HAW := Lib.hid (fun W (hb : Below w.heap.size w W) => awake12 W (hev.mono (Nat.le_refl _) hb))
  have HBD := Lib.hid (fun (hok : collC x = 0) (h24 : n3 ≤ 24) W (hb : Below w.heap.size w W) => buildOk x a1 n1 c1 a2 n2 c2 a3 n3 c3 W (h.mono (Nat.le_refl _) hb) hc1 (hev.mono (Nat.le_refl _) hb) hok h24)
  have HTX := Lib.hid (fun (hok : collC x = 0) (s : Nat) (hs : s < x.sigla.length) W (hb : Below w.heap.size w W) => textC x a1 n1 c1 a2 n2 c2 a3 n3 c3 W (h.mono (Nat.le_refl _) hb) hc1 (hev.mono (Nat.le_refl _) hb) hok s hs)
  have HL1 := Lib.hid hl1
  have HL3 := Lib.hid hl3
  have hsm := h.sigla.small
  obtain ⟨W4, hW4⟩ : ∃ W4, w.alloc (.cells #[.string (bs x.sec), .slice a1 n1 c1, .slice a2 n2 c2, .slice a3 n3 c3] 26) = W4 := ⟨_, rfl⟩
  have HB4 := Lib.hid (show Below w.heap.size w W4 by rw [← hW4]; exact balloc _ _)
  have HBX := Lib.hid (show BoxC W4 w.heap.size x.sec a1 n1 c1 a2 n2 c2 a3 n3 c3 by rw [← hW4]; exact BoxC.new w _ _ _ _ _ _ _ _ _ _)
  clear h hc1 hev hl1 hl3
  unfold collV at HFI HBD HTX ⊢
  go_enter Tryz.func5, Tryz.ntmps5
  obtain ⟨k0, k1, k2, k3⟩ := HBX.out
  go_wp2_with (fail)
  refine (HFI.out _ HB4.out).mono ?_
  rintro e w1 ⟨⟨b, rfl, hb⟩, hb1⟩
  have HB1 := Lib.hid (bstep HB4.out hb1)
  have HX1 := Lib.hid (HBX.out.below hb1)
  have HGB := Lib.hid hb
  clear k0 k1 k2 k3 hb1 hb
  cases b
  case false =>
    go_wp2_with (fail)
    refine (HAW.out _ HB1.out).mono ?_
    rintro e w2 ⟨rfl, hb2⟩
    go_wp2_with (fail)
    go_ret
    exact ⟨rfl, bstep HB1.out hb2⟩
  obtain ⟨hok, h24⟩ := HGB.out rfl
  have hv := val_of hok
  have HC24 := Lib.hid h24
  have HGO := Lib.hid (graph_ok hv h24)
  have HGL := Lib.hid (graph_len hv h24)
  have HBD2 := Lib.hid (HBD.out hok (by rw [← HL3.out]; exact h24))
  have HTX2 := Lib.hid (HTX.out hok)
  have HSI := Lib.hid (fun (s : Nat) (hs : s < x.sigla.length) => src_in (x := x) hs)
  have HSO := Lib.hid (@src_out x)
  have HST := Lib.hid (fun (s : Nat) (hs : s < x.sigla.length) => spell_text (x := x) hs)
  rw [HL1.out] at HGO HGL HSI HSO HST HTX2
  obtain ⟨gw, hgw⟩ : ∃ l, Vg.wordsL [] (optC x) = l := ⟨_, rfl⟩
  obtain ⟨ga, hga⟩ : ∃ l, Vg.arcsG (optC x) n1 = l := ⟨_, rfl⟩
  rw [hgw, hga] at HGO HGL HST HBD2
  rw [hga] at HSI HSO
  clear HBD HTX hok h24 hv hgw hga HGB
  obtain ⟨k0, k1, k2, k3⟩ := HX1.out
  go_wp2_with (fail)
  refine (HBD2.out _ HB1.out).mono ?_
  rintro e w2 ⟨b1, m1, q1, b2, m2, q2, rfl, hg2, hb2⟩
  obtain ⟨bg, hbg⟩ : ∃ b, w2.heap.size = b := ⟨_, rfl⟩
  have kb := balloc w2 (.cells #[.slice b1 m1 q1, .slice b2 m2 q2] 31)
  have hK := BoxG.new w2 b1 m1 q1 b2 m2 q2
  rw [hbg] at hK
  have hb12 := bstep hb2 kb
  have HB2 := Lib.hid (bstep HB1.out hb12)
  have HX2 := Lib.hid (HX1.out.below hb12)
  have HG2 := Lib.hid (hg2.mono (Nat.le_refl _) kb)
  have hm1 : m1 ≤ 1000 := by have h1 := hg2.words.len; have h2 := HGL.out.1; omega
  have hm2 : m2 ≤ 900 := by have h1 := hg2.arcs.len; have h2 := HGL.out.2.1; omega
  have HM1 := Lib.hid hm1
  have HM2 := Lib.hid hm2
  obtain ⟨W2, hW2⟩ : ∃ W, w2.alloc (.cells #[.slice b1 m1 q1, .slice b2 m2 q2] 31) = W := ⟨_, rfl⟩
  rw [hW2] at hK HB2 HX2 HG2
  have HXG := Lib.hid hK
  clear k0 k1 k2 k3 hb2 hg2 kb hb12 hK hm1 hm2
  obtain ⟨k0, k1, k2, k3⟩ := HX2.out
  unfold graphV
  go_wp2_with (fail)
  clear k0 k1 k2 k3 hW2 hbg
  go_loopw [26] (fun iv wr => ∃ i : Nat, i ≤ n1 ∧ iv = .int .i64 i ∧ Below W2.heap.size W2 wr) (fun iv _ => n1 - (intOf iv).toNat)
  case atStart => exact ⟨0, Nat.zero_le _, rfl, Below.refl _ _⟩
  case round =>
    obtain ⟨wi, rfl⟩ : ∃ wi : World, wi = wr := ⟨_, rfl⟩
    obtain ⟨i, hi, rfl, hb⟩ := hrel
    have HBI := Lib.hid hb
    have HXI := Lib.hid (HX2.out.below hb)
    have HXJ := Lib.hid (HXG.out.below hb)
    have HGI := Lib.hid (HG2.out.mono (Nat.le_refl _) hb)
    obtain ⟨k0, k1, k2, k3⟩ := HXI.out
    obtain ⟨j0, j1⟩ := HXJ.out
    by_cases hin : i < n1
    case pos =>
      have i1 : (i : Int) < (n1 : Int) := by omega
      have HIN := Lib.hid hin
      have hsp := callsIn_wide.1 (spellOk gw ga b1 m1 q1 b2 m2 q2 (i : Int) wi HGI.out (by have := HM1.out; omega) (by have := HM2.out; omega) (by have := HGL.out.2.2; omega) HGO.out (HSI.out i hin))
      rw [HST.out i hin] at hsp
      have HSP := Lib.hid hsp
      unfold graphV at HSP
      have HTI := Lib.hid (HTX2.out i hin)
      obtain ⟨tx, htx⟩ : ∃ t, readL x i 0 x.columns.length = t := ⟨_, rfl⟩
      have htl : tx.length ≤ x.columns.length := by rw [← htx, ← textsL_read (by rw [HL1.out]; exact hin)]; unfold Vg.textsL; exact Nat.le_trans (List.length_filterMap_le _ _) (by rw [optC_len]; exact Nat.le_refl _)
      rw [htx] at HSP HTI
      have HTL := Lib.hid (show tx.length ≤ 4611686018427387903 by have := HC24.out; omega)
      clear hsp htx hi hin hb htl
      go_wp2_with (fail)
      refine HSP.out.mono ?_
      rintro e w3 ⟨v3, rfl, hv3, hb3⟩
      obtain ⟨a5, c5, rfl, hs5⟩ := hv3.strs HTL.out
      have HB3 := Lib.hid (bstep HBI.out hb3)
      have HX3 := Lib.hid (HXI.out.below hb3)
      have HS3 := Lib.hid hs5
      clear hb3 hv3 hs5 k0 k1 k2 k3 j0 j1
      obtain ⟨k0, k1, k2, k3⟩ := HX3.out
      go_wp2_with (fail)
      refine (HTI.out _ (bstep HB2.out HB3.out)).mono ?_
      rintro e w4 ⟨v4, rfl, hv4, hb4⟩
      obtain ⟨a6, c6, rfl, hs6⟩ := hv4.strs HTL.out
      have HB5 := Lib.hid (bstep HB3.out hb4)
      have HE := Lib.hid (eqStrs a5 a6 c5 c6 _ _ tx tx w4 (HS3.out.mono (Nat.le_refl _) hb4) hs6)
      rw [decide_eq_true rfl] at HE
      obtain ⟨mt, hmt⟩ : ∃ m, tx.length = m := ⟨_, rfl⟩
      rw [hmt] at HE ⊢
      clear hb4 hv4 hs6 k0 k1 k2 k3 hmt
      go_wp2_with (fail)
      refine HE.out.mono ?_
      rintro e w5 ⟨rfl, q, rfl⟩
      go_wp2_with (fail)
      go_roundw
      case rel => exact ⟨i + 1, by have := HIN.out; omega, by simp, bstep HB5.out (bdrewN _ q)⟩
      case measure => have := HIN.out; simp [intOf]; omega
    case neg =>
      obtain rfl : n1 = i := by omega
      have HSP := Lib.hid (spellNot gw ga b1 m1 q1 b2 m2 q2 (n1 : Int) wi HGI.out (by have := HM1.out; omega) (by have := HM2.out; omega) (by have := HGL.out.2.2; omega) HGO.out HSO.out)
      unfold graphV at HSP
      clear hi hin hb
      go_wp2_with (fail)
      refine HSP.out.mono ?_
      rintro e w3 ⟨v3, rfl, hv3, hb3⟩
      have HB3 := Lib.hid (bstep HBI.out hb3)
      clear hb3 hv3 k0 k1 k2 k3 j0 j1
      go_wp2_with (fail)
      refine (HAW.out _ (bstep HB2.out HB3.out)).mono ?_
      rintro e w4 ⟨rfl, hb4⟩
      go_wp2_with (fail)
      go_ret
      exact ⟨rfl, bstep (bstep HB2.out HB3.out) hb4⟩
end Go.Proofs.YtjmebijckcimoaaGreatDoor
