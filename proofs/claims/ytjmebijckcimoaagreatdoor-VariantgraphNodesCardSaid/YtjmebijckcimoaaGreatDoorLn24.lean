/-
 Law Nodes: the graph of a collation is valid, and has a node for each different text of a column, in order.
-/
import Derived.Test.YtjmebijckcimoaaGreatDoorLs24
import Derived.Test.YtjmebijckcimoaaGreatDoorCd24
import Derived.Test.YtjmebijckcimoaaGreatDoorPlM24
namespace Go.Proofs.YtjmebijckcimoaaGreatDoor
open Go.RowKit Go.Ap Go.Shelf Go.Proofs

attribute [local go_sem] Oper.semAt_some bs_toList empty_toList bs_size bs_extract
set_option maxRecDepth 100000 in
set_option maxHeartbeats 8000000 in
theorem law6 (x : Coll) (a1 : Option Addr) (n1 c1 : Nat) (a2 : Option Addr) (n2 c2 : Nat) (a3 : Option Addr) (n3 c3 : Nat) (w : World) (h : CollM w a1 a2 a3 n1 n2 n3 x) (hc1 : n1 ≤ c1) (hev : EV w) :
 Calls Tryz.prog 6 #[collV x.sec a1 n1 c1 a2 n2 c2 a3 n3 c3] w fun e w' => e = .returned (.bool true) ∧ Below w.heap.size w w' := by
 have hl1 := h.sigla.len
 have hl3 := h.columns.len
 have HFI := Lib.hid (fun W (hb : Below w.heap.size w W) => fineP x a1 n1 c1 a2 n2 c2 a3 n3 c3 W (h.mono (Nat.le_refl _) hb))
 have HAW := Lib.hid (fun W (hb : Below w.heap.size w W) => awake12 W (hev.mono (Nat.le_refl _) hb))
 have HBD := Lib.hid (fun (hok : collC x = 0) (h24 : n3 ≤ 24) W (hb : Below w.heap.size w W) => buildOk x a1 n1 c1 a2 n2 c2 a3 n3 c3 W (h.mono (Nat.le_refl _) hb) hc1 (hev.mono (Nat.le_refl _) hb) hok h24)
 have HCO := Lib.hid (fun (hok : collC x = 0) (k : Nat) (hk : k < x.columns.length) W (hb : Below w.heap.size w W) => columnC2 x a1 n1 c1 a2 n2 c2 a3 n3 c3 W (h.mono (Nat.le_refl _) hb) hc1 (hev.mono (Nat.le_refl _) hb) hok k hk)
 have HL1 := Lib.hid hl1
 have HL3 := Lib.hid hl3
 have hsm := h.sigla.small
 have hs3 := h.columns.small
 obtain ⟨W4, hW4⟩ : ∃ W4, w.alloc (.cells #[.string (bs x.sec), .slice a1 n1 c1, .slice a2 n2 c2, .slice a3 n3 c3] 26) = W4 := ⟨_, rfl⟩
 have HB4 := Lib.hid (show Below w.heap.size w W4 by rw [← hW4]; exact balloc _ _)
 have HBX := Lib.hid (show BoxC W4 w.heap.size x.sec a1 n1 c1 a2 n2 c2 a3 n3 c3 by rw [← hW4]; exact BoxC.new w _ _ _ _ _ _ _ _ _ _)
 clear h hc1 hev hl1 hl3
 unfold collV at HFI HBD HCO ⊢
 go_enter Tryz.func6, Tryz.ntmps6
 obtain ⟨k0, k1, k2, k3⟩ := HBX.out
 go_wp2_with (fail)
 refine (HFI.out _ HB4.out).mono ?_
 rintro e w1 ⟨⟨b, rfl, hb⟩, hb1⟩
 have HB1 := Lib.hid (bstep HB4.out hb1)
 have HX1 := Lib.hid (HBX.out.below hb1)
 have HGB := Lib.hid hb
 clear k0 k1 k2 k3 hb1 hb
 cases b
 case false =>
  go_wp2_with (fail)
  refine (HAW.out _ HB1.out).mono ?_
  rintro e w2 ⟨rfl, hb2⟩
  go_wp2_with (fail)
  go_ret
  exact ⟨rfl, bstep HB1.out hb2⟩
 obtain ⟨hok, h24⟩ := HGB.out rfl
 have hv := val_of hok
 have HVA := Lib.hid hv
 have HC24 := Lib.hid h24
 have HGO := Lib.hid (graph_ok hv h24)
 have HGL := Lib.hid (graph_len hv h24)
 have HBD2 := Lib.hid (HBD.out hok (by rw [← HL3.out]; exact h24))
 have HCO2 := Lib.hid (HCO.out hok)
 have HNS := Lib.hid (fun (k s : Nat) => @nodes_step x hv k s)
 have HWE := Lib.hid (show Vg.wordsB [] (optC x) n3 0 ++ [[]] = Vg.wordsL [] (optC x) by
  have := Vg.wordsB_end ([] : Str) (optC x)
  rwa [optC_len, HL3.out] at this)
 have HWL := Lib.hid (show ∀ k i, k ≤ n3 → i ≤ n1 → (Vg.wordsB [] (optC x) k i).length ≤ 1000 from fun k i hk hi => by
  have h1 := wordsB_len (n := n1) (fun c hc => by rw [← HL1.out]; exact optC_row c hc) [] k i
  have h3 := hv.le
  have h4 := HL1.out
  have h5 := HL3.out
  have h2 : k * n1 ≤ 24 * 32 := Nat.mul_le_mul (by omega) (by omega)
  omega)
 have HWC := Lib.hid (show ∀ k, k < n3 → Vg.wordsB [] (optC x) k n1 = Vg.wordsB [] (optC x) (k + 1) 0 from fun k hk => by
  have := Vg.wordsB_col ([] : Str) (optC_at (x := x) (k := k) (by rw [HL3.out]; exact hk))
  rwa [optK_len, HL1.out] at this)
 rw [HL1.out] at HGO HGL
 obtain ⟨ga, hga⟩ : ∃ l, Vg.arcsG (optC x) n1 = l := ⟨_, rfl⟩
 rw [hga] at HGO HGL HBD2
 clear HBD HCO hok h24 hv hga HGB
 obtain ⟨k0, k1, k2, k3⟩ := HX1.out
 go_wp2_with (fail)
 refine (HBD2.out _ HB1.out).mono ?_
 rintro e w2 ⟨b1, m1, q1, b2, m2, q2, rfl, hg2, hb2⟩
 obtain ⟨bg, hbg⟩ : ∃ b, w2.heap.size = b := ⟨_, rfl⟩
 have kb := balloc w2 (.cells #[.slice b1 m1 q1, .slice b2 m2 q2] 31)
 have hK := BoxG.new w2 b1 m1 q1 b2 m2 q2
 rw [hbg] at hK
 have hb12 := bstep hb2 kb
 have HB2 := Lib.hid (bstep HB1.out hb12)
 have HX2 := Lib.hid (HX1.out.below hb12)
 have HG2 := Lib.hid (hg2.mono (Nat.le_refl _) kb)
 have hm1 : m1 ≤ 1000 := by have h1 := hg2.words.len; have h2 := HGL.out.1; omega
 have hm2 : m2 ≤ 900 := by have h1 := hg2.arcs.len; have h2 := HGL.out.2.1; omega
 have HM1 := Lib.hid hm1
 have HM2 := Lib.hid hm2
 obtain ⟨W2, hW2⟩ : ∃ W, w2.alloc (.cells #[.slice b1 m1 q1, .slice b2 m2 q2] 31) = W := ⟨_, rfl⟩
 rw [hW2] at hK HB2 HX2 HG2
 have HXG := Lib.hid hK
 clear k0 k1 k2 k3 hb2 hg2 kb hb12 hK hm1 hm2
 have ks := balloc W2 (.cells #[.string { data := #[] }] 9)
 have hO : OwnS (W2.alloc (.cells #[.string { data := #[] }] 9)) W2.heap.size (.slice (some ⟨W2.heap.size, 0, none⟩) 1 1) (Vg.wordsB [] (optC x) 0 0) := by
  rw [Vg.wordsB_zero]
  exact OwnS.one W2 (Nat.le_refl _) []
 have HOW := Lib.hid hO
 have HB3 := Lib.hid (show Below W2.heap.size W2 (W2.alloc (.cells #[.string { data := #[] }] 9)) from ks)
 obtain ⟨k0, k1, k2, k3⟩ := HX2.out.below ks
 clear ks hO
 unfold graphV
 go_wp2_with (fail)
 clear k0 k1 k2 k3 hbg
 generalize W2.alloc (.cells #[.string { data := #[] }] 9) = W3 at HOW HB3 ⊢
 clear hW2
 go_loopw [5, 24] (fun ov kv wr => ∃ k : Nat, k ≤ n3 ∧ kv = .int .i64 k ∧ OwnS wr W2.heap.size ov (Vg.wordsB [] (optC x) k 0) ∧ Below W2.heap.size W2 wr) (fun _ kv _ => n3 - (intOf kv).toNat)
 case atStart => exact ⟨0, Nat.zero_le _, rfl, HOW.out, HB3.out⟩
 case round =>
  obtain ⟨wk, rfl⟩ : ∃ wk : World, wk = wr := ⟨_, rfl⟩
  obtain ⟨k, hk, rfl, ho, hb⟩ := hrel
  have HBK := Lib.hid hb
  have HXK := Lib.hid (HX2.out.below hb)
  have HO := Lib.hid ho
  obtain ⟨k0, k1, k2, k3⟩ := HXK.out
  by_cases hkn : k < n3
  case pos =>
   have i1 : (k : Int) < (n3 : Int) := by omega
   have HKN := Lib.hid hkn
   have HCK := Lib.hid (HCO2.out k (by rw [HL3.out]; exact hkn) wk (bstep HB2.out hb))
   clear hk hkn hb ho
   go_wp2_with (fail)
   refine HCK.out.mono ?_
   rintro e w5 ⟨bc, rfl, hbc, hcl, hb5⟩
   have HB5 := Lib.hid (bstep HBK.out hb5)
   have HO5 := Lib.hid (HO.out.below hb5)
   have HN5 := Lib.hid (show ∀ v : Value, OwnS wk W2.heap.size v (Vg.wordsB [] (optC x) k 0) → v.ownBlock ≠ some bc from fun v hv e => by have := own_lt hv e; omega)
   have HNO := Lib.hid (HN5.out _ HO.out)
   have HCL := Lib.hid hcl
   clear hcl hb5 hbc k0 k1 k2 k3 HN5
   go_wp2_with (fail)
   go_loopw [5, 37] (fun ov iv wr => ∃ i : Nat, i ≤ n1 ∧ iv = .int .i64 i ∧ OwnS wr W2.heap.size ov (Vg.wordsB [] (optC x) k i) ∧ Below W2.heap.size W2 wr ∧ StrsL wr (some ⟨bc, 0, none⟩) n1 (colL x k) ∧ ov.ownBlock ≠ some bc) (fun _ iv _ => n1 - (intOf iv).toNat)
   case atStart => exact ⟨0, Nat.zero_le _, rfl, HO5.out, HB5.out, HCL.out, HNO.out⟩
   case round =>
    obtain ⟨wi, rfl⟩ : ∃ wi : World, wi = wr := ⟨_, rfl⟩
    obtain ⟨i, hi, rfl, ho, hb, hcl, hno⟩ := hrel
    have HBI := Lib.hid hb
    have HOI := Lib.hid ho
    have HCI := Lib.hid hcl
    have HNI := Lib.hid hno
    have hszb := hb.size
    by_cases hin : i < n1
    case pos =>
     have i1 : (i : Int) < (n1 : Int) := by omega
     have HIN := Lib.hid hin
     have hst := HNS.out k i (by rw [HL3.out]; exact HKN.out) (by rw [HL1.out]; exact hin)
     have hat : (colL x k)[i]? = some (colW x k i) := by
      unfold colL
      rw [List.getElem?_map, List.getElem?_range (by rw [HL1.out]; exact hin)]
      rfl
     obtain ⟨b', off', he', hcs⟩ := hcl.at (by omega)
     have hcw := hcs i _ hat
     simp only [Option.some.injEq, Addr.mk.injEq, and_true] at he'
     obtain ⟨rfl, rfl⟩ := he'
     rw [Nat.zero_add] at hcw
     have HCT := Lib.hid (contS24 (some ⟨bc, 0, none⟩) i n1 ((colL x k).take i) (colW x k i) wi (strs_take hcl hi))
     obtain ⟨u, hu⟩ : ∃ u, colW x k i = u := ⟨_, rfl⟩
     rw [hu] at hst hcw HCT
     have HLN := Lib.hid (HWL.out k i (by have := HKN.out; omega) (by omega))
     have HBL := Lib.hid (World.block_lt_of_cell? wi _ hcw)
     clear hat hcs hu hi hin ho hb hcl hno
     by_cases hn : u = []
     · have e1 : (u != []) = false := by rw [hn]; rfl
       have e2 : u.isEmpty = true := by rw [hn]; rfl
       rw [if_neg (fun h => h.1 hn)] at hst
       have HST := Lib.hid hst
       have e3 : (u == []) = true := by rw [hn]; rfl
       clear hn hst
       go_wp2_with (fail)
       go_roundw
       case rel => exact ⟨i + 1, by have := HIN.out; omega, by simp, by rw [HST.out]; exact HOI.out, HBI.out, HCI.out, HNI.out⟩
       case measure => have := HIN.out; simp [intOf]; omega
     · have e1 : (u != []) = true := by simpa using hn
       have e2 : u.isEmpty = false := by cases u; exact absurd rfl hn; rfl
       have e3 : (u == []) = false := by simpa using hn
       by_cases hm : u ∈ (colL x k).take i
       · rw [if_neg (fun h => h.2 hm)] at hst
         rw [decide_eq_true hm] at HCT
         have HST := Lib.hid hst
         clear hn hst hm
         go_wp2_with (fail)
         refine HCT.out.mono ?_
         rintro e w8 ⟨rfl, rfl⟩
         go_wp2_with (fail)
         go_roundw
         case rel => exact ⟨i + 1, by have := HIN.out; omega, by simp, by rw [HST.out]; exact HOI.out, HBI.out, HCI.out, HNI.out⟩
         case measure => have := HIN.out; simp [intOf]; omega
       · rw [if_pos ⟨hn, hm⟩] at hst
         rw [decide_eq_false hm] at HCT
         have HST := Lib.hid hst
         have HSZ := Lib.hid hszb
         clear hn hst hm
         go_wp2_with (fail)
         refine HCT.out.mono ?_
         rintro e w8 ⟨rfl, rfl⟩
         go_wp2_with (at_builtin; refine push_str_at rfl _ _ rfl W2.heap.size _ _ rfl HOI.out rfl (by have := HLN.out; omega) HSZ.out ?_; intro v' w' hv' hb' hg' hat'; have HV' := Lib.hid hv'; have HB' := Lib.hid (HBI.out.trans hb'); have HC' := Lib.hid (strs_kept (HCI.out.mono (Nat.le_refl _) (balloc wi _)) hg' HNI.out); have HN' := Lib.hid (show v'.ownBlock ≠ some bc from fun e => by rcases hat' with h | h; exact HNI.out (h.symm.trans e); rw [h] at e; have := HBL.out; cases e; omega); clear hv' hb' hg' hat')
         go_roundw
         case rel => exact ⟨i + 1, by have := HIN.out; omega, by simp, by rw [HST.out]; exact HV'.out, HB'.out, HC'.out, HN'.out⟩
         case measure => have := HIN.out; simp [intOf]; omega
    case neg =>
     obtain rfl : n1 = i := by omega
     have HWK := Lib.hid (HWC.out k HKN.out)
     clear hi hin ho hb hcl hno
     go_wp2_with (fail)
     go_roundw
     case rel => exact ⟨k + 1, by have := HKN.out; omega, by simp, by rw [← HWK.out]; exact HOI.out, HBI.out⟩
     case measure => have := HKN.out; simp [intOf]; omega
  case neg =>
   obtain rfl : n3 = k := by omega
   have HXJ := Lib.hid (HXG.out.below (show Below W2.heap.size W2 wk from hb))
   have HWN := Lib.hid (HWL.out n3 0 (Nat.le_refl _) (Nat.zero_le _))
   have HSZ := Lib.hid hb.size
   have HCP := Lib.hid (fun W (hb : Below W2.heap.size W2 W) => checkP _ ga b1 m1 q1 b2 m2 q2 W (HG2.out.mono (Nat.le_refl _) hb) (by have := HM1.out; omega) (by have := HM2.out; omega))
   rw [HGO.out] at HCP
   unfold graphV at HCP
   have HGW := Lib.hid (show m1 = (Vg.wordsL [] (optC x)).length from HG2.out.words.len.symm)
   have HBD2 := Lib.hid (show Below W2.heap.size W2 wk.drew from below_drew' hb)
   have HXD := Lib.hid (show BoxG wk.drew bg b1 m1 q1 b2 m2 q2 from HXJ.out.below (bdrewN wk 1))
   have HOD := Lib.hid (show OwnS wk.drew W2.heap.size u5 (Vg.wordsB [] (optC x) n3 0) from HO.out.below (bdrewN wk 1))
   clear hk hkn ho hb k0 k1 k2 k3
   go_wp2_with (fail)
   refine (wpIn_wide (n := 20)).1 ?_
   refine wpIn_region_planM (fun W' => BoxG W' bg b1 m1 q1 b2 m2 q2) 19 (.take 0 <| .take 1 <| .take 2 <| .take 3 <| .take 4 <| .take 5 <| .one 6 <| .one 7 <| .one 8 <| .take 9 <| .take 10 <| .take 11 <| .one 12 <| .take 13 <| .take 14 <| .take 15 <| .one 16 <| .take 17 <| .take 18 <| .fin) (fun _ => trivial) (by kernel_rfl) (by kernel_rfl) (HXD.out) ?_
   iterate 3
    apply pm_take rfl rfl (by rfl)
    case hy =>
     rintro W' hb'
     clear hb'
     go_simp
     first | done | with_reducible rfl
    simp only [List.setIfInBounds_toArray, List.set_cons_zero, List.set_cons_succ]
   apply pm_gd (j := 2) (t := 60) (b := true) (c := true) rfl rfl rfl rfl rfl (by simp) rfl
   case hy =>
    rintro W' hb'
    clear hb'
    go_simp
    first | done | with_reducible rfl
   simp only [List.setIfInBounds_toArray, List.set_cons_zero, List.set_cons_succ]
   apply pm_gd (j := 2) (t := 60) (b := true) (c := true) rfl rfl rfl rfl rfl (by simp) rfl
   case hy =>
    rintro W' hb'
    have x0 := hb'.k0
    have x1 := hb'.k1
    clear hb'
    go_simp
    first | done | with_reducible rfl
   simp only [List.setIfInBounds_toArray, List.set_cons_zero, List.set_cons_succ]
   apply pm_gd (j := 2) (t := 60) (b := true) (c := true) rfl rfl rfl rfl rfl (by simp) rfl
   case hy =>
    rintro W' hb'
    clear hb'
    go_simp
    first | done | with_reducible rfl
   simp only [List.setIfInBounds_toArray, List.set_cons_zero, List.set_cons_succ]
   refine pm_one rfl ?_
   gi_wp2_with (fail)
   refine ⟨fun _ => HXD.out.below (balloc _ _), ?_⟩
   refine pm_one rfl ?_
   refine pushIn_gd (u := []) (w0 := wk.drew) rfl rfl rfl rfl rfl _ _ rfl W2.heap.size _ _ rfl HOD.out rfl (by have := HWN.out; omega) HSZ.out ?_
   intro v' w5 hv' hb' hg'
   rw [HWE.out] at hv'
   obtain ⟨av, cv, rfl, hst⟩ := OwnS.strs hv' (by have := HGL.out.1; omega)
   have HB5 := Lib.hid (HBD2.out.trans hb')
   have HX5 := Lib.hid (HXG.out.below HB5.out)
   have HEQ := Lib.hid (eqStrs b1 av q1 cv m1 _ _ _ w5 (HG2.out.mono (Nat.le_refl _) HB5.out).words hst)
   rw [decide_eq_true rfl] at HEQ
   clear hv' hb' hg' hst
   gi_wp2_with (fail)
   refine ⟨fun _ => HX5.out, ?_⟩
   refine pm_one rfl ?_
   gi_wp2_with (fail)
   refine ⟨trivial, (callsIn_wide.2 HEQ.out).mono ?_⟩
   rintro e w6 ⟨rfl, q6, rfl⟩
   have HB6 := Lib.hid (bstep HB5.out (bdrewN w5 q6))
   have HX6 := Lib.hid (HXG.out.below HB6.out)
   gi_wp2_with (fail)
   refine ⟨fun _ => HX6.out, ?_⟩
   iterate 2
    apply pm_take rfl rfl (by rfl)
    case hy =>
     rintro W' hb'
     clear hb'
     go_simp
     first | done | with_reducible rfl
    simp only [List.setIfInBounds_toArray, List.set_cons_zero, List.set_cons_succ]
   apply pm_gd (j := 10) (t := 68) (b := true) (c := true) rfl rfl rfl rfl rfl (by simp) rfl
   case hy =>
    rintro W' hb'
    have x0 := hb'.k0
    have x1 := hb'.k1
    clear hb'
    go_simp
    first | done | with_reducible rfl
   simp only [List.setIfInBounds_toArray, List.set_cons_zero, List.set_cons_succ]
   refine pm_one rfl ?_
   gi_wp2_with (fail)
   refine ⟨trivial, (callsIn_wide.2 (HCP.out _ HB6.out)).mono ?_⟩
   rintro e w7 ⟨rfl, hb7⟩
   have HB7 := Lib.hid (bstep HB6.out hb7)
   have HX7 := Lib.hid (HXG.out.below HB7.out)
   clear hb7
   gi_wp2_with (fail)
   refine ⟨fun _ => HX7.out, ?_⟩
   apply pm_gd (j := 10) (t := 68) (b := true) (c := true) rfl rfl rfl rfl rfl (by simp) rfl
   case hy =>
    rintro W' hb'
    clear hb'
    go_simp
    first | done | with_reducible rfl
   simp only [List.setIfInBounds_toArray, List.set_cons_zero, List.set_cons_succ]
   iterate 2
    apply pm_take rfl rfl (by rfl)
    case hy =>
     rintro W' hb'
     clear hb'
     go_simp
     first | done | with_reducible rfl
    simp only [List.setIfInBounds_toArray, List.set_cons_zero, List.set_cons_succ]
   refine pm_one rfl ?_
   gi_wp2_with (fail)
   refine ⟨trivial, (callsIn_wide.2 (HAW.out _ (bstep HB2.out HB7.out))).mono ?_⟩
   rintro e w8 ⟨rfl, hb8⟩
   have HB8 := Lib.hid (bstep HB7.out hb8)
   have HX8 := Lib.hid (HXG.out.below HB8.out)
   clear hb8
   gi_wp2_with (fail)
   refine ⟨fun _ => HX8.out, ?_⟩
   iterate 2
    apply pm_take rfl rfl (by rfl)
    case hy =>
     rintro W' hb'
     clear hb'
     go_simp
     first | done | with_reducible rfl
    simp only [List.setIfInBounds_toArray, List.set_cons_zero, List.set_cons_succ]
   refine pm_fin ?_
   gi_wp2_with (fail)
   go_wp2_with (fail)
   go_ret
   exact ⟨rfl, bstep HB2.out HB8.out⟩
end Go.Proofs.YtjmebijckcimoaaGreatDoor
