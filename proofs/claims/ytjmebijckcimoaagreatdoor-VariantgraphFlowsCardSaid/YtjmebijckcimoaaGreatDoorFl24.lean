/-
  Law Flows: what enters and leaves the nodes.
-/
import Derived.Test.YtjmebijckcimoaaGreatDoorFh24
import Derived.Test.YtjmebijckcimoaaGreatDoorAw24
namespace Go.Proofs.YtjmebijckcimoaaGreatDoor
open Go.RowKit Go.Ap Go.Shelf Go.Proofs

attribute [local go_sem] Oper.semAt_some bs_toList empty_toList bs_size bs_extract
set_option maxRecDepth 100000 in
set_option maxHeartbeats 8000000 in
theorem law4 (ws : List Str) (al : List Vg.Arc) (a1 : Option Addr) (n1 c1 : Nat) (a2 : Option Addr) (n2 c2 : Nat) (w : World) (h : GraphM w a1 n1 a2 n2 ws al) (hev : EV w) :
    Calls Tryz.prog 4 #[graphV a1 n1 c1 a2 n2 c2] w fun e w' => e = .returned (.bool true) ∧ Below w.heap.size w w' := by
  obtain ⟨i9, hi9, hy0, hy1, hy2⟩ := info_parts infoI24
  have HL1 := Lib.hid h.words.len
  have HL2 := Lib.hid h.arcs.len
  have HGR := Lib.hid (fun W (hb : Below w.heap.size w W) => great21 ws al a1 n1 c1 a2 n2 c2 W (h.mono (Nat.le_refl _) hb))
  have HAW := Lib.hid (fun W (hb : Below w.heap.size w W) => awake12 W (hev.mono (Nat.le_refl _) hb))
  have HCK := Lib.hid (fun (g1 : n1 ≤ 4096) (g2 : n2 ≤ 65536) W (hb : Below w.heap.size w W) => checkP ws al a1 n1 c1 a2 n2 c2 W (h.mono (Nat.le_refl _) hb) g1 g2)
  have HSO := Lib.hid (fun (g1 : n1 ≤ 4096) (g2 : n2 ≤ 65536) (g3 : (allS al).length ≤ 1000000) (g4 : Vg.chkG ws al = 0) W (hb : Below w.heap.size w W) => sourcesOk ws al a1 n1 c1 a2 n2 c2 W (h.mono (Nat.le_refl _) hb) g1 g2 g3 g4)
  obtain ⟨W4, hW4⟩ : ∃ W4, w.alloc (.cells #[.slice a1 n1 c1, .slice a2 n2 c2] 31) = W4 := ⟨_, rfl⟩
  have HB4 := Lib.hid (show Below w.heap.size w W4 by rw [← hW4]; exact balloc _ _)
  have HBX := Lib.hid (show BoxG W4 w.heap.size a1 n1 c1 a2 n2 c2 by rw [← hW4]; exact BoxG.new w a1 n1 c1 a2 n2 c2)
  have HGM := Lib.hid (show GraphM W4 a1 n1 a2 n2 ws al from h.mono (Nat.le_refl _) HB4.out)
  have HS4 := Lib.hid (show w.heap.size < W4.heap.size by rw [← hW4]; simp)
  clear h hev
  unfold graphV at HGR HCK HSO ⊢
  go_enter Tryz.func4, Tryz.ntmps4
  obtain ⟨k0, k1⟩ := HBX.out
  go_wp2_with (fail)
  refine (HGR.out _ HB4.out).mono ?_
  rintro e w1 ⟨⟨b, rfl, hb⟩, hb1⟩
  have HB1 := Lib.hid (bstep HB4.out hb1)
  have HX1 := Lib.hid (HBX.out.below hb1)
  have HB14 := Lib.hid hb1
  have HGB := Lib.hid hb
  clear k0 k1 hb1 hb
  obtain ⟨k0, k1⟩ := HX1.out
  cases b
  case true =>
    go_wp2_with (fail)
    refine (HAW.out _ HB1.out).mono ?_
    rintro e w2 ⟨rfl, hb2⟩
    go_wp2_with (fail)
    go_ret
    exact ⟨rfl, bstep HB1.out hb2⟩
  obtain ⟨s1, s2, s3, s4⟩ := HGB.out rfl
  have h14 : n1 ≤ 14 := HL1.out ▸ s1
  have h24 : n2 ≤ 24 := HL2.out ▸ s2
  have hall : (allS al).length ≤ 144 := Nat.le_trans (allS_small s4) (by omega)
  have HALL := Lib.hid hall
  have HCK2 := Lib.hid (HCK.out (by omega) (by omega))
  by_cases hok : Vg.chkG ws al = 0
  case neg =>
    obtain ⟨q, hq⟩ : ∃ q, Vg.chkG ws al = q := ⟨_, rfl⟩
    rw [hq] at hok HCK2
    have d0 : (q != 0) = true := by simpa using hok
    clear hq hok s1 s2 s3 s4 h14 h24 hall HCK HSO
    go_wp2_with (fail)
    refine (HCK2.out _ HB1.out).mono ?_
    rintro e w2 ⟨rfl, hb2⟩
    have HB2 := Lib.hid (bstep HB1.out hb2)
    clear hb2
    go_wp2_with (fail)
    refine (HAW.out _ HB2.out).mono ?_
    rintro e w3 ⟨rfl, hb3⟩
    go_wp2_with (fail)
    go_ret
    exact ⟨rfl, bstep HB2.out hb3⟩
  obtain ⟨g2, g3, g4, g5, V, g6⟩ := Vg.chkG_zero.1 hok
  rw [hok] at HCK2
  rw [HL1.out] at V g2
  have HV := Lib.hid V
  have HSR := Lib.hid (srcC_all al)
  have HSO2 := Lib.hid (HSO.out (by omega) (by omega) (by omega) hok)
  have hsl : (srcC al).length ≤ 144 := Nat.le_trans (srcC_len al) hall
  have HSLN := Lib.hid hsl
  have d0 : decide ((n1 : Int) < 2) = false := decide_eq_false (by omega)
  have d0' : decide (n1 < 2) = false := decide_eq_false (by omega)
  have H14 := Lib.hid h14
  have H24 := Lib.hid h24
  have HG2 := Lib.hid g2
  clear HCK HSO V g2 g3 g4 g5 g6 hok s1 s2 s3 s4 hall hsl
  go_wp2_with (fail)
  refine (HCK2.out _ HB1.out).mono ?_
  rintro e w2 ⟨rfl, hb2⟩
  have HB2 := Lib.hid (bstep HB1.out hb2)
  have HX2 := Lib.hid (HX1.out.below hb2)
  have HB24 := Lib.hid (bstep HB14.out hb2)
  clear k0 k1 hb2
  obtain ⟨k0, k1⟩ := HX2.out
  go_wp2_with (fail)
  refine (HSO2.out _ HB2.out).mono ?_
  rintro e w3 ⟨u, rfl, hu, hb3⟩
  obtain ⟨al3, cl3, rfl, hui⟩ := hu.ints (by have := HSLN.out; omega)
  have HB3 := Lib.hid (bstep HB2.out hb3)
  have HX3 := Lib.hid (HX2.out.below hb3)
  have HB34 := Lib.hid (bstep HB24.out hb3)
  have HUI := Lib.hid hui
  obtain ⟨ss, hss⟩ : ∃ ss, srcC al = ss := ⟨_, rfl⟩
  rw [hss] at HUI HSR HSLN ⊢
  obtain ⟨ms, hms⟩ : ∃ m, ss.length = m := ⟨_, rfl⟩
  rw [hms] at HUI HSLN ⊢
  clear k0 k1 hb3 hu hui hss hms
  obtain ⟨k0, k1⟩ := HX3.out
  have HG3 := Lib.hid (HGM.out.mono (Nat.le_refl _) HB34.out)
  have HS3 := Lib.hid (show w.heap.size < w3.heap.size by have h1 := HS4.out; have h2 := HB34.out.size; omega)
  go_wp2_with (fail)
  clear k0 k1 d0 d0'
  go_loopw [34] (fun kv wr => ∃ k : Nat, k ≤ n1 ∧ kv = .int .i64 k ∧ Below w3.heap.size w3 wr) (fun kv _ => n1 - (intOf kv).toNat)
  case atStart => exact ⟨0, Nat.zero_le _, rfl, Below.refl _ _⟩
  case round =>
    obtain ⟨wk, rfl⟩ : ∃ wk : World, wk = wr := ⟨_, rfl⟩
    obtain ⟨k, hk, rfl, hbk⟩ := hrel
    have HBK := Lib.hid hbk
    have HXK := Lib.hid (HX3.out.below hbk)
    by_cases hkn : k < n1
    case neg =>
      obtain rfl : n1 = k := by omega
      clear hk hkn hbk
      go_wp2_with (fail)
      refine (HAW.out _ (bstep HB3.out HBK.out)).mono ?_
      rintro e w5 ⟨rfl, hb5⟩
      go_wp2_with (fail)
      go_ret
      exact ⟨rfl, bstep (bstep HB3.out HBK.out) hb5⟩
    obtain ⟨k0, k1⟩ := HXK.out
    have k1i : (k : Int) < (n1 : Int) := by omega
    have HKN := Lib.hid hkn
    clear hk hbk hkn
    go_wp2_with (fail)
    clear k0 k1
    go_loopw [6, 7, 40] (fun iv ov jv wr => ∃ i : Nat, i ≤ n2 ∧ jv = .int .i64 i ∧ OwnI 3 wr w3.heap.size iv (Vg.inL (al.take i) k) ∧ OwnI 3 wr w3.heap.size ov (Vg.outL (al.take i) k) ∧ Apart iv ov ∧ Below w3.heap.size w3 wr) (fun _ _ jv _ => n2 - (intOf jv).toNat)
    case atStart => exact ⟨0, Nat.zero_le _, rfl, OwnI.nil _ _ _, OwnI.nil _ _ _, .inl rfl, HBK.out⟩
    case round =>
      obtain ⟨wi, rfl⟩ : ∃ wi : World, wi = wr := ⟨_, rfl⟩
      obtain ⟨i, hi, rfl, hin, hout, hap, hb⟩ := hrel
      have hszi := hb.size
      by_cases hii : i < n2
      case pos =>
        obtain ⟨x, b, off, a5, k5, hx, rfl, p0, p1, p2, hsrc⟩ := (HG3.out.mono (Nat.le_refl _) hb).arcs.at hii
        obtain ⟨r1, r2, r3⟩ := HV.out.rng _ (List.mem_of_getElem? hx)
        have hpos : 0 < x.2.length := List.length_pos_iff.2 (HV.out.src _ (List.mem_of_getElem? hx)).2
        obtain ⟨⟨f, t⟩, src⟩ := x
        simp only at p0 p1 p2 r1 r2 r3 hpos
        have hsi := hsrc.src
        simp only at hsi
        obtain ⟨_, bs5, os5, _, _, rfl, _, _⟩ := Sl.at hsi hpos
        have HTK := Lib.hid (show al.take (i + 1) = al.take i ++ [((f, t), src)] by rw [List.take_add_one, hx]; rfl)
        have hA := allS_at hx
        have hI1 := inL_len (al.take i) k
        have hO1 := outL_len (al.take i) k
        have hA2 := HALL.out
        simp only at hA
        obtain ⟨m5, hm5⟩ : ∃ m, src.length = m := ⟨_, rfl⟩
        have HM5 := Lib.hid hm5
        rw [hm5] at p2 hA
        have kb := balloc wi (.cells #[.int .i64 f, .int .i64 t, .slice (some ⟨bs5, os5, none⟩) m5 k5] 48)
        have hK := BlkK.new wi #[.int .i64 f, .int .i64 t, .slice (some ⟨bs5, os5, none⟩) m5 k5] 48
        obtain ⟨X, hX⟩ : ∃ X, wi.heap.size = X := ⟨_, rfl⟩
        rw [hX] at hK
        have HI1 := Lib.hid (hin.below kb)
        have HO1 := Lib.hid (hout.below kb)
        have HAP := Lib.hid hap
        have HB1i := Lib.hid (hb.trans (kb.mono hszi))
        have HCL := Lib.hid (show ∀ j y, src[j]? = some y → (wi.alloc (.cells #[.int .i64 f, .int .i64 t, .slice (some ⟨bs5, os5, none⟩) m5 k5] 48)).cell? ⟨bs5, os5 + j, none⟩ = some (.int .i64 y) from fun j y hj => by
          have hjl := (List.getElem?_eq_some_iff.1 hj).1
          obtain ⟨y', b6, o6, v6, hy, he, hc, hv, _⟩ := Sl.at hsi hjl
          cases he
          rw [hj] at hy
          cases hy
          rw [hv] at hc
          exact cell_keep kb hc)
        have HWF := Lib.hid (show ∀ y ∈ src, I64 y from hsi.wf)
        obtain ⟨WA, hWA⟩ : ∃ W, wi.alloc (.cells #[.int .i64 f, .int .i64 t, .slice (some ⟨bs5, os5, none⟩) m5 k5] 48) = W := ⟨_, rfl⟩
        rw [hWA] at hK HI1 HO1 HB1i HCL
        have z0 : WA.cell? ⟨X, 0, none⟩ = some (.int .i64 f) := hK.cell (i := 0) rfl
        have z1 : WA.cell? ⟨X, 1, none⟩ = some (.int .i64 t) := hK.cell (i := 1) rfl
        have z2 : WA.cell? ⟨X, 2, none⟩ = some (.slice (some ⟨bs5, os5, none⟩) m5 k5) := hK.cell (i := 2) rfl
        have HK := Lib.hid hK
        have hszA := HB1i.out.size
        have i1 : (i : Int) < (n2 : Int) := by omega
        have HII := Lib.hid hii
        have HFT := Lib.hid r2
        clear hx hsrc r1 r3 hpos hsi hm5 kb hK hin hout hap hb hii hi hszi r2
        obtain ⟨xi, hxi⟩ : ∃ xi, Vg.inL (al.take i) k = xi := ⟨_, rfl⟩
        obtain ⟨xo, hxo⟩ : ∃ xo, Vg.outL (al.take i) k = xo := ⟨_, rfl⟩
        have HXI := Lib.hid hxi
        have HXO := Lib.hid hxo
        rw [hxi] at HI1 hI1
        rw [hxo] at HO1 hO1
        have HLI := Lib.hid (show xi.length + m5 ≤ 8388608 by omega)
        have HLO := Lib.hid (show xo.length + m5 ≤ 8388608 by omega)
        have HSZA := Lib.hid hszA
        clear hA hI1 hO1 hA2 hxi hxo
        by_cases htk : t = (k : Int)
        · obtain rfl : t = (k : Int) := htk
          have e1 : ((k : Int) == (k : Int)) = true := by simp
          have hfk : f ≠ (k : Int) := by have := HFT.out; omega
          have e2 : (f == (k : Int)) = false := beq_eq_false_iff_ne.2 hfk
          have HN1 := Lib.hid (show Vg.inL (al.take (i + 1)) k = xi ++ src by rw [HTK.out, inL_snoc, HXI.out]; simp)
          have HN2 := Lib.hid (show Vg.outL (al.take (i + 1)) k = xo by rw [HTK.out, outL_snoc, HXO.out]; simp [hfk])
          clear hfk
          go_wp2_with (at_builtin; refine wpList_append_ints_at rfl _ _ 44 3 rfl w3.heap.size i9 Tryz.underlying44 hi9 hy0 hy1 hy2 _ xi rfl HI1.out bs5 os5 m5 k5 src rfl HM5.out HCL.out HWF.out HLI.out HSZA.out ?_; intro v' w' hv' hg' hat; have HV1 := Lib.hid hv'; have HV2 := Lib.hid (two_grow HO1.out HAP.out hg' hat); have HBV := Lib.hid (HB1i.out.trans (below_of_grown hg' HSZA.out fun q hq => (HI1.out.1.lt q hq).1)); have HK2 := Lib.hid (HK.out.keptE hg' (HK.out.apart HI1.out.1 (by decide))); have y0 := HK2.out.cell (i := 0) (u := .int .i64 f) rfl; clear hv' hg' hat)
          go_roundw
          case rel => exact ⟨i + 1, by have := HII.out; omega, by simp, by rw [HN1.out]; exact HV1.out, by rw [HN2.out]; exact HV2.out.1, HV2.out.2, HBV.out⟩
          case measure => have := HII.out; simp [intOf]; omega
        · have e1 : (t == (k : Int)) = false := beq_eq_false_iff_ne.2 htk
          have HN1 := Lib.hid (show Vg.inL (al.take (i + 1)) k = xi by rw [HTK.out, inL_snoc, HXI.out]; simp [htk])
          by_cases hfk : f = (k : Int)
          · obtain rfl : f = (k : Int) := hfk
            have e2 : ((k : Int) == (k : Int)) = true := by simp
            have HN2 := Lib.hid (show Vg.outL (al.take (i + 1)) k = xo ++ src by rw [HTK.out, outL_snoc, HXO.out]; simp)
            clear htk
            go_wp2_with (at_builtin; refine wpList_append_ints_at rfl _ _ 44 3 rfl w3.heap.size i9 Tryz.underlying44 hi9 hy0 hy1 hy2 _ xo rfl HO1.out bs5 os5 m5 k5 src rfl HM5.out HCL.out HWF.out HLO.out HSZA.out ?_; intro v' w' hv' hg' hat; have HV1 := Lib.hid hv'; have HV2 := Lib.hid (two_grow HI1.out (apart_symm HAP.out) hg' hat); have HBV := Lib.hid (HB1i.out.trans (below_of_grown hg' HSZA.out fun q hq => (HO1.out.1.lt q hq).1)); clear hv' hg' hat)
            go_roundw
            case rel => exact ⟨i + 1, by have := HII.out; omega, by simp, by rw [HN1.out]; exact HV2.out.1, by rw [HN2.out]; exact HV1.out, apart_symm HV2.out.2, HBV.out⟩
            case measure => have := HII.out; simp [intOf]; omega
          · have e2 : (f == (k : Int)) = false := beq_eq_false_iff_ne.2 hfk
            have HN2 := Lib.hid (show Vg.outL (al.take (i + 1)) k = xo by rw [HTK.out, outL_snoc, HXO.out]; simp [hfk])
            clear htk hfk
            go_wp2_with (fail)
            go_roundw
            case rel => exact ⟨i + 1, by have := HII.out; omega, by simp, by rw [HN1.out]; exact HI1.out, by rw [HN2.out]; exact HO1.out, HAP.out, HB1i.out⟩
            case measure => have := HII.out; simp [intOf]; omega
      case neg =>
        obtain rfl : n2 = i := by omega
        rw [List.take_of_length_le (by rw [HL2.out]; exact Nat.le_refl _)] at hin hout
        have hI1 := inL_len al k
        have hO1 := outL_len al k
        have hA2 := HALL.out
        have HEX := Lib.hid (show (k = 0 → Vg.inL al k = [] ∧ sortI (Vg.outL al k) = ss) ∧ (k ≠ 0 → k + 1 = n1 → Vg.outL al k = [] ∧ sortI (Vg.inL al k) = ss) ∧ (k ≠ 0 → k + 1 ≠ n1 → Vg.inL al k ≠ [] ∧ sortI (Vg.inL al k) = sortI (Vg.outL al k)) by
          refine ⟨fun e => ?_, fun _ e => ?_, fun e1 e2 => ?_⟩
          · subst e
            obtain ⟨g1, g2⟩ := HV.out.out0 HSR.out
            exact ⟨g2, sorted_self g1 HSR.out.asc⟩
          · obtain ⟨g1, g2⟩ := HV.out.inEnd HSR.out
            rw [show (n1 : Int) - 1 = (k : Int) by omega] at g1 g2
            exact ⟨g2, sorted_self g1 HSR.out.asc⟩
          · obtain ⟨g1, g2⟩ := HV.out.inner (k := (k : Int)) (by omega) (by have := HKN.out; omega)
            exact ⟨g2, sorted_eq g1⟩)
        obtain ⟨xi, hxi⟩ : ∃ xi, Vg.inL al k = xi := ⟨_, rfl⟩
        obtain ⟨xo, hxo⟩ : ∃ xo, Vg.outL al k = xo := ⟨_, rfl⟩
        rw [hxi] at hin hI1 HEX
        rw [hxo] at hout hO1 HEX
        obtain ⟨ai, ci, rfl, hsi⟩ := sortOwnG w3.heap.size _ xi wi hin (by omega)
        obtain ⟨ao, co, rfl, _⟩ := hout.ints (by omega)
        obtain ⟨mi, hmi⟩ : ∃ m, xi.length = m := ⟨_, rfl⟩
        obtain ⟨mo, hmo⟩ : ∃ m, xo.length = m := ⟨_, rfl⟩
        rw [hmi] at hsi hin hap hI1 ⊢
        rw [hmo] at hout hap hO1 ⊢
        have HSI := Lib.hid hsi
        have HAP := Lib.hid hap
        have HOU := Lib.hid hout
        have HMI := Lib.hid hmi
        have HMO := Lib.hid hmo
        have HI0 := Lib.hid hin
        have HB5 := Lib.hid hb
        have HO5 := Lib.hid hO1
        have HI5 := Lib.hid hI1
        have HSZ5 := Lib.hid hszi
        clear hsi hin hout hap hmi hmo hb hi hii hxi hxo hA2 hO1 hI1 hszi
        go_wp2_with (fail)
        refine HSI.out.mono ?_
        rintro e w5 ⟨rfl, ho5, hg5⟩
        have HO6 := Lib.hid (HOU.out.kept hg5 (apart_symm HAP.out))
        have HI6 := Lib.hid ho5
        have HB6 := Lib.hid (HB5.out.trans (below_of_grown hg5 HSZ5.out fun q hq => (HI0.out.1.lt q hq).1))
        obtain ⟨ao', co', he, hso⟩ := sortOwnG w3.heap.size _ _ w5 HO6.out (by have := HO5.out; have := HALL.out; have := HMO.out; omega)
        rw [HMO.out] at he hso
        cases he
        have HSO5 := Lib.hid hso
        clear ho5 hg5 hso
        go_wp2_with (fail)
        refine HSO5.out.mono ?_
        rintro e w6 ⟨rfl, ho6, hg6⟩
        have HB7 := Lib.hid (HB6.out.trans (below_of_grown hg6 (by have := HB6.out.size; omega) fun q hq => (HO6.out.1.lt q hq).1))
        have hi7 := HI6.out.kept hg6 HAP.out
        have li := (sortI_perm xi).length_eq
        have lo := (sortI_perm xo).length_eq
        obtain ⟨_, _, he1, hint1⟩ := hi7.ints (by have := HI5.out; have := HALL.out; have := HMI.out; omega)
        obtain ⟨_, _, he2, hint2⟩ := ho6.ints (by have := HO5.out; have := HALL.out; have := HMO.out; omega)
        rw [li, HMI.out] at he1 hint1
        rw [lo, HMO.out] at he2 hint2
        cases he1
        cases he2
        have HJ1 := Lib.hid hint1
        have HJ2 := Lib.hid hint2
        obtain ⟨k0, k1⟩ := HX3.out.below HB7.out
        have HUI7 := Lib.hid (HUI.out.mono (Nat.le_refl _) HB7.out)
        clear ho6 hg6 hi7 li lo hint1 hint2
        by_cases hk0 : k = 0
        · obtain ⟨hx0, hx1⟩ := HEX.out.1 hk0
          have hm0 : mi = 0 := by rw [← HMI.out, hx0]; rfl
          have e1 : ((k : Int) == 0) = true := by rw [hk0]; rfl
          have e2 : ((mi : Int) != 0) = false := by rw [hm0]; rfl
          have HEQ := Lib.hid (eqInts _ _ co cl3 _ _ _ _ w6 HJ2.out HUI7.out)
          rw [decide_eq_true hx1] at HEQ
          clear hk0 hx0 hx1 hm0
          go_wp2_with (fail)
          refine HEQ.out.mono ?_
          rintro e w8 ⟨rfl, q, rfl⟩
          go_wp2_with (fail)
          go_roundw
          case rel => exact ⟨k + 1, by have := HKN.out; omega, by simp, HB7.out.trans ((bdrewN _ _).mono HB7.out.size)⟩
          case measure => have := HKN.out; simp [intOf]; omega
        · have e1 : ((k : Int) == 0) = false := beq_eq_false_iff_ne.2 (by omega)
          by_cases hke : k + 1 = n1
          · obtain ⟨hx0, hx1⟩ := HEX.out.2.1 hk0 hke
            have hm0 : mo = 0 := by rw [← HMO.out, hx0]; rfl
            have e3 : ((k : Int) == (n1 : Int) - 1) = true := by rw [beq_iff_eq]; omega
            have e2 : ((mo : Int) != 0) = false := by rw [hm0]; rfl
            have hg2 := HG2.out
            have hg14 := H14.out
            have HEQ := Lib.hid (eqInts _ _ ci cl3 _ _ _ _ w6 HJ1.out HUI7.out)
            rw [decide_eq_true hx1] at HEQ
            clear hk0 hx0 hx1 hm0 hke
            go_wp2_with (fail)
            refine HEQ.out.mono ?_
            rintro e w8 ⟨rfl, q, rfl⟩
            go_wp2_with (fail)
            go_roundw
            case rel => exact ⟨k + 1, by have := HKN.out; omega, by simp, HB7.out.trans ((bdrewN _ _).mono HB7.out.size)⟩
            case measure => have := HKN.out; simp [intOf]; omega
          · obtain ⟨hx0, hx1⟩ := HEX.out.2.2 hk0 hke
            have hm0 : mi ≠ 0 := fun e => hx0 (List.eq_nil_of_length_eq_zero (by rw [HMI.out, e]))
            have e3 : ((k : Int) == (n1 : Int) - 1) = false := beq_eq_false_iff_ne.2 (by omega)
            have e2 : ((mi : Int) == 0) = false := beq_eq_false_iff_ne.2 (by omega)
            have hg2 := HG2.out
            have hg14 := H14.out
            have HEQ := Lib.hid (eqInts _ _ ci co _ _ _ _ w6 HJ1.out HJ2.out)
            rw [decide_eq_true hx1] at HEQ
            clear hk0 hx0 hx1 hm0 hke
            go_wp2_with (fail)
            refine HEQ.out.mono ?_
            rintro e w8 ⟨rfl, q, rfl⟩
            go_wp2_with (fail)
            go_roundw
            case rel => exact ⟨k + 1, by have := HKN.out; omega, by simp, HB7.out.trans ((bdrewN _ _).mono HB7.out.size)⟩
            case measure => have := HKN.out; simp [intOf]; omega
end Go.Proofs.YtjmebijckcimoaaGreatDoor
