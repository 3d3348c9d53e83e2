/-
  Law Orders: the number of nodes, of arcs, and of paths does not depend on the order of the sources.
-/
import Derived.Test.YtjmebijckcimoaaGreatDoorAw24
import Derived.Test.YtjmebijckcimoaaGreatDoorFi24
import Derived.Test.YtjmebijckcimoaaGreatDoorRo24
import Derived.Test.YtjmebijckcimoaaGreatDoorEq
import Derived.Test.YtjmebijckcimoaaGreatDoorGx24
namespace Go.Proofs.YtjmebijckcimoaaGreatDoor
open Go.RowKit Go.Ap Go.Shelf Go.Proofs

attribute [local go_sem] Oper.semAt_some bs_toList empty_toList bs_size bs_extract max5
theorem ord_swap (n a b : Nat) : ((ordL (fun k => k) n).set a (b : Int)).set b (a : Int) = ordL (sw a b) n := by
  apply List.ext_getElem
  · simp [ordL]
  · intro k h1 h2
    have hk : k < n := by simpa [ordL] using h2
    simp only [List.getElem_set, ordL, List.getElem_map, List.getElem_range, sw]
    by_cases h3 : k = b
    · rw [if_pos h3.symm, if_pos h3]
    · rw [if_neg (fun e => h3 e.symm), if_neg h3]
      by_cases h4 : k = a
      · rw [if_pos h4.symm, if_pos h4]
      · rw [if_neg (fun e => h4 e.symm), if_neg h4]
theorem ordL_succ (f : Nat → Nat) (n : Nat) : ordL f (n + 1) = ordL f n ++ [((f n : Nat) : Int)] := by
  unfold ordL
  rw [List.range_succ, List.map_append]
  rfl
theorem orders_same {x : Coll} (hv : Val x) {f : Nat → Nat} (hf : Inv x.sigla.length f) :
    (Vg.wordsL [] (optC x)).length = (Vg.wordsL [] (optC (reoC x f))).length ∧ (Vg.arcsG (optC x) x.sigla.length).length = (Vg.arcsG (optC (reoC x f)) x.sigla.length).length ∧
      Vg.pathsN 1073741824 (((Vg.wordsL [] (optC x)).length : Int) - 1) (Vg.arcsG (optC x) x.sigla.length) = Vg.pathsN 1073741824 (((Vg.wordsL [] (optC (reoC x f))).length : Int) - 1) (Vg.arcsG (optC (reoC x f)) x.sigla.length) := by
  obtain ⟨g1, g2, g3⟩ := Vg.arcsG_orders (n := x.sigla.length) (reo_same hv hf) (fun s hs => ⟨f s, hf.lt s hs, reo_at1 hv hf hs⟩) (fun s hs => ⟨f s, hf.lt s hs, reo_at2 hv hf hs⟩) ([] : Str)
  refine ⟨g1, g2, ?_⟩
  rw [wordsL_end, wordsL_end]
  unfold Vg.pathsN
  rw [g3]
set_option maxRecDepth 100000 in
set_option maxHeartbeats 8000000 in
theorem law8 (x : Coll) (a1 : Option Addr) (n1 c1 : Nat) (a2 : Option Addr) (n2 c2 : Nat) (a3 : Option Addr) (n3 c3 : Nat) (z y : Int) (w : World) (h : CollM w a1 a2 a3 n1 n2 n3 x) (hc1 : n1 ≤ c1) (hz : 0 ≤ z ∧ z ≤ 255) (hy : 0 ≤ y ∧ y ≤ 255) (hev : EV w) :
    Calls Tryz.prog 8 #[collV x.sec a1 n1 c1 a2 n2 c2 a3 n3 c3, .int .u8 z, .int .u8 y] w fun e w' => e = .returned (.bool true) ∧ Below w.heap.size w w' := by
  obtain ⟨i9, hi9, hy0', hy1', hy2'⟩ := info_parts infoI24
  have hl1 := h.sigla.len
  have hl3 := h.columns.len
  have hs1 := h.sigla.small
  have HFI := Lib.hid (fun W (hb : Below w.heap.size w W) => fineP x a1 n1 c1 a2 n2 c2 a3 n3 c3 W (h.mono (Nat.le_refl _) hb))
  have HAW := Lib.hid (fun W (hb : Below w.heap.size w W) => awake12 W (hev.mono (Nat.le_refl _) hb))
  have HEV := Lib.hid (fun W (hb : Below w.heap.size w W) => hev.mono (Nat.le_refl _) hb)
  have HBD := Lib.hid (fun (hok : collC x = 0) (h24 : n3 ≤ 24) W (hb : Below w.heap.size w W) => buildOk x a1 n1 c1 a2 n2 c2 a3 n3 c3 W (h.mono (Nat.le_refl _) hb) hc1 (hev.mono (Nat.le_refl _) hb) hok h24)
  have HRE := Lib.hid (fun (hok : collC x = 0) f (hf : Inv x.sigla.length f) W (hb : Below w.heap.size w W) ao co (hco : n1 ≤ co) (ho : Ints W ao n1 (ordL f n1)) (h24 : x.columns.length ≤ 1048576) => reorderP x a1 n1 c1 a2 n2 c2 a3 n3 c3 ao co f W (h.mono (Nat.le_refl _) hb) hc1 (hev.mono (Nat.le_refl _) hb) hok hf hco ho h24)
  have HL1 := Lib.hid hl1
  have HL3 := Lib.hid hl3
  obtain ⟨W4, hW4⟩ : ∃ W4, w.alloc (.cells #[.string (bs x.sec), .slice a1 n1 c1, .slice a2 n2 c2, .slice a3 n3 c3] 26) = W4 := ⟨_, rfl⟩
  have HB4 := Lib.hid (show Below w.heap.size w W4 by rw [← hW4]; exact balloc _ _)
  have HBX := Lib.hid (show BoxC W4 w.heap.size x.sec a1 n1 c1 a2 n2 c2 a3 n3 c3 by rw [← hW4]; exact BoxC.new w _ _ _ _ _ _ _ _ _ _)
  obtain ⟨hz0, hz1⟩ := hz
  obtain ⟨hy0, hy1⟩ := hy
  clear h hc1 hev hl1 hl3
  unfold collV at HFI HBD HRE ⊢
  go_enter Tryz.func8, Tryz.ntmps8
  obtain ⟨k0, k1, k2, k3⟩ := HBX.out
  go_wp2_with (fail)
  refine (HFI.out _ HB4.out).mono ?_
  rintro e w1 ⟨⟨b, rfl, hb⟩, hb1⟩
  have HB1 := Lib.hid (bstep HB4.out hb1)
  have HX1 := Lib.hid (HBX.out.below hb1)
  have HGB := Lib.hid hb
  clear k0 k1 k2 k3 hb1 hb
  cases b
  case false =>
    go_wp2_with (fail)
    refine (HAW.out _ HB1.out).mono ?_
    rintro e w2 ⟨rfl, hb2⟩
    go_wp2_with (fail)
    go_ret
    exact ⟨rfl, bstep HB1.out hb2⟩
  obtain ⟨hok, h24⟩ := HGB.out rfl
  have hv := val_of hok
  have HPS := Lib.hid hv.pos
  have HLE := Lib.hid hv.le
  have HC24 := Lib.hid h24
  have HGO := Lib.hid (graph_ok hv h24)
  have HGL := Lib.hid (graph_len hv h24)
  have HBD2 := Lib.hid (HBD.out hok (by rw [← HL3.out]; exact h24))
  have HRE2 := Lib.hid (HRE.out hok)
  have HRC := Lib.hid (fun f (hf : Inv x.sigla.length f) => reo_coll hok hf)
  have HOS := Lib.hid (fun f (hf : Inv x.sigla.length f) => orders_same hv hf)
  rw [HL1.out] at HGO HGL HOS HRE2 HRC HPS HLE
  obtain ⟨gw, hgw⟩ : ∃ l, Vg.wordsL [] (optC x) = l := ⟨_, rfl⟩
  obtain ⟨ga, hga⟩ : ∃ l, Vg.arcsG (optC x) n1 = l := ⟨_, rfl⟩
  rw [hgw, hga] at HGO HGL HBD2 HOS
  clear HBD HRE hok h24 hv hgw hga HGB
  obtain ⟨k0, k1, k2, k3⟩ := HX1.out
  have hn1 : 0 < (n1 : Int) := by have := HPS.out; omega
  go_wp2_with (fail)
  clear k0 k1 k2 k3
  go_loopw [7, 28] (fun ov jv wr => ∃ j : Nat, j ≤ n1 ∧ jv = .int .i64 j ∧ OwnI 3 wr w1.heap.size ov (ordL (fun k => k) j) ∧ Below w1.heap.size w1 wr) (fun _ jv _ => n1 - (intOf jv).toNat)
  case atStart => exact ⟨0, Nat.zero_le _, rfl, OwnI.nil _ _ _, Below.refl _ _⟩
  case round =>
    obtain ⟨wj, rfl⟩ : ∃ wj : World, wj = wr := ⟨_, rfl⟩
    obtain ⟨j, hj, rfl, ho, hb⟩ := hrel
    have HBJ := Lib.hid hb
    have HO := Lib.hid ho
    by_cases hjn : j < n1
    case pos =>
      have i1 : (j : Int) < (n1 : Int) := by omega
      have HJN := Lib.hid hjn
      have HSZ := Lib.hid hb.size
      have HLJ := Lib.hid (show (ordL (fun k => k) j).length ≤ 32 by rw [ordL_len]; have := HLE.out; omega)
      have HNW := Lib.hid (show ∀ (k : Nat) (u : Value), [.int .i64 (j : Int)][k]? = some u → (wj.alloc (.cells #[.int .i64 (j : Int)] 3)).cell? ((⟨wj.heap.size, 0, none⟩ : Addr).add k) = some u from cell_one_new wj _ _)
      clear hj hjn ho hb
      go_wp2_with (at_builtin; refine wpList_append_own _ rfl _ _ 44 rfl w1.heap.size 3 i9 (.int .i64 0) 1 8 Tryz.underlying44 hi9 hy0' hy1' hy2' rfl (by decide) _ _ _ rfl (HO.out.1.alloc _) ⟨wj.heap.size, 0, none⟩ 1 1 [.int .i64 (j : Int)] rfl rfl HNW.out (by simp [Value.oneCell']) (by have := HLJ.out; unfold maxLen; omega) (by have := HLJ.out; omega) (by have := HSZ.out; simp; omega) ?_; intro v' w' hown hgrow _; have HP := Lib.hid (HO.out.pushed (x := (j : Int)) (by have := HLE.out; have := HJN.out; unfold I64; omega) HSZ.out hown hgrow); clear hown hgrow)
      go_roundw
      case rel => exact ⟨j + 1, by have := HJN.out; omega, by simp, by rw [ordL_succ]; exact HP.out.1, HBJ.out.trans HP.out.2⟩
      case measure => have := HJN.out; simp [intOf]; omega
    case neg =>
      obtain rfl : n1 = j := by omega
      obtain ⟨a, ha⟩ := Int.eq_ofNat_of_zero_le (Int.emod_nonneg z (show (n1 : Int) ≠ 0 by omega))
      obtain ⟨b, hbq⟩ := Int.eq_ofNat_of_zero_le (Int.emod_nonneg y (show (n1 : Int) ≠ 0 by omega))
      have han : a < n1 := by have := Int.emod_lt_of_pos z hn1; omega
      have hbn : b < n1 := by have := Int.emod_lt_of_pos y hn1; omega
      have e0 : ((n1 : Int) == 0) = false := by rw [beq_eq_false_iff_ne]; omega
      have j1 : (a : Int) < (n1 : Int) := by omega
      have j2 : (b : Int) < (n1 : Int) := by omega
      obtain ⟨g, cap, rfl, hbg, hcap⟩ : ∃ g cap, u7 = .slice (some ⟨g, 0, none⟩) n1 cap ∧ w1.heap.size ≤ g ∧ n1 ≤ cap := by
        rcases ho.1.2 with ⟨_, h0⟩ | ⟨g, cap, cur, he, hbb, _, hcp, _⟩
        · rw [ordL_len] at h0; omega
        · rw [ordL_len] at he hcp; exact ⟨g, cap, he, hbb, hcp⟩
      have cl : ∀ k, k < n1 → wj.cell? ⟨g, k, none⟩ = some (.int .i64 (k : Int)) ∧ wj.frozen? ⟨g, k, none⟩ = false := fun k hk => by
        obtain ⟨h1, h2, _⟩ := ho.cell (j := k) (by rw [ordL_len]; exact hk)
        rw [ordL_nth hk] at h1
        exact ⟨h1, h2⟩
      have HCL := Lib.hid cl
      have HBG := Lib.hid hbg
      have HCAP := Lib.hid hcap
      have HAN := Lib.hid han
      have HBN := Lib.hid hbn
      obtain ⟨ca, fa⟩ := cl a han
      obtain ⟨cb, fb⟩ := cl b hbn
      clear hj hjn ho hb cl
      go_wp2_with (fail)
      go_quiet (fail)
      go_wp2_with (fail)
      rw [ha, hbq]
      obtain ⟨wd, hwd⟩ : ∃ wd, wj.drewN nq = wd := ⟨_, rfl⟩
      have HOD := Lib.hid (show OwnI 3 wd w1.heap.size (.slice (some ⟨g, 0, none⟩) n1 cap) (ordL (fun k => k) n1) by rw [← hwd]; exact HO.out.below (bdrewN wj nq))
      have HBD' := Lib.hid (show Below w1.heap.size w1 wd by rw [← hwd]; exact HBJ.out.trans ((bdrewN wj nq).mono HBJ.out.size))
      rw [hwd]
      clear ca cb fa fb ha hbq hwd
      have cl : ∀ k, k < n1 → wd.cell? ⟨g, k, none⟩ = some (.int .i64 (k : Int)) ∧ wd.frozen? ⟨g, k, none⟩ = false := fun k hk => by
        obtain ⟨h1, h2, _⟩ := HOD.out.cell (j := k) (by rw [ordL_len]; exact hk)
        rw [ordL_nth hk] at h1
        exact ⟨h1, h2⟩
      obtain ⟨ca, fa⟩ := cl a HAN.out
      obtain ⟨cb, fb⟩ := cl b HBN.out
      clear cl
      have gb : (wd.setCell ⟨g, a, none⟩ (.int .i64 b)).cell? ⟨g, b, none⟩ = some (.int .i64 b) := by
        by_cases e : a = b
        · subst e; exact World.cell?_setCell_same _ _ _ ca
        · exact (World.cell?_setCell_other _ _ _ _ (by simp)).trans cb
      have hset := owns_set (owns_set HOD.out.1 a (.int .i64 (b : Int))) b (.int .i64 (a : Int))
      have hset1 := owns_set HOD.out.1 a (.int .i64 (b : Int))
      have gf : (wd.setCell ⟨g, a, none⟩ (.int .i64 b)).frozen? ⟨g, b, none⟩ = false := by
        have ho1 : OwnI 3 (wd.setCell ⟨g, a, none⟩ (.int .i64 b)) w1.heap.size (.slice (some ⟨g, 0, none⟩) n1 cap) ((ordL (fun k => k) n1).set a (b : Int)) := by
          refine ⟨?_, fun y hy => ?_⟩
          · rw [List.length_set, List.map_set]; exact hset1
          · rcases List.mem_or_eq_of_mem_set hy with h | h
            · exact HOD.out.2 y h
            · rw [h]; have := HBN.out; have := HLE.out; unfold I64; omega
        exact (ho1.cell (j := b) (by rw [List.length_set, ordL_len]; exact HBN.out)).2.1
      rw [← List.map_set, ← List.map_set, ord_swap, ordL_len] at hset
      have HB9 := Lib.hid ((HBD'.out.setCell (p := ⟨g, a, none⟩) HBG.out (.int .i64 b)).setCell (p := ⟨g, b, none⟩) HBG.out (.int .i64 a))
      obtain ⟨f, hf⟩ : ∃ f, sw a b = f := ⟨_, rfl⟩
      have HINV := Lib.hid (show Inv n1 f by rw [← hf]; exact sw_inv HAN.out HBN.out)
      rw [hf] at hset
      have HA9 := Lib.hid (show OwnI 3 ((wd.setCell ⟨g, a, none⟩ (.int .i64 b)).setCell ⟨g, b, none⟩ (.int .i64 a)) w1.heap.size (.slice (some ⟨g, 0, none⟩) n1 cap) (ordL f n1) from ⟨by rw [ordL_len]; exact hset, fun y hy => by
        obtain ⟨k, hk, rfl⟩ := List.mem_map.1 hy
        have h1 := HINV.out.lt k (List.mem_range.1 hk)
        have h2 := HLE.out
        unfold I64
        omega⟩)
      clear hset hset1 hf
      go_region
      clear ca cb fa fb gb gf
      obtain ⟨w9, hw9⟩ : ∃ w9, ((wd.setCell ⟨g, a, none⟩ (.int .i64 b)).setCell ⟨g, b, none⟩ (.int .i64 a)).drew = w9 := ⟨_, rfl⟩
      have HA9' := Lib.hid (show OwnI 3 w9 w1.heap.size (.slice (some ⟨g, 0, none⟩) n1 cap) (ordL f n1) by rw [← hw9]; exact HA9.out.below (bdrewN _ 1))
      have HB9' := Lib.hid (show Below w1.heap.size w1 w9 by rw [← hw9]; exact HB9.out.trans ((bdrewN _ 1).mono HB9.out.size))
      rw [hw9]
      clear hw9
      have HO9 := Lib.hid (show Ints w9 (some ⟨g, 0, none⟩) n1 (ordL f n1) by
        obtain ⟨a', c', he, hi⟩ := HA9'.out.ints (by rw [ordL_len]; have := HLE.out; omega)
        rw [ordL_len] at he hi
        cases he
        exact hi)
      have HX9 := Lib.hid (HX1.out.below HB9'.out)
      have HBW9 := Lib.hid (bstep HB1.out HB9'.out)
      have HCR := Lib.hid (HRC.out f HINV.out)
      obtain ⟨s1, s2, s3⟩ := HOS.out f HINV.out
      have hvr := val_of HCR.out
      have hlr : (reoC x f).columns.length ≤ 24 := by rw [reo_cols]; exact HC24.out
      have HGOr := Lib.hid (graph_ok hvr hlr)
      have HGLr := Lib.hid (graph_len hvr hlr)
      have hsr : (reoC x f).sigla.length = n1 := by rw [reo_sig (x := x) (by rw [HL1.out]; exact HINV.out), HL1.out]
      rw [hsr] at HGOr HGLr
      have HRE9 := Lib.hid (HRE2.out f HINV.out w9 HBW9.out _ _ HCAP.out HO9.out (by have := HC24.out; omega))
      have HCOL := Lib.hid (show (reoC x f).columns.length ≤ 24 from hlr)
      obtain ⟨yc, hyc⟩ : ∃ y, reoC x f = y := ⟨_, rfl⟩
      rw [hyc] at HGOr HGLr s1 s2 s3 HCR HCOL HRE9
      have hys : yc.sec = x.sec := by rw [← hyc]; rfl
      obtain ⟨gy, hgy⟩ : ∃ l, Vg.wordsL [] (optC yc) = l := ⟨_, rfl⟩
      obtain ⟨ay, hay⟩ : ∃ l, Vg.arcsG (optC yc) n1 = l := ⟨_, rfl⟩
      rw [hgy, hay] at HGOr HGLr s3
      rw [hgy] at s1
      rw [hay] at s2
      have HS1 := Lib.hid s1
      have HS2 := Lib.hid s2
      have HS3 := Lib.hid s3
      have HGY := Lib.hid hgy
      have HAY := Lib.hid hay
      have HYS := Lib.hid hys
      clear hyc s1 s2 s3 hgy hay hvr hlr hsr hys HRC HOS HRE2 HINV HO9 HOD HBD' HA9 HA9' HB9 HCL HO
      obtain ⟨k0, k1, k2, k3⟩ := HX9.out
      go_wp2_with (fail)
      refine HRE9.out.mono ?_
      rintro e w6 ⟨b1, q1, b2, q2, b3, q3, rfl, hm, hk, hb6⟩
      have hx6 := HX9.out.below hb6
      have hb6' := bstep HBW9.out hb6
      have kb := balloc w6 (.cells #[.string (bs x.sec), .slice b1 n1 q1, .slice b2 n1 q2, .slice b3 n3 q3] 26)
      have hK := BoxC.new w6 x.sec b1 n1 q1 b2 n1 q2 b3 n3 q3
      obtain ⟨Y, hY⟩ : ∃ Y, w6.heap.size = Y := ⟨_, rfl⟩
      obtain ⟨W7, hW7⟩ : ∃ W, w6.alloc (.cells #[.string (bs x.sec), .slice b1 n1 q1, .slice b2 n1 q2, .slice b3 n3 q3] 26) = W := ⟨_, rfl⟩
      have hx7 := hx6.below kb
      have hm7 := hm.mono (Nat.le_refl _) kb
      have hb7 := bstep hb6' kb
      rw [hY] at hK
      rw [hW7] at hK hx7 hm7 hb7
      have HB7 := Lib.hid hb7
      have HX7 := Lib.hid hx7
      have HM7 := Lib.hid hm7
      have HY7 := Lib.hid hK
      have HK := Lib.hid hk
      have HG7 := Lib.hid (HBD2.out W7 hb7)
      clear hx6 hb6' kb hK hx7 hm7 hb7 hm hk hb6 k0 k1 k2 k3 HRE9 HX9 HB9' HBW9
      obtain ⟨k0, k1, k2, k3⟩ := HX7.out
      go_wp2_with (fail)
      unfold graphV at HG7
      refine HG7.out.mono ?_
      clear hY hW7 k0 k1 k2 k3
      rintro e w8 ⟨d1, m1, p1, d2, m2, p2, rfl, hg, hb8⟩
      have kb := balloc w8 (.cells #[.slice d1 m1 p1, .slice d2 m2 p2] 31)
      have hK := BoxG.new w8 d1 m1 p1 d2 m2 p2
      obtain ⟨G, hG⟩ : ∃ G, w8.heap.size = G := ⟨_, rfl⟩
      obtain ⟨W10, hW10⟩ : ∃ W, w8.alloc (.cells #[.slice d1 m1 p1, .slice d2 m2 p2] 31) = W := ⟨_, rfl⟩
      have hg10 := hg.mono (Nat.le_refl _) kb
      have h710 := bstep hb8 kb
      rw [hG] at hK
      rw [hW10] at hK hg10 h710
      have hb10 := bstep HB7.out h710
      have HB10 := Lib.hid hb10
      have HG10 := Lib.hid hg10
      have HBG10 := Lib.hid hK
      have HY10 := Lib.hid (HY7.out.below h710)
      have hby := buildOk yc b1 n1 q1 b2 n1 q2 b3 n3 q3 W10 (HM7.out.mono (Nat.le_refl _) h710) HK.out (HEV.out _ hb10) HCR.out (by rw [← HL3.out]; exact HC24.out)
      unfold collV at hby
      rw [HYS.out, HGY.out, HAY.out] at hby
      have HH10 := Lib.hid hby
      clear hg kb hK hg10 h710 hb10 hby hb8 HM7 HY7 HX7 HB7 HG7
      unfold graphV at HH10
      obtain ⟨k0, k1, k2, k3⟩ := HY10.out
      go_wp2_with (fail)
      refine HH10.out.mono ?_
      clear hG hW10 k0 k1 k2 k3
      rintro e w11 ⟨e1, r1, t1, e2, r2, t2, rfl, hh, hb11⟩
      have kb := balloc w11 (.cells #[.slice e1 r1 t1, .slice e2 r2 t2] 31)
      have hK := BoxG.new w11 e1 r1 t1 e2 r2 t2
      obtain ⟨H, hH⟩ : ∃ H, w11.heap.size = H := ⟨_, rfl⟩
      obtain ⟨W12, hW12⟩ : ∃ W, w11.alloc (.cells #[.slice e1 r1 t1, .slice e2 r2 t2] 31) = W := ⟨_, rfl⟩
      have hh12 := hh.mono (Nat.le_refl _) kb
      have h1012 := bstep hb11 kb
      rw [hH] at hK
      rw [hW12] at hK hh12 h1012
      have hg12 := HG10.out.mono (Nat.le_refl _) h1012
      have hm1 : m1 = gw.length := hg12.words.len.symm
      have hm2 : m2 = ga.length := hg12.arcs.len.symm
      have hr1 : r1 = gy.length := hh12.words.len.symm
      have hr2 : r2 = ay.length := hh12.arcs.len.symm
      have hw1 := HGL.out.1
      have hw2 := HGL.out.2.1
      obtain rfl : r1 = m1 := by rw [hm1, hr1]; exact HS1.out.symm
      obtain rfl : r2 = m2 := by rw [hm2, hr2]; exact HS2.out.symm
      have hp1 := pathsOk gw ga d1 r1 p1 d2 r2 p2 W12 hg12 (by omega) (by omega) HGO.out
      obtain ⟨pn, hpn⟩ : ∃ p, Vg.pathsN 1073741824 ((gw.length : Int) - 1) ga = p := ⟨_, rfl⟩
      have hpn2 : Vg.pathsN 1073741824 ((gy.length : Int) - 1) ay = pn := by rw [← hpn]; exact HS3.out.symm
      rw [hpn] at hp1
      have HP1 := Lib.hid hp1
      have HP2 := Lib.hid (fun W (hb : Below W12.heap.size W12 W) => pathsOk gy ay e1 r1 t1 e2 r2 t2 W (hh12.mono (Nat.le_refl _) hb) (by omega) (by omega) HGOr.out)
      rw [hpn2] at HP2
      have HB12 := Lib.hid (bstep HB10.out h1012)
      have HBG12 := Lib.hid (HBG10.out.below h1012)
      have HBH12 := Lib.hid hK
      unfold graphV at HP1 HP2
      clear hh kb hK hh12 h1012 hg12 hp1 hpn hpn2 hb11 hm1 hm2 hr1 hr2 hw1 hw2 HBG10 HG10 HY10 HH10 HB10
      obtain ⟨j0, j1⟩ := HBG12.out
      go_wp2_with (fail)
      refine HP1.out.mono ?_
      clear hH hW12 j0 j1
      rintro e w13 ⟨rfl, hb13⟩
      have HBG13 := Lib.hid (HBG12.out.below hb13)
      have HBH13 := Lib.hid (HBH12.out.below hb13)
      have HB13 := Lib.hid (bstep HB12.out hb13)
      have HP := Lib.hid (HP2.out w13 hb13)
      clear hb13 HBG12 HBH12 HB12 HP1 HP2
      obtain ⟨j0, j1⟩ := HBH13.out
      go_wp2_with (fail)
      refine HP.out.mono ?_
      clear j0 j1
      rintro e w14 ⟨rfl, hb14⟩
      have HB14 := Lib.hid (bstep HB13.out hb14)
      obtain ⟨j0, j1⟩ := HBG13.out.below hb14
      obtain ⟨l0, l1⟩ := HBH13.out.below hb14
      clear hb14 HP HBG13 HBH13 HB13
      go_wp2_with (fail)
      refine (HAW.out _ HB14.out).mono ?_
      rintro e w15 ⟨rfl, hb15⟩
      go_wp2_with (fail)
      go_ret
      exact ⟨rfl, bstep HB14.out hb15⟩
end Go.Proofs.YtjmebijckcimoaaGreatDoor
