/-
  Law Paths: at least as many paths as different texts; one source has one path.
-/
import Derived.Test.YtjmebijckcimoaaGreatDoorAw24
import Derived.Test.YtjmebijckcimoaaGreatDoorFi24
import Derived.Test.YtjmebijckcimoaaGreatDoorTx24
import Derived.Test.YtjmebijckcimoaaGreatDoorCd24
import Derived.Test.YtjmebijckcimoaaGreatDoorJo24
namespace Go.Proofs.YtjmebijckcimoaaGreatDoor
open Go.RowKit Go.Ap Go.Shelf Go.Proofs

attribute [local go_sem] Oper.semAt_some bs_toList empty_toList bs_size bs_extract
/-- the different texts of the first i sources, each joined -/
structure TxI (x : Coll) (i : Nat) (js : List Str) : Prop where
  nd : js.Nodup
  ex : ∃ ts : List (List Str), ts.map (fun t => Lib.join t [124]) = js ∧ ∀ t ∈ ts, ∃ s, s < x.sigla.length ∧ Vg.textsL (optC x) s = t
  len : js.length ≤ i
theorem TxI.zero (x : Coll) : TxI x 0 [] := ⟨List.nodup_nil, ⟨[], rfl, fun t ht => by cases ht⟩, Nat.le_refl _⟩
theorem TxI.skip {x : Coll} {i : Nat} {js : List Str} (h : TxI x i js) : TxI x (i + 1) js := ⟨h.nd, h.ex, Nat.le_succ_of_le h.len⟩
theorem TxI.push {x : Coll} {i : Nat} {js : List Str} (h : TxI x i js) (hi : i < x.sigla.length) (hn : Lib.join (readL x i 0 x.columns.length) [124] ∉ js) : TxI x (i + 1) (js ++ [Lib.join (readL x i 0 x.columns.length) [124]]) := by
  obtain ⟨ts, h1, h2⟩ := h.ex
  refine ⟨?_, ⟨ts ++ [readL x i 0 x.columns.length], by rw [List.map_append, h1]; rfl, fun t ht => ?_⟩, by have := h.len; simp; omega⟩
  · rw [List.nodup_append]
    exact ⟨h.nd, by simp, fun a ha b hb e => hn (by rw [List.mem_singleton] at hb; rw [← hb, ← e]; exact ha)⟩
  · rcases List.mem_append.1 ht with ht | ht
    · exact h2 t ht
    · rw [List.mem_singleton] at ht
      exact ⟨i, hi, by rw [ht]; exact textsL_read hi⟩
theorem TxI.paths {x : Coll} (hv : Val x) {js : List Str} (h : TxI x x.sigla.length js) : js.length ≤ Vg.pathsN 1073741824 (Vg.endN (optC x)) (Vg.arcsG (optC x) x.sigla.length) := by
  obtain ⟨ts, h1, h2⟩ := h.ex
  have hnd : ts.Nodup := by
    have := h.nd
    rw [← h1] at this
    exact List.Pairwise.of_map (fun t => Lib.join t [124]) (fun a b h e => h (by rw [e])) this
  have h3 := Vg.arcsG_texts (cs := optC x) (n := x.sigla.length) ([] : Str) ts hnd h2
  have h4 : js.length = ts.length := by rw [← h1, List.length_map]
  have h5 := h.len
  have h6 := hv.le
  unfold Vg.pathsN
  omega
theorem one_path {x : Coll} (h : x.sigla.length = 1) : Vg.pathsN 1073741824 (Vg.endN (optC x)) (Vg.arcsG (optC x) x.sigla.length) = 1 := by
  unfold Vg.pathsN
  rw [h, Vg.arcsG_one]
  rfl
set_option maxRecDepth 100000 in
set_option maxHeartbeats 8000000 in
theorem law10 (x : Coll) (a1 : Option Addr) (n1 c1 : Nat) (a2 : Option Addr) (n2 c2 : Nat) (a3 : Option Addr) (n3 c3 : Nat) (w : World) (h : CollM w a1 a2 a3 n1 n2 n3 x) (hc1 : n1 ≤ c1) (hev : EV w) :
    Calls Tryz.prog 10 #[collV x.sec a1 n1 c1 a2 n2 c2 a3 n3 c3] w fun e w' => e = .returned (.bool true) ∧ Below w.heap.size w w' := by
  have hl1 := h.sigla.len
  have hl3 := h.columns.len
  have HFI := Lib.hid (fun W (hb : Below w.heap.size w W) => fineP x a1 n1 c1 a2 n2 c2 a3 n3 c3 W (h.mono (Nat.le_refl _) hb))
  have HAW := Lib.hid (fun W (hb : Below w.heap.size w W) => awake12 W (hev.mono (Nat.le_refl _) hb))
  have HBD := Lib.hid (fun (hok : collC x = 0) (h24 : n3 ≤ 24) W (hb : Below w.heap.size w W) => buildOk x a1 n1 c1 a2 n2 c2 a3 n3 c3 W (h.mono (Nat.le_refl _) hb) hc1 (hev.mono (Nat.le_refl _) hb) hok h24)
  have HTX := Lib.hid (fun (hok : collC x = 0) (s : Nat) (hs : s < x.sigla.length) W (hb : Below w.heap.size w W) => textC x a1 n1 c1 a2 n2 c2 a3 n3 c3 W (h.mono (Nat.le_refl _) hb) hc1 (hev.mono (Nat.le_refl _) hb) hok s hs)
  have HL1 := Lib.hid hl1
  have HL3 := Lib.hid hl3
  have hsm := h.sigla.small
  obtain ⟨W4, hW4⟩ : ∃ W4, w.alloc (.cells #[.string (bs x.sec), .slice a1 n1 c1, .slice a2 n2 c2, .slice a3 n3 c3] 26) = W4 := ⟨_, rfl⟩
  have HB4 := Lib.hid (show Below w.heap.size w W4 by rw [← hW4]; exact balloc _ _)
  have HBX := Lib.hid (show BoxC W4 w.heap.size x.sec a1 n1 c1 a2 n2 c2 a3 n3 c3 by rw [← hW4]; exact BoxC.new w _ _ _ _ _ _ _ _ _ _)
  clear h hc1 hev hl1 hl3
  unfold collV at HFI HBD HTX ⊢
  go_enter Tryz.func10, Tryz.ntmps10
  obtain ⟨k0, k1, k2, k3⟩ := HBX.out
  go_wp2_with (fail)
  refine (HFI.out _ HB4.out).mono ?_
  rintro e w1 ⟨⟨b, rfl, hb⟩, hb1⟩
  have HB1 := Lib.hid (bstep HB4.out hb1)
  have HX1 := Lib.hid (HBX.out.below hb1)
  have HGB := Lib.hid hb
  clear k0 k1 k2 k3 hb1 hb
  cases b
  case false =>
    go_wp2_with (fail)
    refine (HAW.out _ HB1.out).mono ?_
    rintro e w2 ⟨rfl, hb2⟩
    go_wp2_with (fail)
    go_ret
    exact ⟨rfl, bstep HB1.out hb2⟩
  obtain ⟨hok, h24⟩ := HGB.out rfl
  have hv := val_of hok
  have HPS := Lib.hid hv.pos
  have HVA := Lib.hid hv
  have HC24 := Lib.hid h24
  have HGO := Lib.hid (graph_ok hv h24)
  have HGL := Lib.hid (graph_len hv h24)
  have HBD2 := Lib.hid (HBD.out hok (by rw [← HL3.out]; exact h24))
  have HTX2 := Lib.hid (HTX.out hok)
  have HPN := Lib.hid (show ∀ js, TxI x n1 js → js.length ≤ Vg.pathsN 1073741824 (Vg.endN (optC x)) (Vg.arcsG (optC x) x.sigla.length) from fun js hj => TxI.paths hv (by rw [HL1.out]; exact hj))
  have HP1 := Lib.hid (fun (h : x.sigla.length = 1) => one_path (x := x) h)
  have HRL := Lib.hid (fun s (u : Str) (hu : u ∈ readL x s 0 x.columns.length) => read_len hv u hu)
  obtain ⟨pn, hpn⟩ : ∃ p, Vg.pathsN 1073741824 (Vg.endN (optC x)) (Vg.arcsG (optC x) x.sigla.length) = p := ⟨_, rfl⟩
  have HPE := Lib.hid (show Vg.pathsN 1073741824 (((Vg.wordsL [] (optC x)).length : Int) - 1) (Vg.arcsG (optC x) x.sigla.length) = pn by rw [wordsL_end]; exact hpn)
  rw [hpn] at HPN HP1
  have HPL := Lib.hid (show pn ≤ 1073741824 by rw [← hpn]; unfold Vg.pathsN; exact Nat.min_le_left _ _)
  rw [HL1.out] at HGO HGL HPE HTX2 HP1 HPS
  obtain ⟨gw, hgw⟩ : ∃ l, Vg.wordsL [] (optC x) = l := ⟨_, rfl⟩
  obtain ⟨ga, hga⟩ : ∃ l, Vg.arcsG (optC x) n1 = l := ⟨_, rfl⟩
  rw [hgw, hga] at HGO HGL HPE HBD2
  clear HBD HTX hok h24 hv hgw hga HGB hpn
  obtain ⟨k0, k1, k2, k3⟩ := HX1.out
  go_wp2_with (fail)
  refine (HBD2.out _ HB1.out).mono ?_
  rintro e w2 ⟨b1, m1, q1, b2, m2, q2, rfl, hg2, hb2⟩
  obtain ⟨bg, hbg⟩ : ∃ b, w2.heap.size = b := ⟨_, rfl⟩
  have kb := balloc w2 (.cells #[.slice b1 m1 q1, .slice b2 m2 q2] 31)
  have hK := BoxG.new w2 b1 m1 q1 b2 m2 q2
  rw [hbg] at hK
  have hb12 := bstep hb2 kb
  have HB2 := Lib.hid (bstep HB1.out hb12)
  have HX2 := Lib.hid (HX1.out.below hb12)
  have hg2' := hg2.mono (Nat.le_refl _) kb
  have hm1 : m1 ≤ 1000 := by have h1 := hg2.words.len; have h2 := HGL.out.1; omega
  have hm2 : m2 ≤ 900 := by have h1 := hg2.arcs.len; have h2 := HGL.out.2.1; omega
  obtain ⟨W2, hW2⟩ : ∃ W, w2.alloc (.cells #[.slice b1 m1 q1, .slice b2 m2 q2] 31) = W := ⟨_, rfl⟩
  rw [hW2] at hK HB2 HX2 hg2'
  have HXG := Lib.hid hK
  have hpa := pathsOk gw ga b1 m1 q1 b2 m2 q2 W2 hg2' (by omega) (by omega) HGO.out
  rw [HPE.out] at hpa
  have HPA := Lib.hid hpa
  unfold graphV at HPA
  clear k0 k1 k2 k3 hb2 hg2 kb hb12 hm1 hm2 hpa hg2'
  obtain ⟨j0, j1⟩ := hK
  unfold graphV
  go_wp2_with (fail)
  refine HPA.out.mono ?_
  rintro e w3 ⟨rfl, hb3⟩
  have HB3 := Lib.hid (bstep HB2.out hb3)
  have HX3 := Lib.hid (HX2.out.below hb3)
  clear j0 j1 hb3 hW2 hbg
  obtain ⟨k0, k1, k2, k3⟩ := HX3.out
  go_wp2_with (fail)
  clear k0 k1 k2 k3
  go_loopw [7, 35] (fun ov iv wr => ∃ (i : Nat) (js : List Str), i ≤ n1 ∧ iv = .int .i64 i ∧ TxI x i js ∧ OwnS wr w3.heap.size ov js ∧ Below w3.heap.size w3 wr) (fun _ iv _ => n1 - (intOf iv).toNat)
  case atStart => exact ⟨0, [], Nat.zero_le _, rfl, TxI.zero x, OwnS.nil _ _, Below.refl _ _⟩
  case round =>
    obtain ⟨wi, rfl⟩ : ∃ wi : World, wi = wr := ⟨_, rfl⟩
    obtain ⟨i, js, hi, rfl, htx, ho, hb⟩ := hrel
    have HBI := Lib.hid hb
    have HXI := Lib.hid (HX3.out.below hb)
    have HO := Lib.hid ho
    have HT := Lib.hid htx
    obtain ⟨k0, k1, k2, k3⟩ := HXI.out
    have hn32 : n1 ≤ 32 := by rw [← HL1.out]; exact HVA.out.le
    have hjl := htx.len
    have HJL := Lib.hid (show js.length ≤ 32 by omega)
    by_cases hin : i < n1
    case pos =>
      have i1 : (i : Int) < (n1 : Int) := by omega
      have HIN := Lib.hid hin
      have HTI := Lib.hid (HTX2.out i hin wi (bstep HB3.out hb))
      have HRI := Lib.hid (HRL.out i)
      have HTP := Lib.hid (fun hn => htx.push (show i < x.sigla.length by rw [HL1.out]; exact hin) hn)
      have HTS := Lib.hid htx.skip
      have htl : (readL x i 0 x.columns.length).length ≤ x.columns.length := by have := readL_len x i 0 x.columns.length; omega
      obtain ⟨tx, htx'⟩ : ∃ t, readL x i 0 x.columns.length = t := ⟨_, rfl⟩
      rw [htx'] at HTI HRI HTP htl
      have HTL := Lib.hid (show tx.length ≤ 24 by have := HC24.out; omega)
      clear htx' hi hin hb htl ho htx hjl
      go_wp2_with (fail)
      refine HTI.out.mono ?_
      rintro e w4 ⟨v4, rfl, hv4, hb4⟩
      obtain ⟨a6, c6, rfl, hs6, hc6⟩ := OwnS.cap hv4 (show tx.length ≤ _ by have := HTL.out; omega)
      have HB4' := Lib.hid (bstep HBI.out hb4)
      have HO4 := Lib.hid (HO.out.below hb4)
      have hjn := join_len [124] (m := 64) HRI.out
      have hjn2 : tx.length * (64 + 1) ≤ 24 * 65 := Nat.mul_le_mul HTL.out (by omega)
      have HJ := Lib.hid (joinC a6 _ c6 tx [124] w4 hs6 hc6 (by simp only [List.length_cons, List.length_nil] at hjn; omega) (show tx.length ≤ _ by have := HTL.out; omega))
      obtain ⟨jt, hjt⟩ : ∃ j, Lib.join tx [124] = j := ⟨_, rfl⟩
      rw [hjt] at HJ HTP
      obtain ⟨mt, hmt⟩ : ∃ m, tx.length = m := ⟨_, rfl⟩
      rw [hmt] at HJ ⊢
      clear hb4 hv4 hs6 hc6 k0 k1 k2 k3 hmt hjn hjn2 hjt
      go_wp2_with (fail)
      refine HJ.out.mono ?_
      rintro e w5 ⟨rfl, hb5⟩
      have HB5 := Lib.hid (bstep HB4'.out hb5)
      have HO5 := Lib.hid (HO4.out.below hb5)
      obtain ⟨a7, c7, rfl, hs7⟩ := HO5.out.strs (by have := HJL.out; omega)
      have HCT := Lib.hid (contS24 a7 _ c7 js jt w5 hs7)
      obtain ⟨mj, hmj⟩ : ∃ m, js.length = m := ⟨_, rfl⟩
      rw [hmj] at HCT HO5 HO HO4 ⊢
      have HMJ := Lib.hid hmj
      have HSZ := Lib.hid HB5.out.size
      clear hb5 hs7 hmj
      by_cases hm : jt ∈ js
      · rw [decide_eq_true hm] at HCT
        clear hm
        go_wp2_with (fail)
        refine HCT.out.mono ?_
        rintro e w8 ⟨rfl, rfl⟩
        go_wp2_with (fail)
        go_roundw
        case rel => exact ⟨i + 1, js, by have := HIN.out; omega, by simp, HTS.out, HO5.out, HB5.out⟩
        case measure => have := HIN.out; simp [intOf]; omega
      · have HTN := Lib.hid (HTP.out hm)
        rw [decide_eq_false hm] at HCT
        clear hm
        go_wp2_with (fail)
        refine HCT.out.mono ?_
        rintro e w8 ⟨rfl, rfl⟩
        go_wp2_with (at_builtin; refine push_str rfl _ _ rfl w3.heap.size _ js rfl HO5.out rfl (by have := HJL.out; omega) HSZ.out ?_; intro v' w' hv' hb' _; have HV' := Lib.hid hv'; have HB' := Lib.hid (HB5.out.trans hb'); clear hv' hb')
        go_roundw
        case rel => exact ⟨i + 1, _, by have := HIN.out; omega, by simp, HTN.out, HV'.out, HB'.out⟩
        case measure => have := HIN.out; simp [intOf]; omega
    case neg =>
      obtain rfl : n1 = i := by omega
      have hle := HPN.out js htx
      obtain ⟨a7, c7, rfl, _⟩ := ho.strs (by omega)
      obtain ⟨mj, hmj⟩ : ∃ m, js.length = m := ⟨_, rfl⟩
      rw [hmj] at hle ⊢
      have e1 : (mj : Int) ≤ (pn : Int) := by omega
      clear hi hin hb ho htx hjl hmj hle
      by_cases h1 : n1 = 1
      · have e2 : ¬((1 : Int) < (n1 : Int)) := by omega
        have e3 : ((pn : Int) == 1) = true := by rw [HP1.out h1]; rfl
        clear h1
        go_wp2_with (fail)
        refine (HAW.out _ (bstep HB3.out HBI.out)).mono ?_
        rintro e w4 ⟨rfl, hb4⟩
        go_wp2_with (fail)
        go_ret
        exact ⟨rfl, bstep (bstep HB3.out HBI.out) hb4⟩
      · have e2 : (1 : Int) < (n1 : Int) := by have := HPS.out; omega
        clear h1
        go_wp2_with (fail)
        refine (HAW.out _ (bstep HB3.out HBI.out)).mono ?_
        rintro e w4 ⟨rfl, hb4⟩
        go_wp2_with (fail)
        go_ret
        exact ⟨rfl, bstep (bstep HB3.out HBI.out) hb4⟩
end Go.Proofs.YtjmebijckcimoaaGreatDoor
