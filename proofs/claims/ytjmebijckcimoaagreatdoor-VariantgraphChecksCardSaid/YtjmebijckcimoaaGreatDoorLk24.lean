import Derived.Test.YtjmebijckcimoaaGreatDoorRr24
import Derived.Test.YtjmebijckcimoaaGreatDoorKr24
import Derived.Test.YtjmebijckcimoaaGreatDoorCp24
import Derived.Test.YtjmebijckcimoaaGreatDoorGo24
import Derived.Test.YtjmebijckcimoaaGreatDoorAw24
import Derived.Test.YtjmebijckcimoaaGreatDoorGd24
import Derived.Test.YtjmebijckcimoaaGreatDoorSz24
import Derived.Test.YtjmebijckcimoaaGreatDoorEq





namespace Go.Proofs.YtjmebijckcimoaaGreatDoor
open Go.RowKit Go.Ap Go.Shelf Go.Proofs

def AnsS (w : World) (l : List Int) (c : Int) (e : Ending) (w' : World) : Prop := ∃ u, e = .returned (.tuple #[u, .int .i64 c]) ∧ OwnI 3 w' w.heap.size u l ∧ Below w.heap.size w w'
def AnsG (w : World) (cw : List Str) (cal : List Vg.Arc) (c : Int) (e : Ending) (w' : World) : Prop := ∃ a3 m3 c3 a4 m4 c4, e = .returned (.tuple #[graphV a3 m3 c3 a4 m4 c4, .int .i64 c]) ∧ GraphM w' a3 m3 a4 m4 cw cal ∧ Below w.heap.size w w'
def AnsN (w : World) (p c : Int) (e : Ending) (w' : World) : Prop := e = .returned (.tuple #[.int .i64 p, .int .i64 c]) ∧ Below w.heap.size w w'
/-- the answers of a graph that stands at a1, a2 -/
structure Answers (w : World) (gv : Value) (s : Int) (sw : List Str) (sc : Int) (p pc : Int) (sl : List Int) (slc : Int) (cw : List Str) (cal : List Vg.Arc) (cc : Int) : Prop where
  spell : Calls Tryz.prog 16 #[gv, .int .i64 s] w (SpellA w sw sc)
  spellR : Calls Tryz.prog 17 #[gv, .int .i64 s] w (SpellA w sw sc)
  paths : Calls Tryz.prog 18 #[gv] w (AnsN w p pc)
  pathsR : Calls Tryz.prog 19 #[gv] w (AnsN w p pc)
  src : Calls Tryz.prog 23 #[gv] w (AnsS w sl slc)
  srcR : Calls Tryz.prog 31 #[gv] w (AnsS w sl slc)
  ctr : Calls Tryz.prog 32 #[gv] w (AnsG w cw cal cc)
  ctrR : Calls Tryz.prog 33 #[gv] w (AnsG w cw cal cc)
theorem answers (ws : List Str) (al : List Vg.Arc) (s : Int) (hs : SmallG ws al) : ∃ sw sc p pc sl slc cw cal cc, sw.length ≤ 100000 ∧ sl.length ≤ 100000 ∧
    ∀ (a1 : Option Addr) (n1 c1 : Nat) (a2 : Option Addr) (n2 c2 : Nat) (w : World), GraphM w a1 n1 a2 n2 ws al → Answers w (graphV a1 n1 c1 a2 n2 c2) s sw sc p pc sl slc cw cal cc := by
  obtain ⟨s1, s2, s3, s4⟩ := hs
  have hall : (allS al).length ≤ 1000000 := Nat.le_trans (allS_small s4) (by omega)
  by_cases hok : Vg.chkG ws al = 0
  case neg =>
    refine ⟨[], 1, 0, 1, [], 1, [], [], 1, by simp, by simp, fun a1 n1 c1 a2 n2 c2 w h => ?_⟩
    have h1 : n1 ≤ 4096 := by have := h.words.len; omega
    have h2 : n2 ≤ 65536 := by have := h.arcs.len; omega
    exact
      { spell := spellBad ws al a1 n1 c1 a2 n2 c2 s w h h1 h2 hok
        spellR := spellRBad ws al a1 n1 c1 a2 n2 c2 s w h h1 h2 hok
        paths := pathsBad ws al a1 n1 c1 a2 n2 c2 w h h1 h2 hok
        pathsR := pathsRBad ws al a1 n1 c1 a2 n2 c2 w h h1 h2 hok
        src := (sourcesBad ws al a1 n1 c1 a2 n2 c2 w h h1 h2 hok).mono fun e w' ⟨he, hb⟩ => ⟨_, he, OwnI.nil _ _ _, hb⟩
        srcR := (sourcesRBad ws al a1 n1 c1 a2 n2 c2 w h h1 h2 hok).mono fun e w' ⟨he, hb⟩ => ⟨_, he, OwnI.nil _ _ _, hb⟩
        ctr := (contractBad ws al a1 n1 c1 a2 n2 c2 w h h1 h2 hok).mono fun e w' ⟨he, hb⟩ => ⟨_, _, _, _, _, _, he, ⟨Sl.nil _ _, SlM.nil _ _⟩, hb⟩
        ctrR := (contractRBad ws al a1 n1 c1 a2 n2 c2 w h h1 h2 hok).mono fun e w' ⟨he, hb⟩ => ⟨_, _, _, _, _, _, he, ⟨Sl.nil _ _, SlM.nil _ _⟩, hb⟩ }
  obtain ⟨sw, sc, hsw⟩ : ∃ sw sc, (s ∈ srcC al ∧ sw = Vg.spellW ws al s ∧ sc = (0 : Int)) ∨ (s ∉ srcC al ∧ sw = [] ∧ sc = 6) := by
    by_cases h : s ∈ srcC al
    · exact ⟨_, _, .inl ⟨h, rfl, rfl⟩⟩
    · exact ⟨_, _, .inr ⟨h, rfl, rfl⟩⟩
  refine ⟨sw, sc, ((Vg.pathsN 1073741824 ((ws.length : Int) - 1) al : Nat) : Int), 0, srcC al, 0, contrE ws al, Vg.idxE (entC ((ws.length : Int) - 1) al al), 0, ?_, ?_, fun a1 n1 c1 a2 n2 c2 w h => ?_⟩
  · rcases hsw with ⟨_, h, _⟩ | ⟨_, h, _⟩
    · rw [h]
      have := (spell_len24 hok s3 s).1
      omega
    · rw [h]; simp
  · exact Nat.le_trans (srcC_len al) (by have := allS_small s4; omega)
  have h1 : n1 ≤ 14 := by have := h.words.len; omega
  have h2 : n2 ≤ 24 := by have := h.arcs.len; omega
  have hlim : ∀ (k : Nat) (x : Int), (Vg.accW [32] ((ws.length : Int) - 1) al (fun k => ws.getD k.toNat []) k x).length ≤ 65536 := fun k x => Nat.le_trans (accW_small (n := 14) (m := 40) s3 s1 k x) (by omega)
  exact
    { spell := by
        rcases hsw with ⟨hm, rfl, rfl⟩ | ⟨hm, rfl, rfl⟩
        · exact callsIn_wide.1 (spellOk ws al a1 n1 c1 a2 n2 c2 s w h (by omega) (by omega) hall hok hm)
        · exact spellNot ws al a1 n1 c1 a2 n2 c2 s w h (by omega) (by omega) hall hok hm
      spellR := (spellROk ws al a1 n1 c1 a2 n2 c2 s w h (by omega) (by omega) hok).mono fun e w' ⟨g1, g2⟩ => by
        rcases hsw with ⟨hm, rfl, rfl⟩ | ⟨hm, rfl, rfl⟩
        · exact g1 hm
        · exact g2 hm
      paths := pathsOk ws al a1 n1 c1 a2 n2 c2 w h (by omega) (by omega) hok
      pathsR := pathsROk ws al a1 n1 c1 a2 n2 c2 w h (by omega) (by omega) hok
      src := sourcesOk ws al a1 n1 c1 a2 n2 c2 w h (by omega) (by omega) hall hok
      srcR := sourcesROk ws al a1 n1 c1 a2 n2 c2 w h (by omega) (by omega) hok
      ctr := (contractOk ws al a1 n1 c1 a2 n2 c2 w h (by omega) (by omega) hok hlim hall).mono fun e w' ⟨a3, m3, c3, a4, m4, c4, al', he, hg, hC, hb⟩ => by
        rw [hC.unique (contr_idx _ _)] at hg
        exact ⟨a3, m3, c3, a4, m4, c4, he, hg, hb⟩
      ctrR := (contractROk ws al a1 n1 c1 a2 n2 c2 w h (by omega) (by omega) hok hlim).mono fun e w' ⟨a3, m3, c3, a4, m4, c4, al', he, hg, hC, hb⟩ => by
        rw [hC.unique (contr_idx _ _)] at hg
        exact ⟨a3, m3, c3, a4, m4, c4, he, hg, hb⟩ }
end Go.Proofs.YtjmebijckcimoaaGreatDoor






namespace Go.Proofs.YtjmebijckcimoaaGreatDoor
open Go.RowKit Go.Ap Go.Shelf Go.Proofs

attribute [local go_sem] Oper.semAt_some bs_toList empty_toList bs_size bs_extract
set_option maxRecDepth 100000 in
set_option maxHeartbeats 8000000 in
theorem law7 (ws : List Str) (al : List Vg.Arc) (a1 : Option Addr) (n1 c1 : Nat) (a2 : Option Addr) (n2 c2 : Nat) (vs : List Str) (bl : List Vg.Arc) (b1 : Option Addr) (m1 d1 : Nat) (b2 : Option Addr) (m2 d2 : Nat) (s : Int) (w : World) (h : GraphM w a1 n1 a2 n2 ws al) (h' : GraphM w b1 m1 b2 m2 vs bl) (_ : I64 s) (hev : EV w) :
 Calls Tryz.prog 7 #[graphV a1 n1 c1 a2 n2 c2, graphV b1 m1 d1 b2 m2 d2, .int .i64 s] w fun e w' => e = .returned (.bool true) ∧ Below w.heap.size w w' := by
 have HL1 := Lib.hid h.words.len
 have HL2 := Lib.hid h.arcs.len
 have HAW := Lib.hid (fun W (hb : Below w.heap.size w W) => awake12 W (hev.mono (Nat.le_refl _) hb))
 obtain ⟨W5, hW5⟩ : ∃ W, (w.alloc (.cells #[.slice a1 n1 c1, .slice a2 n2 c2] 31)).alloc (.cells #[.slice b1 m1 d1, .slice b2 m2 d2] 31) = W := ⟨_, rfl⟩
 have bA := balloc w (.cells #[.slice a1 n1 c1, .slice a2 n2 c2] 31)
 have bB := balloc (w.alloc (.cells #[.slice a1 n1 c1, .slice a2 n2 c2] 31)) (.cells #[.slice b1 m1 d1, .slice b2 m2 d2] 31)
 have HB5 := Lib.hid (show Below w.heap.size w W5 by rw [← hW5]; exact bstep bA bB)
 have HX := Lib.hid (show BoxG W5 w.heap.size a1 n1 c1 a2 n2 c2 by rw [← hW5]; exact (BoxG.new w _ _ _ _ _ _).below bB)
 have HY := Lib.hid (show BoxG W5 (w.heap.size + 1) b1 m1 d1 b2 m2 d2 by
  rw [← hW5]
  have := BoxG.new (w.alloc (.cells #[.slice a1 n1 c1, .slice a2 n2 c2] 31)) b1 m1 d1 b2 m2 d2
  rwa [World.size_alloc] at this)
 have HH := Lib.hid (h.mono (Nat.le_refl _) HB5.out)
 have HH' := Lib.hid (h'.mono (Nat.le_refl _) HB5.out)
 have HW5 := Lib.hid hW5
 have HG1 := Lib.hid (fun W (hb : Below W5.heap.size W5 W) => great21 ws al a1 n1 c1 a2 n2 c2 W (HH.out.mono (Nat.le_refl _) hb))
 have HG2 := Lib.hid (fun W (hb : Below W5.heap.size W5 W) => great21 vs bl b1 m1 d1 b2 m2 d2 W (HH'.out.mono (Nat.le_refl _) hb))
 clear h h' bA bB hW5 hev
 unfold graphV at HG1 HG2 ⊢
 go_enter Tryz.func7, Tryz.ntmps7
 obtain ⟨x0, x1⟩ := HX.out
 rw [← HW5.out] at x0 x1
 go_wp2_with (fail)
 rw [HW5.out]
 refine (HG1.out W5 (Below.refl _ _)).mono ?_
 clear x0 x1
 rintro e w1 ⟨⟨q1, rfl, hq1⟩, hb1⟩
 have HB1 := Lib.hid hb1
 obtain ⟨x0, x1⟩ := HX.out.below hb1
 obtain ⟨y0, y1⟩ := HY.out.below hb1
 clear hb1
 cases q1
 case true =>
  go_wp2_with (fail)
  refine (HAW.out _ (bstep HB5.out HB1.out)).mono ?_
  rintro e w2 ⟨rfl, hb2⟩
  go_wp2_with (fail)
  go_ret
  exact ⟨rfl, bstep (bstep HB5.out HB1.out) hb2⟩
 have hsm := hq1 rfl
 clear hq1
 go_wp2_with (fail)
 refine (HG2.out w1 HB1.out).mono ?_
 clear x0 x1 y0 y1
 rintro e w2 ⟨⟨q2, rfl, hq2⟩, hb2⟩
 have HB2 := Lib.hid (bstep HB1.out hb2)
 clear hb2 hq2
 obtain ⟨x0, x1⟩ := HX.out.below HB2.out
 cases q2
 case true =>
  go_wp2_with (fail)
  refine (HAW.out _ (bstep HB5.out HB2.out)).mono ?_
  rintro e w3 ⟨rfl, hb3⟩
  go_wp2_with (fail)
  go_ret
  exact ⟨rfl, bstep (bstep HB5.out HB2.out) hb3⟩
 have hn1 : n1 ≤ 4096 := by have := hsm.1; have := HL1.out; omega
 have hn2 : n2 ≤ 65536 := by have := hsm.2.1; have := HL2.out; omega
 obtain ⟨sw, sc, p, pc, sl, slc, cw, cal, cc, hsw, hsl, hans⟩ := answers ws al s hsm
 have HAN := Lib.hid (fun W (hb : Below W5.heap.size W5 W) => hans a1 n1 c1 a2 n2 c2 W (HH.out.mono (Nat.le_refl _) hb))
 have HCP := Lib.hid (fun W (hb : Below W5.heap.size W5 W) => checkP ws al a1 n1 c1 a2 n2 c2 W (HH.out.mono (Nat.le_refl _) hb) hn1 hn2)
 have HCR := Lib.hid (fun W (hb : Below W5.heap.size W5 W) => checkR30 ws al a1 n1 c1 a2 n2 c2 W (HH.out.mono (Nat.le_refl _) hb) hn1 hn2)
 have HSP := Lib.hid (fun W (hb : Below W5.heap.size W5 W) => sameP24 ws vs al bl a1 n1 c1 a2 n2 c2 b1 m1 d1 b2 m2 d2 W (HH.out.mono (Nat.le_refl _) hb) (HH'.out.mono (Nat.le_refl _) hb))
 have HSG := Lib.hid (fun W (hb : Below W5.heap.size W5 W) => sameRG ws vs al bl a1 n1 c1 a2 n2 c2 b1 m1 d1 b2 m2 d2 W (HH.out.mono (Nat.le_refl _) hb) (HH'.out.mono (Nat.le_refl _) hb))
 have HSS := Lib.hid (fun W (hb : Below W5.heap.size W5 W) => sameP24 ws ws al al a1 n1 c1 a2 n2 c2 a1 n1 c1 a2 n2 c2 W (HH.out.mono (Nat.le_refl _) hb) (HH.out.mono (Nat.le_refl _) hb))
 rw [show decide (ws = ws ∧ al = al) = true by simp] at HSS
 obtain ⟨q, hq⟩ : ∃ q, Vg.chkG ws al = q := ⟨_, rfl⟩
 rw [hq] at HCP HCR
 obtain ⟨R, hR⟩ : ∃ R, decide (ws = vs ∧ al = bl) = R := ⟨_, rfl⟩
 rw [hR] at HSP HSG
 have HSWL := Lib.hid hsw
 have HSLL := Lib.hid hsl
 unfold graphV at HAN HCP HCR HSP HSG HSS
 clear hsm hans hq hR hn1 hn2 hsw hsl HG1 HG2
 have HA3 := Lib.hid (HAN.out w2 HB2.out).spell
 go_wp2_with (fail)
 refine HA3.out.mono ?_
 clear x0 x1
 rintro e w3 ⟨u3, rfl, ho3, hb3⟩
 have HB3 := Lib.hid (bstep HB2.out hb3)
 have HO3 := Lib.hid ho3
 clear ho3 hb3 HA3
 obtain ⟨x0, x1⟩ := HX.out.below HB3.out
 have HA4 := Lib.hid (HAN.out w3 HB3.out).spellR
 go_wp2_with (fail)
 refine HA4.out.mono ?_
 clear x0 x1
 rintro e w4 ⟨u4, rfl, ho4, hb4⟩
 have HB4 := Lib.hid (bstep HB3.out hb4)
 have HO4 := Lib.hid ho4
 have HO34 := Lib.hid (HO3.out.below hb4)
 clear ho4 hb4 HA4 HO3
 obtain ⟨x0, x1⟩ := HX.out.below HB4.out
 have HA6 := Lib.hid (HAN.out w4 HB4.out).paths
 go_wp2_with (fail)
 refine HA6.out.mono ?_
 clear x0 x1
 rintro e w6 ⟨rfl, hb6⟩
 have HB6 := Lib.hid (bstep HB4.out hb6)
 have HO46 := Lib.hid (HO4.out.below hb6)
 have HO36 := Lib.hid (HO34.out.below hb6)
 clear hb6 HA6 HO4 HO34
 obtain ⟨x0, x1⟩ := HX.out.below HB6.out
 have HA7 := Lib.hid (HAN.out w6 HB6.out).pathsR
 go_wp2_with (fail)
 refine HA7.out.mono ?_
 clear x0 x1
 rintro e w7 ⟨rfl, hb7⟩
 have HB7 := Lib.hid (bstep HB6.out hb7)
 obtain ⟨ap, cp, rfl, hsp⟩ := OwnS.strs (HO36.out.below hb7) (by have := HSWL.out; omega)
 obtain ⟨ar, cr, rfl, hsr⟩ := OwnS.strs (HO46.out.below hb7) (by have := HSWL.out; omega)
 have HEQ := Lib.hid (fun W (hb : Below w7.heap.size w7 W) => eqStrs ap ar cp cr sw.length sw.length sw sw W (hsp.mono (Nat.le_refl _) hb) (hsr.mono (Nat.le_refl _) hb))
 rw [show decide (sw = sw) = true by simp] at HEQ
 obtain ⟨ms, hms⟩ : ∃ m, sw.length = m := ⟨_, rfl⟩
 rw [hms] at HEQ ⊢
 clear hb7 HA7 HO46 HO36 hsp hsr hms
 obtain ⟨x0, x1⟩ := HX.out.below HB7.out
 have HX0 := Lib.hid x0
 have HX1 := Lib.hid x1
 have z0 : (q != q) = false := by simp
 have z1 : (sc != sc) = false := by simp
 have z2 : (p != p) = false := by simp
 have z3 : (pc != pc) = false := by simp
 go_wp2_with (fail)
 clear x0 x1
 have HSX := Lib.hid (show Below w7.heap.size w7 w7.drew from bdrewN _ 1)
 refine (wpIn_wide (n := 20)).1 ?_
 refine wpIn_region_planM (fun W' => Below w7.heap.size w7 W') 26 (.take 0 <| .take 2 <| .one 1 <| .one 3 <| .take 4 <| .take 5 <| .take 6 <| .take 7 <| .one 8 <| .take 9 <| .take 10 <| .take 11 <| .take 12 <| .take 13 <| .take 14 <| .take 15 <| .take 16 <| .take 17 <| .take 18 <| .take 19 <| .take 20 <| .take 21 <| .take 22 <| .take 23 <| .take 24 <| .take 25 <| .fin) (fun _ => trivial) (by kernel_rfl) (by kernel_rfl) (bdrewN w7 1) ?_
 iterate 2
  apply pm_take rfl rfl (by rfl)
  case hy =>
   rintro W' hb'
   have e0 := cell_keep hb' HX0.out
   have e1 := cell_keep hb' HX1.out
   clear hb'
   go_simp
   first | done | with_reducible rfl
  simp only [List.setIfInBounds_toArray, List.set_cons_zero, List.set_cons_succ]
 refine pm_one rfl ?_
 gi_wp2_with (fail)
 refine ⟨trivial, (callsIn_wide.2 (HCP.out _ (bstep HB7.out HSX.out))).mono ?_⟩
 rintro e W8 ⟨rfl, hb8⟩
 have HSX := Lib.hid (bstep HSX.out hb8)
 clear hb8
 gi_wp2_with (fail)
 refine ⟨fun _ => HSX.out, ?_⟩
 refine pm_one rfl ?_
 gi_wp2_with (fail)
 refine ⟨trivial, (callsIn_wide.2 (HCR.out _ (bstep HB7.out HSX.out))).mono ?_⟩
 rintro e W9 ⟨rfl, hb9⟩
 have HSX := Lib.hid (bstep HSX.out hb9)
 clear hb9
 gi_wp2_with (fail)
 refine ⟨fun _ => HSX.out, ?_⟩
 iterate 2
  apply pm_take rfl rfl (by rfl)
  case hy =>
   rintro W' hb'
   clear hb'
   go_simp
   first | done | with_reducible rfl
  simp only [List.setIfInBounds_toArray, List.set_cons_zero, List.set_cons_succ]
 iterate 2
  apply pm_gd (j := 5) (t := 53) (b := false) (c := false) rfl rfl rfl rfl rfl (by simp) rfl
  case hy =>
   rintro W' hb'
   clear hb'
   go_simp
   first | done | with_reducible rfl
  simp only [List.setIfInBounds_toArray, List.set_cons_zero, List.set_cons_succ]
 refine pm_one rfl ?_
 gi_wp2_with (fail)
 refine ⟨trivial, (callsIn_wide.2 (HEQ.out _ HSX.out)).mono ?_⟩
 rintro e W10 ⟨rfl, qn, rfl⟩
 have HSX := Lib.hid (bstep HSX.out (bdrewN _ qn))
 gi_wp2_with (fail)
 refine ⟨fun _ => HSX.out, ?_⟩
 apply pm_gd (j := 5) (t := 53) (b := false) (c := false) rfl rfl rfl rfl rfl (by simp) rfl
 case hy =>
  rintro W' hb'
  clear hb'
  go_simp
  first | done | with_reducible rfl
 simp only [List.setIfInBounds_toArray, List.set_cons_zero, List.set_cons_succ]
 iterate 2
  apply pm_take rfl rfl (by rfl)
  case hy =>
   rintro W' hb'
   clear hb'
   go_simp
   first | done | with_reducible rfl
  simp only [List.setIfInBounds_toArray, List.set_cons_zero, List.set_cons_succ]
 iterate 3
  apply pm_gd (j := 11) (t := 59) (b := false) (c := false) rfl rfl rfl rfl rfl (by simp) rfl
  case hy =>
   rintro W' hb'
   clear hb'
   go_simp
   first | done | with_reducible rfl
  simp only [List.setIfInBounds_toArray, List.set_cons_zero, List.set_cons_succ]
 iterate 2
  apply pm_take rfl rfl (by rfl)
  case hy =>
   rintro W' hb'
   clear hb'
   go_simp
   first | done | with_reducible rfl
  simp only [List.setIfInBounds_toArray, List.set_cons_zero, List.set_cons_succ]
 iterate 3
  apply pm_gd (j := 16) (t := 64) (b := false) (c := false) rfl rfl rfl rfl rfl (by simp) rfl
  case hy =>
   rintro W' hb'
   clear hb'
   go_simp
   first | done | with_reducible rfl
  simp only [List.setIfInBounds_toArray, List.set_cons_zero, List.set_cons_succ]
 iterate 2
  apply pm_take rfl rfl (by rfl)
  case hy =>
   rintro W' hb'
   clear hb'
   go_simp
   first | done | with_reducible rfl
  simp only [List.setIfInBounds_toArray, List.set_cons_zero, List.set_cons_succ]
 iterate 3
  apply pm_gd (j := 21) (t := 69) (b := false) (c := false) rfl rfl rfl rfl rfl (by simp) rfl
  case hy =>
   rintro W' hb'
   clear hb'
   go_simp
   first | done | with_reducible rfl
  simp only [List.setIfInBounds_toArray, List.set_cons_zero, List.set_cons_succ]
 apply pm_take rfl rfl (by rfl)
 case hy =>
  rintro W' hb'
  clear hb'
  go_simp
  first | done | with_reducible rfl
 simp only [List.setIfInBounds_toArray, List.set_cons_zero, List.set_cons_succ]
 refine pm_fin ?_
 have HB10 := Lib.hid (bstep HB7.out HSX.out)
 gi_wp2_with (fail)
 generalize W9.drewN qn = w11 at HB10 ⊢
 clear z0 z1 z2 z3 HX0 HX1
 obtain ⟨x0, x1⟩ := HX.out.below HB10.out
 have HA11 := Lib.hid (HAN.out w11 HB10.out).src
 go_wp2_with (fail)
 refine HA11.out.mono ?_
 clear x0 x1
 rintro e w12 ⟨u5, rfl, ho5, hb12⟩
 have HB12 := Lib.hid (bstep HB10.out hb12)
 have HO5 := Lib.hid ho5
 clear ho5 hb12 HA11
 obtain ⟨x0, x1⟩ := HX.out.below HB12.out
 have HA12 := Lib.hid (HAN.out w12 HB12.out).srcR
 go_wp2_with (fail)
 refine HA12.out.mono ?_
 clear x0 x1
 rintro e w13 ⟨u6, rfl, ho6, hb13⟩
 have HB13 := Lib.hid (bstep HB12.out hb13)
 have HO6 := Lib.hid ho6
 have HO56 := Lib.hid (HO5.out.below hb13)
 clear ho6 hb13 HA12 HO5
 obtain ⟨x0, x1⟩ := HX.out.below HB13.out
 have HA13 := Lib.hid (HAN.out w13 HB13.out).ctr
 go_wp2_with (fail)
 refine HA13.out.mono ?_
 clear x0 x1
 rintro e w14 ⟨a3, m3, c3, a4, m4, c4, rfl, hg, hb14⟩
 have kb := balloc w14 (.cells #[.slice a3 m3 c3, .slice a4 m4 c4] 31)
 have hK := BoxG.new w14 a3 m3 c3 a4 m4 c4
 obtain ⟨C, hC⟩ : ∃ C, w14.heap.size = C := ⟨_, rfl⟩
 obtain ⟨W15, hW15⟩ : ∃ W, w14.alloc (.cells #[.slice a3 m3 c3, .slice a4 m4 c4] 31) = W := ⟨_, rfl⟩
 have hg15 := hg.mono (Nat.le_refl _) kb
 have h1315 := bstep hb14 kb
 rw [hC] at hK
 rw [hW15] at hK hg15 h1315
 have HB15 := Lib.hid (bstep HB13.out h1315)
 have HGC := Lib.hid hg15
 have HBC := Lib.hid hK
 have HO5' := Lib.hid (HO56.out.below h1315)
 have HO6' := Lib.hid (HO6.out.below h1315)
 have HA15 := Lib.hid (HAN.out W15 HB15.out).ctrR
 clear hg kb hK hg15 h1315 hb14 HA13 HO56 HO6
 obtain ⟨x0, x1⟩ := HX.out.below HB15.out
 unfold graphV
 go_wp2_with (fail)
 refine HA15.out.mono ?_
 clear x0 x1 hC hW15
 rintro e w16 ⟨a5, m5, c5, a6, m6, c6, rfl, hg, hb16⟩
 have kb := balloc w16 (.cells #[.slice a5 m5 c5, .slice a6 m6 c6] 31)
 have hK := BoxG.new w16 a5 m5 c5 a6 m6 c6
 obtain ⟨D, hD⟩ : ∃ D, w16.heap.size = D := ⟨_, rfl⟩
 obtain ⟨W17, hW17⟩ : ∃ W, w16.alloc (.cells #[.slice a5 m5 c5, .slice a6 m6 c6] 31) = W := ⟨_, rfl⟩
 have hg17 := hg.mono (Nat.le_refl _) kb
 have h1517 := bstep hb16 kb
 rw [hD] at hK
 rw [hW17] at hK hg17 h1517
 have HB17 := Lib.hid (bstep HB15.out h1517)
 have hgc := HGC.out.mono (Nat.le_refl _) h1517
 have HBD := Lib.hid hK
 have HBC' := Lib.hid (HBC.out.below h1517)
 obtain ⟨ap', cp', rfl, hsp⟩ := OwnI.ints (HO5'.out.below h1517) (by have := HSLL.out; omega)
 obtain ⟨ar', cr', rfl, hsr⟩ := OwnI.ints (HO6'.out.below h1517) (by have := HSLL.out; omega)
 have HEI := Lib.hid (fun W (hb : Below W17.heap.size W17 W) => eqInts ap' ar' cp' cr' sl.length sl.length sl sl W (hsp.mono (Nat.le_refl _) hb) (hsr.mono (Nat.le_refl _) hb))
 rw [show decide (sl = sl) = true by simp] at HEI
 obtain ⟨ml, hml⟩ : ∃ m, sl.length = m := ⟨_, rfl⟩
 rw [hml] at HEI ⊢
 have HSC := Lib.hid (fun W (hb : Below W17.heap.size W17 W) => sameRG cw cw cal cal a3 m3 c3 a4 m4 c4 a5 m5 c5 a6 m6 c6 W (hgc.mono (Nat.le_refl _) hb) (hg17.mono (Nat.le_refl _) hb))
 rw [show decide (cw = cw ∧ cal = cal) = true by simp] at HSC
 unfold graphV at HSC
 have HX0 := Lib.hid (HX.out.below HB17.out).k0
 have HX1 := Lib.hid (HX.out.below HB17.out).k1
 have HY0 := Lib.hid (HY.out.below HB17.out).k0
 have HY1 := Lib.hid (HY.out.below HB17.out).k1
 have HC0 := Lib.hid HBC'.out.k0
 have HC1 := Lib.hid HBC'.out.k1
 have HD0 := Lib.hid HBD.out.k0
 have HD1 := Lib.hid HBD.out.k1
 clear hg kb hK hg17 h1517 hgc hb16 hsp hsr hml HA15 HO5' HO6' HGC HBC
 unfold graphV
 have z1 : (slc == slc) = true := by simp
 have z2 : (cc == cc) = true := by simp
 have z3 : (R == R) = true := by simp
 go_wp2_with (fail)
 clear hD hW17
 have HSX := Lib.hid (show Below W17.heap.size W17 W17.drew from bdrewN _ 1)
 refine (wpIn_wide (n := 20)).1 ?_
 refine wpIn_region_planM (fun W' => Below W17.heap.size W17 W') 36 (.take 0 <| .take 1 <| .one 2 <| .take 3 <| .take 4 <| .take 5 <| .take 6 <| .take 7 <| .take 8 <| .take 9 <| .take 10 <| .one 11 <| .take 12 <| .take 13 <| .take 14 <| .take 15 <| .take 16 <| .take 17 <| .take 18 <| .take 19 <| .take 20 <| .take 22 <| .take 23 <| .one 21 <| .one 24 <| .take 25 <| .take 26 <| .take 27 <| .take 28 <| .take 29 <| .one 30 <| .take 31 <| .take 32 <| .one 33 <| .take 34 <| .take 35 <| .fin) (fun _ => trivial) (by kernel_rfl) (by kernel_rfl) (bdrewN W17 1) ?_
 iterate 2
  apply pm_take rfl rfl (by rfl)
  case hy =>
   rintro W' hb'
   clear hb'
   go_simp
   first | done | with_reducible rfl
  simp only [List.setIfInBounds_toArray, List.set_cons_zero, List.set_cons_succ]
 refine pm_one rfl ?_
 gi_wp2_with (fail)
 refine ⟨trivial, (callsIn_wide.2 (HEI.out _ HSX.out)).mono ?_⟩
 rintro e V1 ⟨rfl, qa, hV1⟩
 have HSX := Lib.hid (bstep HSX.out (show Below W17.drew.heap.size W17.drew V1 by rw [hV1]; exact bdrewN _ qa))
 clear hV1
 gi_wp2_with (fail)
 refine ⟨fun _ => HSX.out, ?_⟩
 apply pm_take rfl rfl (by rfl)
 case hy =>
  rintro W' hb'
  clear hb'
  go_simp
  first | done | with_reducible rfl
 simp only [List.setIfInBounds_toArray, List.set_cons_zero, List.set_cons_succ]
 iterate 3
  apply pm_gd (j := 3) (t := 97) (b := true) (c := true) rfl rfl rfl rfl rfl (by simp) rfl
  case hy =>
   rintro W' hb'
   clear hb'
   go_simp
   first | done | with_reducible rfl
  simp only [List.setIfInBounds_toArray, List.set_cons_zero, List.set_cons_succ]
 iterate 2
  apply pm_take rfl rfl (by rfl)
  case hy =>
   rintro W' hb'
   clear hb'
   go_simp
   first | done | with_reducible rfl
  simp only [List.setIfInBounds_toArray, List.set_cons_zero, List.set_cons_succ]
 iterate 2
  apply pm_gd (j := 8) (t := 102) (b := true) (c := true) rfl rfl rfl rfl rfl (by simp) rfl
  case hy =>
   rintro W' hb'
   have e0 := cell_keep hb' HX0.out
   have e1 := cell_keep hb' HX1.out
   have e2 := cell_keep hb' HY0.out
   have e3 := cell_keep hb' HY1.out
   have e4 := cell_keep hb' HC0.out
   have e5 := cell_keep hb' HC1.out
   have e6 := cell_keep hb' HD0.out
   have e7 := cell_keep hb' HD1.out
   clear hb'
   go_simp
   first | done | with_reducible rfl
  simp only [List.setIfInBounds_toArray, List.set_cons_zero, List.set_cons_succ]
 refine pm_one rfl ?_
 gi_wp2_with (fail)
 refine ⟨trivial, (callsIn_wide.2 (HSC.out _ HSX.out)).mono ?_⟩
 rintro e V2 ⟨rfl, hb⟩
 have HSX := Lib.hid (bstep HSX.out hb)
 clear hb
 gi_wp2_with (fail)
 refine ⟨fun _ => HSX.out, ?_⟩
 iterate 2
  apply pm_take rfl rfl (by rfl)
  case hy =>
   rintro W' hb'
   clear hb'
   go_simp
   first | done | with_reducible rfl
  simp only [List.setIfInBounds_toArray, List.set_cons_zero, List.set_cons_succ]
 iterate 3
  apply pm_gd (j := 13) (t := 107) (b := true) (c := true) rfl rfl rfl rfl rfl (by simp) rfl
  case hy =>
   rintro W' hb'
   clear hb'
   go_simp
   first | done | with_reducible rfl
  simp only [List.setIfInBounds_toArray, List.set_cons_zero, List.set_cons_succ]
 iterate 2
  apply pm_take rfl rfl (by rfl)
  case hy =>
   rintro W' hb'
   clear hb'
   go_simp
   first | done | with_reducible rfl
  simp only [List.setIfInBounds_toArray, List.set_cons_zero, List.set_cons_succ]
 iterate 4
  apply pm_gd (j := 18) (t := 112) (b := true) (c := true) rfl rfl rfl rfl rfl (by simp) rfl
  case hy =>
   rintro W' hb'
   have e0 := cell_keep hb' HX0.out
   have e1 := cell_keep hb' HX1.out
   have e2 := cell_keep hb' HY0.out
   have e3 := cell_keep hb' HY1.out
   have e4 := cell_keep hb' HC0.out
   have e5 := cell_keep hb' HC1.out
   have e6 := cell_keep hb' HD0.out
   have e7 := cell_keep hb' HD1.out
   clear hb'
   go_simp
   first | done | with_reducible rfl
  simp only [List.setIfInBounds_toArray, List.set_cons_zero, List.set_cons_succ]
 refine pm_one rfl ?_
 gi_wp2_with (fail)
 refine ⟨trivial, (callsIn_wide.2 (HSP.out _ (bstep HB17.out HSX.out))).mono ?_⟩
 rintro e V3 ⟨rfl, hb⟩
 have HSX := Lib.hid (bstep HSX.out hb)
 clear hb
 gi_wp2_with (fail)
 refine ⟨fun _ => HSX.out, ?_⟩
 refine pm_one rfl ?_
 gi_wp2_with (fail)
 refine ⟨trivial, (callsIn_wide.2 (HSG.out _ (bstep HB17.out HSX.out))).mono ?_⟩
 rintro e V4 ⟨rfl, hb⟩
 have HSX := Lib.hid (bstep HSX.out hb)
 clear hb
 gi_wp2_with (fail)
 refine ⟨fun _ => HSX.out, ?_⟩
 apply pm_gd (j := 18) (t := 112) (b := true) (c := true) rfl rfl rfl rfl rfl (by simp) rfl
 case hy =>
  rintro W' hb'
  clear hb'
  go_simp
  first | done | with_reducible rfl
 simp only [List.setIfInBounds_toArray, List.set_cons_zero, List.set_cons_succ]
 iterate 2
  apply pm_take rfl rfl (by rfl)
  case hy =>
   rintro W' hb'
   clear hb'
   go_simp
   first | done | with_reducible rfl
  simp only [List.setIfInBounds_toArray, List.set_cons_zero, List.set_cons_succ]
 iterate 2
  apply pm_gd (j := 27) (t := 121) (b := true) (c := true) rfl rfl rfl rfl rfl (by simp) rfl
  case hy =>
   rintro W' hb'
   have e0 := cell_keep hb' HX0.out
   have e1 := cell_keep hb' HX1.out
   have e2 := cell_keep hb' HY0.out
   have e3 := cell_keep hb' HY1.out
   have e4 := cell_keep hb' HC0.out
   have e5 := cell_keep hb' HC1.out
   have e6 := cell_keep hb' HD0.out
   have e7 := cell_keep hb' HD1.out
   clear hb'
   go_simp
   first | done | with_reducible rfl
  simp only [List.setIfInBounds_toArray, List.set_cons_zero, List.set_cons_succ]
 refine pm_one rfl ?_
 gi_wp2_with (fail)
 refine ⟨trivial, (callsIn_wide.2 (HSS.out _ (bstep HB17.out HSX.out))).mono ?_⟩
 rintro e V5 ⟨rfl, hb⟩
 have HSX := Lib.hid (bstep HSX.out hb)
 clear hb
 gi_wp2_with (fail)
 refine ⟨fun _ => HSX.out, ?_⟩
 iterate 2
  apply pm_take rfl rfl (by rfl)
  case hy =>
   rintro W' hb'
   clear hb'
   go_simp
   first | done | with_reducible rfl
  simp only [List.setIfInBounds_toArray, List.set_cons_zero, List.set_cons_succ]
 refine pm_one rfl ?_
 gi_wp2_with (fail)
 refine ⟨trivial, (callsIn_wide.2 (HAW.out _ (bstep (bstep HB5.out HB17.out) HSX.out))).mono ?_⟩
 rintro e V6 ⟨rfl, hb⟩
 have HSX := Lib.hid (bstep HSX.out hb)
 clear hb
 gi_wp2_with (fail)
 refine ⟨fun _ => HSX.out, ?_⟩
 iterate 2
  apply pm_take rfl rfl (by rfl)
  case hy =>
   rintro W' hb'
   clear hb'
   go_simp
   first | done | with_reducible rfl
  simp only [List.setIfInBounds_toArray, List.set_cons_zero, List.set_cons_succ]
 refine pm_fin ?_
 gi_wp2_with (fail)
 go_wp2_with (fail)
 go_ret
 exact ⟨rfl, bstep (bstep HB5.out HB17.out) HSX.out⟩
end Go.Proofs.YtjmebijckcimoaaGreatDoor
