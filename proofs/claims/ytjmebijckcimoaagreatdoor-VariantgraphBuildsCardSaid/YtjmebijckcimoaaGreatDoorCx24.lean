/-
 Contract (program).
-/
import Derived.Test.YtjmebijckcimoaaGreatDoorCk24
import Derived.Test.YtjmebijckcimoaaGreatDoorCg
import Derived.Test.YtjmebijckcimoaaGreatDoorAr
import Derived.Test.YtjmebijckcimoaaGreatDoorSp
import Derived.Test.YtjmebijckcimoaaGreatDoorBl
namespace Go.Proofs.YtjmebijckcimoaaGreatDoor
open Go.RowKit Go.Ap Go.Shelf Go.Proofs

attribute [local go_sem] Oper.semAt_some bs_toList empty_toList bs_size bs_extract
set_option maxRecDepth 100000 in
set_option maxHeartbeats 8000000 in
theorem contractOk (ws : List Str) (al : List Vg.Arc) (a1 : Option Addr) (n1 c1 : Nat) (a2 : Option Addr) (n2 c2 : Nat) (w : World) (h : GraphM w a1 n1 a2 n2 ws al) (hn1 : n1 ≤ 4096) (hn2 : n2 ≤ 4096) (hok : Vg.chkG ws al = 0)
 (hlim : ∀ (k : Nat) (x : Int), (Vg.accW [32] ((ws.length : Int) - 1) al (fun k => ws.getD k.toNat []) k x).length ≤ 65536) (hsz : (allS al).length ≤ 1000000) :
 Calls Tryz.prog 32 #[graphV a1 n1 c1 a2 n2 c2] w fun e w' => ∃ a3 m3 c3 a4 m4 c4 al', e = .returned (.tuple #[graphV a3 m3 c3 a4 m4 c4, .int .i64 0]) ∧ GraphM w' a3 m3 a4 m4 (Vg.contrW [32] ((ws.length : Int) - 1) al (fun k => ws.getD k.toNat []) ws.length) al' ∧ Vg.Contr ((ws.length : Int) - 1) al al' ∧ Below w.heap.size w w' := by
 obtain ⟨g2, g3, g4, g5, V, g6⟩ := Vg.chkG_zero.1 hok
 have hl1 := h.words.len
 have hl2 := h.arcs.len
 have HL1 := Lib.hid hl1
 have HL2 := Lib.hid hl2
 have HC := Lib.hid (fun W (hb : Below w.heap.size w W) => checkP ws al a1 n1 c1 a2 n2 c2 W (h.mono (Nat.le_refl _) hb) hn1 (by omega))
 rw [hok] at HC
 have HLIM := Lib.hid hlim
 have HSZ := Lib.hid hsz
 rw [hl1] at V HLIM g2
 have HVG := Lib.hid V
 obtain ⟨W4, hW4⟩ : ∃ W4, (w.alloc (.cells #[.slice a1 n1 c1, .slice a2 n2 c2] 31)).alloc (.cells #[.slice none 0 0, .slice none 0 0] 31) = W4 := ⟨_, rfl⟩
 have HB4 := Lib.hid (show Below w.heap.size w W4 by rw [← hW4]; exact bstep (balloc w _) (balloc _ _))
 have HBX := Lib.hid (show BoxG W4 w.heap.size a1 n1 c1 a2 n2 c2 by rw [← hW4]; exact (BoxG.new w a1 n1 c1 a2 n2 c2).below (balloc _ _))
 have HRX := Lib.hid (show BlkK W4 (w.heap.size + 1) #[.slice none 0 0, .slice none 0 0] 31 by
  rw [← hW4]
  have := BlkK.new (w.alloc (.cells #[.slice a1 n1 c1, .slice a2 n2 c2] 31)) #[.slice none 0 0, .slice none 0 0] 31
  rwa [World.size_alloc] at this)
 have HG := Lib.hid (show GraphM W4 a1 n1 a2 n2 ws al from h.mono (Nat.le_refl _) HB4.out)
 clear h hok V hl1 hl2 hlim hsz g3 g4 g5 g6
 unfold graphV at HC
 show Calls _ _ #[.agg #[.slice a1 n1 c1, .slice a2 n2 c2]] _ _
 go_enter Tryz.func32, Tryz.ntmps32
 obtain ⟨k0, k1⟩ := HBX.out
 go_wp2_with (fail)
 refine (HC.out _ HB4.out).mono ?_
 rintro e w1 ⟨rfl, hb1⟩
 have HB1 := Lib.hid (bstep HB4.out hb1)
 have HR1 := Lib.hid (HRX.out.below hb1)
 have HBX1 := Lib.hid (HBX.out.below hb1)
 have HG1 := Lib.hid (HG.out.mono (Nat.le_refl _) hb1)
 have hszw : w.heap.size + 1 < w1.heap.size := HR1.out.lt
 clear k0 k1 hb1 HC HB4 HBX HRX HG
 obtain ⟨k0, k1⟩ := HBX1.out
 obtain ⟨bl, hbl⟩ : ∃ b, w1.heap.size = b := ⟨_, rfl⟩
 have kb := balloc w1 (.cells #[.int .i64 ((n1 : Int) - 1)] 3)
 have HK := Lib.hid (show BlkK (w1.alloc (.cells #[.int .i64 ((n1 : Int) - 1)] 3)) bl #[.int .i64 ((n1 : Int) - 1)] 3 by rw [← hbl]; exact BlkK.new w1 _ _)
 have HB2 := Lib.hid (bstep HB1.out kb)
 have HR2 := Lib.hid (HR1.out.below kb)
 have HX2 := Lib.hid (HBX1.out.below kb)
 have HG2 := Lib.hid (HG1.out.mono (Nat.le_refl _) kb)
 have hsz2 : (w1.alloc (.cells #[.int .i64 ((n1 : Int) - 1)] 3)).heap.size = bl + 1 := by rw [World.size_alloc, hbl]
 have HS2 := Lib.hid hsz2
 clear kb HB1 HR1 HBX1 HG1 hsz2
 have d0 : 2 ≤ n1 := g2
 go_wp2_with (fail)
 clear k0 k1
 generalize (w1.alloc (.cells #[.int .i64 ((n1 : Int) - 1)] 3)) = W2 at HK HB2 HR2 HX2 HG2 HS2 ⊢
 have HMK := Lib.hid (make_nums n1 (by omega))
 have hwn : IntKind.i64.wrap (n1 : Int) = (n1 : Int) := IntWalk.i64_in _ (by omega)
 have HKC := Lib.hid (HK.out.cell (i := 0) (u := .int .i64 ((n1 : Int) - 1)) rfl)
 refine (wpIn_wide (n := 20)).1 ?_
 refine wpIn_region_six (fun W' => W'.cell? ⟨bl, 0, none⟩ = some (.int .i64 ((n1 : Int) - 1))) (fun _ => trivial) (by kernel_rfl) (by kernel_rfl) (HK.out.drew.cell (i := 0) rfl)
  (fun a0 b2 b5 b6 b7 b8 b9 a W => ∃ v33 v36 v5 v6, a = fill4 a0 33 36 5 6 v33 v36 v5 v6 ∧ Six W2 n1 b2 b5 b6 b7 b8 b9 v33 v36 v5 v6 W) ?_
 iterate 4
  apply tk_take rfl rfl (by rfl)
  case hy =>
   rintro W' hb'
   go_simp
   first | done | with_reducible rfl
  simp only [List.setIfInBounds_toArray, List.set_cons_zero, List.set_cons_succ]
 refine ⟨⟨undef, undef, undef, undef, rfl, Six.start W2 n1 _ _ _ _⟩, ?_, ?_, ?_, ?_, ?_, ?_, ?_⟩
 · rintro b5 b6 b7 b8 b9 a W ⟨v33, v36, v5, v6, rfl, hs⟩
   refine op_one rfl ?_
   simp only [fill4, List.setIfInBounds_toArray, List.set_cons_zero, List.set_cons_succ]
   have hmk := HMK.out
   have HS := Lib.hid hs.s2
   clear hs
   gi_wp2_with (fail)
   exact ⟨cell_keep HS.out.below HKC.out, .slice (some ⟨W.heap.size, 0, none⟩) n1 n1, v36, v5, v6, rfl, HS.out⟩
 · rintro b2 b6 b7 b8 b9 a W ⟨v33, v36, v5, v6, rfl, hs⟩
   refine op_one rfl ?_
   simp only [fill4, List.setIfInBounds_toArray, List.set_cons_zero, List.set_cons_succ]
   have hmk := HMK.out
   have HS := Lib.hid hs.s5
   clear hs
   gi_wp2_with (fail)
   exact ⟨cell_keep HS.out.below HKC.out, v33, .slice (some ⟨W.heap.size, 0, none⟩) n1 n1, v5, v6, rfl, HS.out⟩
 · rintro b2 b5 b7 b8 b9 a W ⟨v33, v36, v5, v6, rfl, hs⟩
   refine op_one rfl ?_
   simp only [fill4, List.setIfInBounds_toArray, List.set_cons_zero, List.set_cons_succ]
   have HS := Lib.hid hs.s6
   clear hs
   gi_wp2_with (fail)
   exact ⟨cell_keep HS.out.below HKC.out, v33, v36, .pointer (some ⟨W.heap.size, 0, none⟩), v6, rfl, HS.out⟩
 · rintro b2 b5 b6 b8 b9 a W ⟨v33, v36, v5, v6, rfl, hs⟩
   refine op_one rfl ?_
   simp only [fill4, List.setIfInBounds_toArray, List.set_cons_zero, List.set_cons_succ]
   have HS := Lib.hid hs.s7
   clear hs
   gi_wp2_with (fail)
   exact ⟨cell_keep HS.out.below HKC.out, v33, v36, v5, .pointer (some ⟨W.heap.size, 0, none⟩), rfl, HS.out⟩
 · rintro b5 b9 a W ⟨v33, v36, v5, v6, rfl, hs⟩
   refine op_one rfl ?_
   simp only [fill4, List.setIfInBounds_toArray, List.set_cons_zero, List.set_cons_succ]
   obtain ⟨x, rfl, hx, _⟩ := hs.x6 rfl
   obtain ⟨r, rfl, _, _⟩ := hs.m2 rfl
   have z0 := hx.cell (i := 0) (u := .slice none 0 0) rfl
   have z1 := hx.hard (i := 0)
   have HS := Lib.hid hs.s8
   clear hs hx
   gi_wp2_with (fail)
   exact ⟨cell_keep HS.out.below HKC.out, .slice (some ⟨r, 0, none⟩) n1 n1, v36, .pointer (some ⟨x, 0, none⟩), v6, rfl, HS.out⟩
 · rintro a W ⟨v33, v36, v5, v6, rfl, hs⟩
   refine op_one rfl ?_
   simp only [fill4, List.setIfInBounds_toArray, List.set_cons_zero, List.set_cons_succ]
   obtain ⟨x, rfl, hx, _⟩ := hs.x7 rfl
   obtain ⟨r, rfl, _, _⟩ := hs.m5 rfl
   have z0 := hx.cell (i := 0) (u := .slice none 0 0) rfl
   have z1 := hx.hard (i := 0)
   have HS := Lib.hid hs.s9
   clear hs hx
   gi_wp2_with (fail)
   exact ⟨cell_keep HS.out.below HKC.out, v33, .slice (some ⟨r, 0, none⟩) n1 n1, v5, .pointer (some ⟨x, 0, none⟩), rfl, HS.out⟩
 rintro a W5 ⟨v33, v36, v5, v6, rfl, hs⟩
 simp only [fill4, List.setIfInBounds_toArray, List.set_cons_zero, List.set_cons_succ]
 obtain ⟨x5, rfl, hx5, gx5⟩ := hs.x6 rfl
 obtain ⟨x6, rfl, hx6, gx6⟩ := hs.x7 rfl
 obtain ⟨rE, rfl, hrE, grE⟩ := hs.m2 rfl
 obtain ⟨rV, rfl, hrV, grV⟩ := hs.m5 rfl
 have HBB := Lib.hid hs.below
 have hrEV : rE ≠ rV := fun e => hs.ne rfl rfl (by rw [e])
 have hx56 : x5 ≠ x6 := fun e => hs.ne2 rfl rfl (by rw [e])
 have HCT := Lib.hid (show CtB W5 bl x5 x6 rE rV n1 (al.take 0) from ⟨HK.out.below hs.below, by simpa using hx5, by simpa using hx6, by rw [List.take_zero]; exact Arr.ofRep hrE, by rw [List.take_zero]; exact Arr.ofRep hrV⟩)
 have n1x : bl ≠ rE := fun e => by have := HK.out.lt; omega
 have n2x : bl ≠ rV := fun e => by have := HK.out.lt; omega
 have n3x : x5 ≠ rE := blk_type hx5 hrE (by decide)
 have n4x : x5 ≠ rV := blk_type hx5 hrV (by decide)
 have n5x : x6 ≠ rE := blk_type hx6 hrE (by decide)
 have n6x : x6 ≠ rV := blk_type hx6 hrV (by decide)
 have HNX := Lib.hid (show bl ≠ rE ∧ bl ≠ rV ∧ x5 ≠ rE ∧ x5 ≠ rV ∧ x6 ≠ rE ∧ x6 ≠ rV ∧ rE ≠ rV from ⟨n1x, n2x, n3x, n4x, n5x, n6x, hrEV⟩)
 have HGE := Lib.hid (show W2.heap.size ≤ x5 ∧ W2.heap.size ≤ x6 ∧ W2.heap.size ≤ rE ∧ W2.heap.size ≤ rV from ⟨gx5, gx6, grE, grV⟩)
 have k1 := (HX2.out.below hs.below).k1
 clear hs hx5 hx6 hrE hrV gx5 gx6 grE grV n1x n2x n3x n4x n5x n6x hrEV HMK hwn hW4
 gi_wp2_with (fail)
 go_wp2_with (fail)
 clear k1
 go_loopw [40] (fun iv wr => ∃ i : Nat, i ≤ n2 ∧ iv = .int .i64 i ∧ CtB wr bl x5 x6 rE rV n1 (al.take i) ∧ Below W2.heap.size W2 wr) (fun iv _ => n2 - (intOf iv).toNat)
 case atStart => exact ⟨0, Nat.zero_le _, rfl, HCT.out, HBB.out⟩
 case round =>
  obtain ⟨wi, rfl⟩ : ∃ wi : World, wi = wr := ⟨_, rfl⟩
  obtain ⟨i, hi, rfl, hc, hb⟩ := hrel
  by_cases hin : i < n2
  · obtain ⟨x, b, off, a5, k5, hx, rfl, q0, q1, q2, _⟩ := HG2.out.arcs.at hin
    obtain ⟨r1, r2, r3⟩ := HVG.out.rng _ (List.mem_of_getElem? hx)
    obtain ⟨⟨f0, t0⟩, src⟩ := x
    simp only at q0 q1 q2 r1 r2 r3
    obtain ⟨f, rfl⟩ : ∃ f : Nat, f0 = f := ⟨f0.toNat, by omega⟩
    obtain ⟨t, rfl⟩ : ∃ t : Nat, t0 = t := ⟨t0.toNat, by omega⟩
    have hfn : f < n1 := by omega
    have htn : t < n1 := by omega
    have i1 : (i : Int) < (n2 : Int) := by omega
    have i2 : (f : Int) < (n1 : Int) := by omega
    have i3 : (t : Int) < (n1 : Int) := by omega
    have HTK := Lib.hid (show al.take (i + 1) = al.take i ++ [(((f : Int), (t : Int)), src)] by rw [List.take_add_one, hx]; rfl)
    have p0 := cell_keep hb q0
    have p1 := cell_keep hb q1
    have p2 := cell_keep hb q2
    obtain ⟨X, hX⟩ : ∃ X, wi.heap.size = X := ⟨_, rfl⟩
    have kb := balloc wi (.cells #[.int .i64 (f : Int), .int .i64 (t : Int), .slice a5 src.length k5] 48)
    have hK := BlkK.new wi #[.int .i64 (f : Int), .int .i64 (t : Int), .slice a5 src.length k5] 48
    rw [hX] at hK
    have hb2 := bstep hb kb
    have hc2 := hc.below kb
    have hXE : X ≠ rE := blk_type hK hc2.aE (by decide)
    obtain ⟨g1, g2', g3, g4, g5, g6, g7⟩ := HNX.out
    have HC3 := Lib.hid (hc2.step f t src g1 g2' g3 g4 g5 g6 g7)
    obtain ⟨en, hen⟩ : ∃ c, Vg.enE (al.take i) t = c := ⟨_, rfl⟩
    obtain ⟨lv, hlv⟩ : ∃ c, Vg.lvE (al.take i) f = c := ⟨_, rfl⟩
    have ben := enE_le (al.take i) (t : Int)
    have blv := lvE_le (al.take i) (f : Int)
    rw [List.length_take] at ben blv
    obtain ⟨ze, hze⟩ : ∃ z, en + 1 = z := ⟨_, rfl⟩
    obtain ⟨zv, hzv⟩ : ∃ z, lv + 1 = z := ⟨_, rfl⟩
    rw [hen] at ben
    rw [hlv] at blv
    rw [hen, hlv, hze, hzv] at HC3
    have hwe : IntKind.i64.wrap ((en : Int) + 1) = (ze : Int) := by rw [IntWalk.i64_in _ (by omega)]; omega
    have hwv : IntKind.i64.wrap ((lv : Int) + 1) = (zv : Int) := by rw [IntWalk.i64_in _ (by omega)]; omega
    have HB3 := Lib.hid ((hb2.setCell (p := ⟨rE, t, none⟩) HGE.out.2.2.1 (u := .int .i64 (ze : Int))).setCell (p := ⟨rV, f, none⟩) HGE.out.2.2.2 (u := .int .i64 (zv : Int)))
    obtain ⟨WA, hWA⟩ : ∃ W, wi.alloc (.cells #[.int .i64 (f : Int), .int .i64 (t : Int), .slice a5 src.length k5] 48) = W := ⟨_, rfl⟩
    rw [hWA] at hK hc2 HC3 HB3
    have y0 : WA.cell? ⟨X, 1, none⟩ = some (.int .i64 (t : Int)) := hK.cell (i := 1) rfl
    have y1 : WA.cell? ⟨x5, 0, none⟩ = some (.slice (some ⟨rE, 0, none⟩) n1 n1) := hc2.bE.cell (i := 0) rfl
    have y2 := hc2.aE.getN htn
    have y3 := hc2.aE.free t
    have y4 : (WA.setCell ⟨rE, t, none⟩ (.int .i64 (ze : Int))).cell? ⟨X, 0, none⟩ = some (.int .i64 (f : Int)) := (BlkK.oth hK hXE).cell (i := 0) rfl
    have y5 : (WA.setCell ⟨rE, t, none⟩ (.int .i64 (ze : Int))).cell? ⟨x6, 0, none⟩ = some (.slice (some ⟨rV, 0, none⟩) n1 n1) := (BlkK.oth hc2.bV g5).cell (i := 0) rfl
    have y6 := (Arr.other24 (c := rE) (j := t) (v := .int .i64 (ze : Int)) hc2.aV (Ne.symm g7)).getN hfn
    have y7 := (Arr.other24 (c := rE) (j := t) (v := .int .i64 (ze : Int)) hc2.aV (Ne.symm g7)).free f
    rw [hen] at y2
    rw [hlv] at y6
    clear hx q0 q1 q2 r1 r2 r3 hb hc kb hK hc2 hb2 hen hlv hze hzv ben blv hi hfn htn hXE g1 g2' g3 g4 g5 g6 g7
    go_wp2_with (fail)
    go_roundw
    case rel => exact ⟨i + 1, by omega, by simp, by rw [HTK.out]; exact HC3.out, HB3.out⟩
    case measure => simp [intOf]; omega
  · obtain rfl : n2 = i := by omega
    rw [List.take_of_length_le (by rw [HL2.out]; exact Nat.le_refl _)] at hc
    have HCB := Lib.hid hc
    have HB5 := Lib.hid hb
    clear hc hb hi hin HCT HBB
    have hwn : IntKind.i64.wrap (n1 : Int) = (n1 : Int) := IntWalk.i64_in _ (by omega)
    have kb1 := balloc wi (.cells (Array.replicate n1 (.int .i64 0)) 3)
    have kb2 := balloc (wi.alloc (.cells (Array.replicate n1 (.int .i64 0)) 3)) (.cells (Array.replicate n1 (.string { data := #[] })) 9)
    have l0 := HCB.out.las.cell (i := 0) (u := .int .i64 ((n1 : Int) - 1)) rfl
    have l1 := cell_keep kb1 l0
    have HMI := Lib.hid (make_nums n1 (by omega))
    have HMS := Lib.hid (make_strs24 n1 (by omega))
    have hmi := HMI.out
    have hms := HMS.out
    have HLT := Lib.hid HCB.out.lts
    have HC6 := Lib.hid ((HCB.out.below kb1).below kb2)
    have HB6 := Lib.hid (bstep (bstep HB5.out kb1) kb2)
    have HS6 := Lib.hid (CtS.new wi n1 ws)
    have hSz := HB5.out.size
    clear kb1 kb2
    go_wp2_with (fail)
    clear l0 l1 hmi hms hwn HCB HB5 HMI HMS
    obtain ⟨rF, hrF⟩ : ∃ r, wi.heap.size = r := ⟨_, rfl⟩
    rw [hrF] at HLT HS6 hSz ⊢
    clear hrF
    generalize (wi.alloc (.cells (Array.replicate n1 (.int .i64 0)) 3)).alloc (.cells (Array.replicate n1 (.string { data := #[] })) 9) = W6 at HC6 HB6 HS6 ⊢
    clear wi
    go_loopw [68] (fun iv wr => ∃ k : Nat, k ≤ n1 ∧ iv = .int .i64 k ∧ CtS wr rF (rF + 1) n1 (F0 k) (G0 ws k) ∧ CtB wr bl x5 x6 rE rV n1 al ∧ Below W2.heap.size W2 wr) (fun iv _ => n1 - (intOf iv).toNat)
    case atStart => exact ⟨0, Nat.zero_le _, rfl, HS6.out, HC6.out, HB6.out⟩
    case round =>
     obtain ⟨wi, rfl⟩ : ∃ wi : World, wi = wr := ⟨_, rfl⟩
     obtain ⟨k, hk, rfl, hcs, hcb, hb⟩ := hrel
     by_cases hkn : k < n1
     · obtain ⟨u, b3, o3, v3, hu, rfl, hcw, rfl⟩ := Sl.at HG2.out.words hkn
       have HU := Lib.hid (show ws.getD k [] = u by rw [List.getD_eq_getElem?_getD, hu]; rfl)
       have c0 := (HX2.out.below hb).k0
       have c1' : wi.cell? ⟨b3, o3 + k, none⟩ = some (.string (bs u)) := cell_keep hb hcw
       have y0 := hcs.f hkn
       have y1 := hcs.fir.free k
       have y2 := (CtS.mk (F := fun j => if j = k then (k : Int) else F0 k j) (by have := (hcs.setF (k := k) (k : Int)).1; rwa [rngL_set] at this) (hcs.setF (k := k) (k : Int)).2).w hkn
       have y3 := ArrG.free (hcs.setF (k := k) (k : Int)).2 k
       have HL := Lib.hid hcs.lay
       rw [HU.out] at HL
       have HC7 := Lib.hid ((hcb.off (c := rF) (j := k) (v := .int .i64 (k : Int)) HLT.out (Nat.le_refl _)).off (c := rF + 1) (j := k) (v := .string (bs u)) HLT.out (Nat.le_succ _))
       have HB7 := Lib.hid ((hb.setCell (p := ⟨rF, k, none⟩) (u := .int .i64 (k : Int)) hSz).setCell (p := ⟨rF + 1, k, none⟩) (u := .string (bs u)) (Nat.le_succ_of_le hSz))
       have i1 : (k : Int) < (n1 : Int) := by omega
       clear hcs hcb hb hu hcw hk
       go_wp2_with (fail)
       go_roundw
       case rel => exact ⟨k + 1, by omega, by simp, HL.out, HC7.out, HB7.out⟩
       case measure => simp [intOf]; omega
     · obtain rfl : n1 = k := by omega
       have HCS := Lib.hid (show CtS wi rF (rF + 1) n1 (FK ((n1 : Int) - 1) al 1 false) (GK ((n1 : Int) - 1) al ws 1 false) from ⟨by rw [← FK_one HVG.out]; exact hcs.fir, by rw [← GK_one HVG.out]; exact hcs.wrd⟩)
       have HCB := Lib.hid hcb
       have HB := Lib.hid hb
       clear hcs hcb hb hk hkn HC6 HB6 HS6
       go_wp2_with (fail)
       have HEQ := Lib.hid (Int.le_sub_one_of_lt (show ((1 : Nat) : Int) < (n1 : Int) by omega))
       go_loopw [13] (fun kv wr => ∃ k : Nat, 1 ≤ k ∧ k + 1 ≤ n1 ∧ kv = .int .i64 k ∧ CtS wr rF (rF + 1) n1 (FK ((n1 : Int) - 1) al k false) (GK ((n1 : Int) - 1) al ws k false) ∧ CtB wr bl x5 x6 rE rV n1 al ∧ Below W2.heap.size W2 wr) (fun kv _ => n1 - (intOf kv).toNat)
       case atStart => exact ⟨1, Nat.le_refl _, d0, rfl, HCS.out, HCB.out, HB.out⟩
       case round =>
        obtain ⟨wk, rfl⟩ : ∃ wk : World, wk = wr := ⟨_, rfl⟩
        obtain ⟨k, hk0, hk1, rfl, hcs, hcb, hb⟩ := hrel
        have l0 := hcb.las.cell (i := 0) (u := .int .i64 ((n1 : Int) - 1)) rfl
        by_cases hkn : k + 1 < n1
        · have q1 : (k : Int) < (n1 : Int) - 1 := by omega
          have k1 := (HX2.out.below hb).k1
          have HS0 := Lib.hid (show CtS wk rF (rF + 1) n1 (FK ((n1 : Int) - 1) al k (dI ((n1 : Int) - 1) al k 0)) (GK ((n1 : Int) - 1) al ws k (dI ((n1 : Int) - 1) al k 0)) by rw [dI_zero]; exact hcs)
          have HCK := Lib.hid hcb
          have HBK := Lib.hid hb
          have HKN := Lib.hid hkn
          have HK0 := Lib.hid hk0
          have HU := Lib.hid (Sl.at HG2.out.words (show k < n1 by omega))
          clear hcs hcb hb hk1 hkn hk0
          go_wp2_with (fail)
          clear k1 l0
          go_loopw [92] (fun iv wr => ∃ i : Nat, i ≤ n2 ∧ iv = .int .i64 i ∧ CtS wr rF (rF + 1) n1 (FK ((n1 : Int) - 1) al k (dI ((n1 : Int) - 1) al k i)) (GK ((n1 : Int) - 1) al ws k (dI ((n1 : Int) - 1) al k i)) ∧ CtB wr bl x5 x6 rE rV n1 al ∧ Below W2.heap.size W2 wr) (fun iv _ => n2 - (intOf iv).toNat)
          case atStart => exact ⟨0, Nat.zero_le _, rfl, HS0.out, HCK.out, HBK.out⟩
          case round =>
           obtain ⟨wi, rfl⟩ : ∃ wi : World, wi = wr := ⟨_, rfl⟩
           obtain ⟨i, hi, rfl, hs, hc, hb⟩ := hrel
           by_cases hin : i < n2
           · obtain ⟨x, b, off, a5, k5, hx, rfl, p0, p1, p2, _⟩ := HG2.out.arcs.at hin
             obtain ⟨r1, r2, r3⟩ := HVG.out.rng _ (List.mem_of_getElem? hx)
             obtain ⟨⟨f0, t0⟩, src⟩ := x
             simp only at p0 p1 p2 r1 r2 r3
             obtain ⟨f, rfl⟩ : ∃ f : Nat, f0 = f := ⟨f0.toNat, by omega⟩
             obtain ⟨t, rfl⟩ : ∃ t : Nat, t0 = t := ⟨t0.toNat, by omega⟩
             have HIN := Lib.hid hin
             have HX := Lib.hid hx
             have i1 : (i : Int) < (n2 : Int) := by omega
             have q0 := cell_keep hb p0
             have q3 := cell_keep hb p1
             have q2 := cell_keep hb p2
             obtain ⟨X, hX⟩ : ∃ X, wi.heap.size = X := ⟨_, rfl⟩
             have kb := balloc wi (.cells #[.int .i64 (f : Int), .int .i64 (t : Int), .slice a5 src.length k5] 48)
             have hK := BlkK.new wi #[.int .i64 (f : Int), .int .i64 (t : Int), .slice a5 src.length k5] 48
             rw [hX] at hK
             have HB2 := Lib.hid (bstep hb kb)
             have HC2 := Lib.hid (hc.below kb)
             have HS2' := Lib.hid (hs.below kb)
             obtain ⟨WA, hWA⟩ : ∃ W, wi.alloc (.cells #[.int .i64 (f : Int), .int .i64 (t : Int), .slice a5 src.length k5] 48) = W := ⟨_, rfl⟩
             rw [hWA] at hK HC2 HS2' HB2
             have HK := Lib.hid hK
             have z0 : WA.cell? ⟨X, 0, none⟩ = some (.int .i64 (f : Int)) := hK.cell (i := 0) rfl
             have z1 : WA.cell? ⟨X, 1, none⟩ = some (.int .i64 (t : Int)) := hK.cell (i := 1) rfl
             have z2 : WA.cell? ⟨X, 2, none⟩ = some (.slice a5 src.length k5) := hK.cell (i := 2) rfl
             have HFN := Lib.hid (show f < n1 by omega)
             have HTN := Lib.hid (show t < n1 by omega)
             clear hx p0 p1 p2 r1 r2 r3 hb hc hs kb hK hi
             by_cases htk : t = k
             · obtain rfl : t = k := htk
               have htt : ((t : Int) == (t : Int)) = true := by simp
               have hsp := simpleP f t (.slice a5 src.length k5) bl x5 x6 rE rV n1 al WA HC2.out HFN.out HTN.out
               by_cases hsm : Vg.Simp ((n1 : Int) - 1) al (((f : Int), (t : Int)), src)
               · rw [show decide (0 < (f : Int) ∧ (t : Int) < (n1 : Int) - 1 ∧ Vg.lvE al f = 1 ∧ Vg.enE al t = 1) = true from decide_eq_true hsm] at hsp
                 have HSP := Lib.hid hsp
                 obtain ⟨hd1, hd2, hpre⟩ := dI_hit (k := t) HVG.out HX.out hsm rfl
                 simp only at hpre
                 have HPR := Lib.hid hpre
                 have HDN := Lib.hid hd2
                 have hs2 := HS2'.out
                 rw [hd1] at hs2
                 have HSA := Lib.hid hs2
                 obtain ⟨y, hy⟩ : ∃ y : Nat, Vg.fst ((n1 : Int) - 1) al t = (y : Int) := ⟨_, (Int.toNat_of_nonneg (HVG.out.fst_nn (Int.natCast_nonneg t))).symm⟩
                 have hyt : y < n1 := by
                  have := (HVG.out.fst_le _ (t : Int) rfl).1
                  have := HTN.out
                  omega
                 have HY := Lib.hid hy
                 have HYT := Lib.hid hyt
                 obtain ⟨u, b3, o3, v3, hu, rfl, hcw, rfl⟩ := HU.out
                 have HUE := Lib.hid (show ws.getD t [] = u by rw [List.getD_eq_getElem?_getD, hu]; rfl)
                 have HCW := Lib.hid (show W2.cell? ⟨b3, o3 + t, none⟩ = some (.string (bs u)) from hcw)
                 have i3 : (t : Int) < (n1 : Int) := by omega
                 have i4 : (y : Int) < (n1 : Int) := by omega
                 have i5 : (f : Int) < (n1 : Int) := by have := HFN.out; omega
                 clear hsm hsp hd1 hd2 hpre hs2 hy hyt hu hcw
                 go_wp2_with (fail)
                 refine HSP.out.mono ?_
                 rintro e W9 ⟨rfl, hb9⟩
                 clear z0 z1 z2
                 have hs9 := HSA.out.below hb9
                 have hk9 := HK.out.below hb9
                 have HC9 := Lib.hid (HC2.out.below hb9)
                 have HB9 := Lib.hid (bstep HB2.out hb9)
                 obtain ⟨hfk, hff⟩ := FK_hit (n := n1) HVG.out HPR.out HTN.out
                 rw [HY.out] at hff
                 have z0 : W9.cell? ⟨X, 0, none⟩ = some (.int .i64 (f : Int)) := hk9.cell (i := 0) rfl
                 have y0 := hs9.f HFN.out
                 rw [hff] at y0
                 have y1 := hs9.f HTN.out
                 have y2 := hs9.fir.free t
                 have hst := hs9.setF (k := t) (y : Int)
                 rw [← hff, hfk, hff] at hst
                 have HS10 := Lib.hid (CtS.mk hst.1 hst.2)
                 have HC10 := Lib.hid (HC9.out.off (c := rF) (j := t) (v := .int .i64 (y : Int)) HLT.out (Nat.le_refl _))
                 have HB10 := Lib.hid (HB9.out.setCell (p := ⟨rF, t, none⟩) (u := .int .i64 (y : Int)) hSz)
                 clear hb9 hs9 hk9 hfk hff hst
                 go_wp2_with (fail)
                 clear z0 y0 y1 y2
                 generalize W9.setCell ⟨rF, t, none⟩ (.int .i64 (y : Int)) = W10 at HS10 HC10 HB10 ⊢
                 have HS0' := Lib.hid (show W10.cell? ⟨rF, t, none⟩ = some (.int .i64 (y : Int)) by
                  have := HS10.out.f HTN.out
                  unfold FK at this
                  rw [if_pos (.inr ⟨rfl, rfl⟩), HY.out] at this
                  exact this)
                 have hgw := HS10.out.w HYT.out
                 have hgl := HLIM.out t (y : Int)
                 have hgk := GK_hit (n := n1) (ws := ws) (y := y) (show Vg.pre ((n1 : Int) - 1) al t ≠ none by rw [HPR.out]; simp) HY.out.symm
                 have hgm := HLIM.out (t + 1) (y : Int)
                 have hge : Vg.accW [32] ((n1 : Int) - 1) al (fun k => ws.getD k.toNat []) (t + 1) y = GK ((n1 : Int) - 1) al ws t false y ++ ([32] ++ ws.getD t []) := by
                  rw [Vg.accW, if_pos ⟨HY.out, by rw [HPR.out]; simp⟩]
                  rfl
                 rw [hge] at hgm
                 rw [HUE.out] at hgk hgm
                 obtain ⟨gg, hgg⟩ : ∃ gg, GK ((n1 : Int) - 1) al ws t false y = gg := ⟨_, rfl⟩
                 rw [hgg] at hgw hgk hgm
                 obtain ⟨v, hv⟩ : ∃ v : Str, [32] ++ u = v := ⟨_, rfl⟩
                 obtain ⟨m, hm⟩ : ∃ m : Str, gg ++ v = m := ⟨_, rfl⟩
                 rw [hv, hm] at hgk hgm
                 have HE1 := Lib.hid (show ({ data := #[32] } : ByteArray) ++ bs u = bs v by rw [← hv, ← bs_append]; rfl)
                 have HE2 := Lib.hid (show bs gg ++ bs v = bs m by rw [← hm, ← bs_append])
                 have hml : m.length ≤ 65536 := hgm
                 have hvl : v.length = 1 + u.length := by rw [← hv]; simp; omega
                 have hmv : m.length = gg.length + v.length := by rw [← hm]; simp
                 have HE3 := Lib.hid (show ¬(9223372036854775807 < 1 + u.length) by omega)
                 have HE4 := Lib.hid (show ¬(9223372036854775807 < gg.length + v.length) by omega)
                 have HZ1 := Lib.hid (show (W10.setCell ⟨rF + 1, y, none⟩ (.string (bs m))).cell? ⟨rF + 1, y, none⟩ = some (.string (bs m)) from ArrG.cell (enc := sv) (HS10.out.setW (k := y) m).2 (by rw [List.getElem?_set_self (by rw [rngL_len]; exact HYT.out)]))
                 have HGW := Lib.hid hgw
                 have hsw := HS10.out.setW (k := y) m
                 rw [hgk] at hsw
                 have HS11 := Lib.hid (CtS.mk hsw.1 hsw.2)
                 have HC11 := Lib.hid (HC10.out.off (c := rF + 1) (j := y) (v := .string (bs m)) HLT.out (Nat.le_succ _))
                 have HB11 := Lib.hid (HB10.out.setCell (p := ⟨rF + 1, y, none⟩) (u := .string (bs m)) (Nat.le_succ_of_le hSz))
                 have HFR := Lib.hid (HS10.out.wrd.free y)
                 have HBX := Lib.hid (HX2.out.below HB10.out).k0
                 have HCX := Lib.hid (cell_keep HB10.out HCW.out)
                 clear hgw hgl hgk hgm hge hgg hv hm hsw hvl hmv
                 refine (wpIn_wide (n := 20)).1 ?_
                 refine wpIn_region_planM (fun W' => (W'.cell? ⟨rF, t, none⟩ = some (.int .i64 (y : Int)) ∧ W'.cell? ⟨rF + 1, y, none⟩ = some (.string (bs gg))) ∧ W'.cell? ⟨w.heap.size, 0, none⟩ = some (.slice (some ⟨b3, o3, none⟩) n1 c1) ∧ W'.cell? ⟨b3, o3 + t, none⟩ = some (.string (bs u))) 15 (.take 0 <| .take 1 <| .take 2 <| .take 3 <| .take 4 <| .take 5 <| .take 6 <| .take 7 <| .take 8 <| .take 9 <| .take 10 <| .take 11 <| .take 12 <| .take 13 <| .take 14 <| .one 15 <| .fin) (fun _ => trivial) (by kernel_rfl) (by kernel_rfl) (⟨⟨HS0'.out, HGW.out⟩, HBX.out, HCX.out⟩) ?_
                 iterate 4
                  apply pm_take rfl rfl (by rfl)
                  case hy =>
                   rintro W' hb'
                   clear hb'
                   go_simp
                   first | done | with_reducible rfl
                  simp only [List.setIfInBounds_toArray, List.set_cons_zero, List.set_cons_succ]
                 apply pm_take rfl rfl (by rfl)
                 case hy =>
                  rintro W' hb'
                  have x0 := hb'.1.1
                  have x1 := hb'.1.2
                  have x2 := hb'.2.1
                  have x3 := hb'.2.2
                  clear hb'
                  go_simp
                  first | done | with_reducible rfl
                 simp only [List.setIfInBounds_toArray, List.set_cons_zero, List.set_cons_succ]
                 apply pm_take rfl rfl (by rfl)
                 case hy =>
                  rintro W' hb'
                  clear hb'
                  go_simp
                  first | done | with_reducible rfl
                 simp only [List.setIfInBounds_toArray, List.set_cons_zero, List.set_cons_succ]
                 apply pm_take rfl rfl (by rfl)
                 case hy =>
                  rintro W' hb'
                  have x0 := hb'.1.1
                  have x1 := hb'.1.2
                  have x2 := hb'.2.1
                  have x3 := hb'.2.2
                  clear hb'
                  go_simp
                  first | done | with_reducible rfl
                 simp only [List.setIfInBounds_toArray, List.set_cons_zero, List.set_cons_succ]
                 apply pm_take rfl rfl (by rfl)
                 case hy =>
                  rintro W' hb'
                  clear hb'
                  go_simp
                  first | done | with_reducible rfl
                 simp only [List.setIfInBounds_toArray, List.set_cons_zero, List.set_cons_succ]
                 apply pm_take rfl rfl (by rfl)
                 case hy =>
                  rintro W' hb'
                  have x0 := hb'.1.1
                  have x1 := hb'.1.2
                  have x2 := hb'.2.1
                  have x3 := hb'.2.2
                  clear hb'
                  go_simp
                  first | done | with_reducible rfl
                 simp only [List.setIfInBounds_toArray, List.set_cons_zero, List.set_cons_succ]
                 iterate 2
                  apply pm_take rfl rfl (by rfl)
                  case hy =>
                   rintro W' hb'
                   clear hb'
                   go_simp
                   first | done | with_reducible rfl
                  simp only [List.setIfInBounds_toArray, List.set_cons_zero, List.set_cons_succ]
                 apply pm_take rfl rfl (by rfl)
                 case hy =>
                  rintro W' hb'
                  have x0 := hb'.1.1
                  have x1 := hb'.1.2
                  have x2 := hb'.2.1
                  have x3 := hb'.2.2
                  clear hb'
                  go_simp
                  first | done | with_reducible rfl
                 simp only [List.setIfInBounds_toArray, List.set_cons_zero, List.set_cons_succ]
                 apply pm_take rfl rfl (by rfl)
                 case hy =>
                  rintro W' hb'
                  have e1 := HE1.out
                  have e3 := HE3.out
                  clear hb'
                  go_simp
                  first | done | with_reducible rfl
                 simp only [List.setIfInBounds_toArray, List.set_cons_zero, List.set_cons_succ]
                 apply pm_take rfl rfl (by rfl)
                 case hy =>
                  rintro W' hb'
                  have e2 := HE2.out
                  have e4 := HE4.out
                  clear hb'
                  go_simp
                  first | done | with_reducible rfl
                 simp only [List.setIfInBounds_toArray, List.set_cons_zero, List.set_cons_succ]
                 apply pm_take rfl rfl (by rfl)
                 case hy =>
                  rintro W' hb'
                  clear hb'
                  go_simp
                  first | done | with_reducible rfl
                 simp only [List.setIfInBounds_toArray, List.set_cons_zero, List.set_cons_succ]
                 refine pm_one rfl ?_
                 have z0 : W10.drew.cell? ⟨rF + 1, y, none⟩ = some (.string (bs gg)) := HGW.out
                 have z1 : W10.drew.frozen? ⟨rF + 1, y, none⟩ = false := HFR.out
                 gi_wp2_with (fail)
                 refine ⟨fun h => absurd h (by omega), ?_⟩
                 clear z0 z1
                 refine pm_fin ?_
                 gi_wp2_with (fail)
                 have z0 : (W10.setCell ⟨rF + 1, y, none⟩ (.string (bs m))).drew.cell? ⟨rF, t, none⟩ = some (.int .i64 (y : Int)) := by
                  have := HS11.out.f HTN.out
                  unfold FK at this
                  rw [if_pos (.inr ⟨rfl, rfl⟩), HY.out] at this
                  exact this
                 have z1 : (W10.setCell ⟨rF + 1, y, none⟩ (.string (bs m))).drew.cell? ⟨rF + 1, y, none⟩ = some (.string (bs m)) := HZ1.out
                 go_wp2_with (fail)
                 go_roundw
                 case rel => exact ⟨i + 1, by have := HIN.out; omega, by simp, by rw [HDN.out]; exact HS11.out.below (bdrewN _ 1), HC11.out.below (bdrewN _ 1), below_drew' HB11.out⟩
                 case measure => have := HIN.out; simp [intOf]; omega
               · rw [show decide (0 < (f : Int) ∧ (t : Int) < (n1 : Int) - 1 ∧ Vg.lvE al f = 1 ∧ Vg.enE al t = 1) = false from decide_eq_false hsm] at hsp
                 have HSP := Lib.hid hsp
                 have HD := Lib.hid (dI_miss (e := (n1 : Int) - 1) (k := t) HX.out (fun h => hsm h.1))
                 clear hsm hsp
                 go_wp2_with (fail)
                 refine HSP.out.mono ?_
                 rintro e W9 ⟨rfl, hb9⟩
                 have HS9 := Lib.hid (HS2'.out.below hb9)
                 have HC9 := Lib.hid (HC2.out.below hb9)
                 have HB9 := Lib.hid (bstep HB2.out hb9)
                 clear hb9
                 go_wp2_with (fail)
                 go_roundw
                 case rel => exact ⟨i + 1, by have := HIN.out; omega, by simp, by rw [HD.out]; exact HS9.out, HC9.out, HB9.out⟩
                 case measure => have := HIN.out; simp [intOf]; omega
             · have hne : ((t : Int) == (k : Int)) = false := beq_eq_false_iff_ne.2 (by omega)
               have HD := Lib.hid (dI_miss (e := (n1 : Int) - 1) (k := k) HX.out (fun h => htk (by have := h.2; simp at this; omega)))
               go_wp2_with (fail)
               go_roundw
               case rel => exact ⟨i + 1, by have := HIN.out; omega, by simp, by rw [HD.out]; exact HS2'.out, HC2.out, HB2.out⟩
               case measure => have := HIN.out; simp [intOf]; omega
           · obtain rfl : n2 = i := by omega
             have HDE := Lib.hid (@dI_end ((n1 : Int) - 1) al k)
             rw [HL2.out] at HDE
             have HSE := Lib.hid (show CtS wi rF (rF + 1) n1 (FK ((n1 : Int) - 1) al (k + 1) false) (GK ((n1 : Int) - 1) al ws (k + 1) false) from ⟨by rw [← FK_end HVG.out HDE.out]; exact hs.fir, by rw [← GK_end HDE.out]; exact hs.wrd⟩)
             have HCE := Lib.hid hc
             have HBE := Lib.hid hb
             clear hs hc hb hi hin
             go_wp2_with (fail)
             go_roundw
             case rel => exact ⟨k + 1, by omega, by have := HKN.out; omega, by simp, HSE.out, HCE.out, HBE.out⟩
             case measure => have := HKN.out; simp [intOf]; omega
        · obtain rfl : k = n1 - 1 := by omega
          have q1 : ¬(((n1 - 1 : Nat) : Int) < (n1 : Int) - 1) := by omega
          have HCS := Lib.hid (show CtS wk rF (rF + 1) n1 (fun x => Vg.fst ((n1 : Int) - 1) al x) (fun x => Vg.accW [32] ((n1 : Int) - 1) al (wsF ws) (n1 - 1) x) from ⟨by rw [← FK_last HVG.out (show (n1 : Int) = ((n1 : Int) - 1) + 1 by omega)]; exact hcs.fir, by rw [← GK_last (e := (n1 : Int) - 1) (al := al) (ws := ws)]; exact hcs.wrd⟩)
          have HCB := Lib.hid hcb
          have HB := Lib.hid hb
          clear hcs hcb hb hk0 hk1 hkn
          obtain ⟨i0, hi0, hz0, hz1, hz2⟩ := info_parts infoStr24
          have hmm := @run_makeMap Tryz.prog
          have kb1 := balloc wk (.cells #[.slice none 0 0, .slice none 0 0] 31)
          have kb2 := balloc (wk.alloc (.cells #[.slice none 0 0, .slice none 0 0] 31)) (.map #[] 0)
          obtain ⟨bo, hbo⟩ : ∃ b, wk.heap.size = b := ⟨_, rfl⟩
          have HL5 := Lib.hid (show L5 (bo + 1 + 1) bo (bo + 1) rF bl x5 x6 rE rV from ⟨HLT.out, by rw [← hbo]; exact ArrG.lt HCS.out.wrd, Nat.lt_succ_self _, Nat.lt_succ_self _⟩)
          have HI0 := Lib.hid (show C5 ((wk.alloc (.cells #[.slice none 0 0, .slice none 0 0] 31)).alloc (.map #[] 0)) ((n1 : Int) - 1) al ws (bo + 1 + 1) bo (bo + 1) rF n1 bl x5 x6 rE rV 0 (.slice none 0 0) from ⟨(HCS.out.below kb1).below kb2, (HCB.out.below kb1).below kb2, by
           have := (BlkK.new wk #[.slice none 0 0, .slice none 0 0] 31).below kb2
           rw [hbo] at this
           exact this, OwnS.nil _ _, by
           have := MapG.made (T := tII) (wk.alloc (.cells #[.slice none 0 0, .slice none 0 0] 31))
           rw [World.size_alloc, hbo] at this
           exact this.ext fun x => (placesF_zero _ _ x).symm⟩)
          have HB7 := Lib.hid (bstep (bstep HB.out kb1) kb2)
          have HSZ7 := Lib.hid (show bo + 1 + 1 ≤ ((wk.alloc (.cells #[.slice none 0 0, .slice none 0 0] 31)).alloc (.map #[] 0)).heap.size by simp; omega)
          have HW2o := Lib.hid (show W2.heap.size ≤ bo by rw [← hbo]; exact HB.out.size)
          clear kb1 kb2
          go_wp2_with (fail)
          clear hmm hbo q1 HCS HCB HB
          generalize (wk.alloc (.cells #[.slice none 0 0, .slice none 0 0] 31)).alloc (.map #[] 0) = W7 at HI0 HB7 HSZ7 ⊢
          go_loopw [143] (fun kv wr => ∃ (k : Nat) (v : Value), k ≤ n1 ∧ kv = .int .i64 k ∧ C5 wr ((n1 : Int) - 1) al ws (bo + 1 + 1) bo (bo + 1) rF n1 bl x5 x6 rE rV k v ∧ Below W2.heap.size W2 wr ∧ bo + 1 + 1 ≤ wr.heap.size) (fun kv _ => n1 - (intOf kv).toNat)
          case atStart => exact ⟨0, _, Nat.zero_le _, rfl, HI0.out, HB7.out, HSZ7.out⟩
          case round =>
           obtain ⟨wi, rfl⟩ : ∃ wi : World, wi = wr := ⟨_, rfl⟩
           obtain ⟨k, v, hk, rfl, hI, hb, hsz⟩ := hrel
           have HI := Lib.hid hI
           have HB := Lib.hid hb
           have HSZW := Lib.hid hsz
           by_cases hkn : k < n1
           · have y0 := hI.cts.f hkn
             have i1 : (k : Int) < (n1 : Int) := by omega
             have HKN := Lib.hid hkn
             by_cases hp : Vg.pre ((n1 : Int) - 1) al (k : Int) = none
             · simp only [(HVG.out.fst_none hp).1] at y0
               have HP := Lib.hid hp
               have ekk : ((k : Int) == (k : Int)) = true := by simp
               have HWT := Lib.hid (wordsK_take hp ws n1)
               have hwl := wordsK_le ((n1 : Int) - 1) al ws n1 k
               have hrk := wordsK_len ((n1 : Int) - 1) al ws n1 k
               obtain ⟨av, cv, rfl, _⟩ := OwnS.cap hI.row (by omega)
               obtain ⟨m, hm⟩ : ∃ m, (wordsK ((n1 : Int) - 1) al ws n1 k).length = m := ⟨_, rfl⟩
               rw [hm] at hwl hrk HI
               have HM := Lib.hid hm
               have b0 := HI.out.box.cell (i := 0) (u := .slice av m cv) rfl
               obtain ⟨w5, hst, hmp, hg5⟩ := HI.out.map.store (s := (k : Int)) (v := (m : Int)) (by unfold maxLen; omega) (show I64 (k : Int) by unfold I64; omega) (show I64 (m : Int) by unfold I64; omega)
               replace hst : (Instr.mapUpdate 98 (.map (some (bo + 1))) (.int .i64 (k : Int)) (.int .i64 (m : Int))).run Tryz.prog wi = .ok () w5 := hst
               obtain ⟨t1, t2, t3, t4⟩ := HI.out.placed HL5.out hg5
               have HT1 := Lib.hid t1
               have HT2 := Lib.hid t2
               have HT3 := Lib.hid t3
               have HT4 := Lib.hid t4
               have HT5 := Lib.hid (hmp.ext (g := placesF ((n1 : Int) - 1) al (k + 1)) (fun x => by rw [hrk]; exact placesF_take hp x))
               have HB5 := Lib.hid (hb.grown hg5 hb.size (fun r hr => by cases hr; have := HW2o.out; omega))
               have hsz5 : bo + 1 + 1 ≤ w5.heap.size := by have := hg5.size; omega
               have HSZ5 := Lib.hid hsz5
               obtain ⟨u, hu⟩ : ∃ u, Vg.accW [32] ((n1 : Int) - 1) al (wsF ws) (n1 - 1) (k : Int) = u := ⟨_, rfl⟩
               have hcw := t1.w hkn
               rw [hu] at hcw HWT
               have HCW := Lib.hid hcw
               have hm8 : m ≤ 4096 := by omega
               clear hp hwl hm hmp hg5 t1 t2 t3 t4 hI hb hsz hk hkn hrk hu hcw
               go_wp2_with (fail)
               clear b0 y0 hst ekk
               have HNW := Lib.hid (show ∀ (j : Nat) (z : Value), [.string (bs u)][j]? = some z → (w5.drew.alloc (.cells #[.string (bs u)] 9)).cell? ((⟨w5.heap.size, 0, none⟩ : Addr).add j) = some z from World.news_of_block (cs := #[.string (bs u)]) (heap_fresh rfl))
               have HROW := Lib.hid (show w5.drew.ownsRow (bo + 1 + 1) 9 1 (.slice av m cv) m ((wordsK ((n1 : Int) - 1) al ws n1 k).map sv) by
                have := HT4.out.below (bdrewN w5 1)
                unfold OwnS at this
                rw [HM.out] at this
                exact this)
               refine (wpIn_wide (n := 20)).1 ?_
               refine wpIn_region_planM (fun W' => BlkK W' bo #[.slice av m cv, .slice none 0 0] 31 ∧ W'.cell? ⟨rF + 1, k, none⟩ = some (.string (bs u))) 7 (.take 0 <| .take 1 <| .take 2 <| .take 3 <| .take 4 <| .take 5 <| .one 6 <| .one 7 <| .one 8 <| .one 9 <| .fin) (fun _ => trivial) (by kernel_rfl) (by kernel_rfl) (⟨HT3.out.drew, HCW.out⟩) ?_
               apply pm_take rfl rfl (by rfl)
               case hy =>
                rintro W' hb'
                clear hb'
                go_simp
                first | done | with_reducible rfl
               simp only [List.setIfInBounds_toArray, List.set_cons_zero, List.set_cons_succ]
               apply pm_take rfl rfl (by rfl)
               case hy =>
                rintro W' hb'
                have c0 := hb'.1.cell (i := 0) (u := .slice av m cv) rfl
                have c1 := hb'.2
                clear hb'
                go_simp
                first | done | with_reducible rfl
               simp only [List.setIfInBounds_toArray, List.set_cons_zero, List.set_cons_succ]
               iterate 3
                apply pm_take rfl rfl (by rfl)
                case hy =>
                 rintro W' hb'
                 clear hb'
                 go_simp
                 first | done | with_reducible rfl
                simp only [List.setIfInBounds_toArray, List.set_cons_zero, List.set_cons_succ]
               apply pm_take rfl rfl (by rfl)
               case hy =>
                rintro W' hb'
                have c0 := hb'.1.cell (i := 0) (u := .slice av m cv) rfl
                have c1 := hb'.2
                clear hb'
                go_simp
                first | done | with_reducible rfl
               simp only [List.setIfInBounds_toArray, List.set_cons_zero, List.set_cons_succ]
               refine pm_one rfl ?_
               gi_wp2_with (fail)
               refine ⟨fun _ => ⟨HT3.out.drew.allocK _, cell_keep (balloc w5.drew _) (show w5.drew.cell? ⟨rF + 1, k, none⟩ = some (.string (bs u)) from HCW.out)⟩, ?_⟩
               refine pm_one rfl ?_
               refine wpListIn_append_own _ rfl _ _ 22 rfl (bo + 1 + 1) 9 i0 (.string { data := #[] }) 1 16 Tryz.underlying22 hi0 hz0 hz1 hz2 rfl (by decide) _ _ _ rfl (HROW.out.alloc _) ⟨w5.heap.size, 0, none⟩ 1 1 [.string (bs u)] rfl rfl HNW.out (by simp [Value.oneCell']) (by unfold maxLen; omega) (by omega) (by simp; omega) ?_
               intro v1 w9 hown1 hgrow1 _
               obtain ⟨g1, cap1, rfl⟩ := ownsRow_succ hown1
               obtain ⟨e1, e2, e3⟩ := C5.pushed (u := u) HL5.out (show bo + 1 + 1 ≤ w5.drew.heap.size from HSZ5.out) (HT1.out.below (bdrewN w5 1)) (HT2.out.below (bdrewN w5 1)) HT3.out.drew (HT4.out.below (bdrewN w5 1)) (HT5.out.below (bdrewN w5 1)) HWT.out (by rw [HM.out]; exact hown1) hgrow1
               have HE1 := Lib.hid e1
               have HE2 := Lib.hid e2
               have HE3 := Lib.hid (e3 _ HW2o.out)
               have cx := HE2.out.1.cell (i := 0) (u := .slice av m cv) rfl
               have fx := HE2.out.1.hard (i := 0)
               clear hown1 hgrow1 e1 e2 e3
               gi_wp2_with (fail)
               refine ⟨fun h => absurd h (by omega), ?_⟩
               iterate 2
                refine pm_one rfl ?_
                gi_wp2_with (fail)
                refine ⟨fun h => absurd h (by omega), ?_⟩
               refine pm_fin ?_
               gi_wp2_with (fail)
               go_wp2_with (fail)
               go_roundw
               case rel => exact ⟨k + 1, _, by have := HKN.out; omega, by simp, HE1.out, (below_drew' HB5.out).trans HE3.out, Nat.le_trans HSZ5.out HE3.out.size⟩
               case measure => have := HKN.out; simp [intOf]; omega
             · have hfk : Vg.fst ((n1 : Int) - 1) al (k : Int) ≠ (k : Int) := fun h => hp (HVG.out.fst_self.1 h)
               obtain ⟨y, hy⟩ : ∃ y, Vg.fst ((n1 : Int) - 1) al (k : Int) = y := ⟨_, rfl⟩
               simp only [hy] at y0 hfk
               have eyk : (y == (k : Int)) = false := beq_eq_false_iff_ne.2 hfk
               have HN := Lib.hid (show C5 wi ((n1 : Int) - 1) al ws (bo + 1 + 1) bo (bo + 1) rF n1 bl x5 x6 rE rV (k + 1) v from ⟨hI.cts, hI.ctb, hI.box, by rw [wordsK_skip hp]; exact hI.row, (hI.map.mono (Nat.le_succ k)).ext fun x => placesF_skip hp x⟩)
               clear hI hb hsz hk hkn hp hy hfk
               go_wp2_with (fail)
               go_roundw
               case rel => exact ⟨k + 1, v, by have := HKN.out; omega, by simp, HN.out, HB.out, HSZW.out⟩
               case measure => have := HKN.out; simp [intOf]; omega
           · obtain rfl : n1 = k := by omega
             have HWK := Lib.hid (wordsK_le ((n1 : Int) - 1) al ws n1 n1)
             obtain ⟨bE, hbE⟩ : ∃ b, wi.heap.size = b := ⟨_, rfl⟩
             have kb1 := balloc wi (.map #[] 0)
             have hmm := @run_makeMap Tryz.prog
             have k1 := (HX2.out.below (bstep HB.out kb1)).k1
             have HM0 := Lib.hid (show Grp tEn 3 (wi.alloc (.map #[] 0)) bE bE 0 (grpE (entC ((n1 : Int) - 1) al (al.take 0))) by rw [← hbE]; exact Grp.made (T := tEn) wi)
             have HB8 := Lib.hid (show Below wi.heap.size wi (wi.alloc (.map #[] 0)) from kb1)
             have HBE := Lib.hid hbE
             clear kb1 hI hb hsz hk hkn
             go_wp2_with (fail)
             clear hmm k1 hbE
             generalize wi.alloc (.map #[] 0) = W9 at HM0 HB8 ⊢
             go_loopw [171] (fun iv wr => ∃ i : Nat, i ≤ n2 ∧ iv = .int .i64 i ∧ (∃ m, m ≤ i ∧ Grp tEn 3 wr bE bE m (grpE (entC ((n1 : Int) - 1) al (al.take i)))) ∧ Below wi.heap.size wi wr) (fun iv _ => n2 - (intOf iv).toNat)
             case atStart => exact ⟨0, Nat.zero_le _, rfl, ⟨0, Nat.le_refl _, HM0.out⟩, HB8.out⟩
             case round =>
              obtain ⟨wj, rfl⟩ : ∃ wj : World, wj = wr := ⟨_, rfl⟩
              obtain ⟨i, hi, rfl, ⟨m, hmi, hg⟩, hb⟩ := hrel
              by_cases hin : i < n2
              · have hbb := bstep HB.out hb
                obtain ⟨x, b, off, a5, k5, hx, rfl, p0, p1, p2, hsrc⟩ := HG2.out.arcs.at hin
                obtain ⟨r1, r2, r3⟩ := HVG.out.rng _ (List.mem_of_getElem? hx)
                obtain ⟨⟨f0, t0⟩, src⟩ := x
                simp only at p0 p1 p2 r1 r2 r3
                have HAS := Lib.hid (allS_at hx)
                have hpos : 0 < src.length := List.length_pos_iff.2 (HVG.out.src _ (List.mem_of_getElem? hx)).2
                have hsi := hsrc.src
                obtain ⟨_, bs5, os5, _, _, rfl, _, _⟩ := Sl.at hsi hpos
                have HCL := Lib.hid (show ∀ j y, src[j]? = some y → W2.cell? ⟨bs5, os5 + j, none⟩ = some (.int .i64 y) from fun j y hj => by
                 have hjl := (List.getElem?_eq_some_iff.1 hj).1
                 obtain ⟨y', b6, o6, v6, hy, he, hc, hv, _⟩ := Sl.at hsi hjl
                 cases he
                 rw [hj] at hy
                 cases hy
                 rw [hv] at hc
                 exact hc)
                have HWF := Lib.hid (show ∀ y ∈ src, I64 y from hsi.wf)
                have HNE := Lib.hid (show src ≠ [] from (HVG.out.src _ (List.mem_of_getElem? hx)).2)
                have HBEX := Lib.hid hg.lt
                obtain ⟨m5, hm5⟩ : ∃ m, src.length = m := ⟨_, rfl⟩
                have HM5 := Lib.hid hm5
                rw [hm5] at p2
                clear hpos hsi hm5
                obtain ⟨f, rfl⟩ : ∃ f : Nat, f0 = f := ⟨f0.toNat, by omega⟩
                obtain ⟨t, rfl⟩ : ∃ t : Nat, t0 = t := ⟨t0.toNat, by omega⟩
                have HIN := Lib.hid hin
                have i1 : (i : Int) < (n2 : Int) := by omega
                have HTK := Lib.hid (show al.take (i + 1) = al.take i ++ [(((f : Int), (t : Int)), src)] by rw [List.take_add_one, hx]; rfl)
                have q0 := cell_keep hbb p0
                have q3 := cell_keep hbb p1
                have q2 := cell_keep hbb p2
                obtain ⟨X, hX⟩ : ∃ X, wj.heap.size = X := ⟨_, rfl⟩
                have kb := balloc wj (.cells #[.int .i64 (f : Int), .int .i64 (t : Int), .slice (some ⟨bs5, os5, none⟩) m5 k5] 48)
                have hK := BlkK.new wj #[.int .i64 (f : Int), .int .i64 (t : Int), .slice (some ⟨bs5, os5, none⟩) m5 k5] 48
                rw [hX] at hK
                have HB2 := Lib.hid (bstep hb kb)
                have HG3 := Lib.hid (hg.below kb)
                obtain ⟨WA, hWA⟩ : ∃ W, wj.alloc (.cells #[.int .i64 (f : Int), .int .i64 (t : Int), .slice (some ⟨bs5, os5, none⟩) m5 k5] 48) = W := ⟨_, rfl⟩
                rw [hWA] at hK HB2 HG3
                have HK := Lib.hid hK
                have z0 : WA.cell? ⟨X, 0, none⟩ = some (.int .i64 (f : Int)) := hK.cell (i := 0) rfl
                have z1 : WA.cell? ⟨X, 1, none⟩ = some (.int .i64 (t : Int)) := hK.cell (i := 1) rfl
                have z2 : WA.cell? ⟨X, 2, none⟩ = some (.slice (some ⟨bs5, os5, none⟩) m5 k5) := hK.cell (i := 2) rfl
                have HFN := Lib.hid (show f < n1 by omega)
                have HTN := Lib.hid (show t < n1 by omega)
                have hsp := simpleP f t (.slice (some ⟨bs5, os5, none⟩) m5 k5) bl x5 x6 rE rV n1 al WA (HI.out.ctb.below HB2.out) HFN.out HTN.out
                by_cases hsm : Vg.Simp ((n1 : Int) - 1) al (((f : Int), (t : Int)), src)
                · rw [show decide (0 < (f : Int) ∧ (t : Int) < (n1 : Int) - 1 ∧ Vg.lvE al f = 1 ∧ Vg.enE al t = 1) = true from decide_eq_true hsm] at hsp
                  have HSP := Lib.hid hsp
                  have HEN := Lib.hid (entC_snoc_simp (l := al.take i) hsm)
                  have HMI := Lib.hid hmi
                  clear hsm hsp hx p0 p1 p2 r1 r2 r3 hsrc hb hbb hg kb hK hi hmi
                  go_wp2_with (fail)
                  refine HSP.out.mono ?_
                  rintro e W8 ⟨rfl, hb8⟩
                  have HB5 := Lib.hid (bstep HB2.out hb8)
                  have HG5 := Lib.hid (HG3.out.below hb8)
                  clear hb8
                  go_wp2_with (fail)
                  go_roundw
                  case rel => exact ⟨i + 1, by have := HIN.out; omega, by simp, ⟨m, by have := HMI.out; omega, by rw [HTK.out, HEN.out]; exact HG5.out⟩, HB5.out⟩
                  case measure => have := HIN.out; simp [intOf]; omega
                · rw [show decide (0 < (f : Int) ∧ (t : Int) < (n1 : Int) - 1 ∧ Vg.lvE al f = 1 ∧ Vg.enE al t = 1) = false from decide_eq_false hsm] at hsp
                  have HSP := Lib.hid hsp
                  have HEN := Lib.hid (entC_snoc (l := al.take i) hsm)
                  have HMI := Lib.hid hmi
                  have HX := Lib.hid hx
                  have key : ∀ q : Nat, q < n1 → ∃ y : Nat, Vg.fst ((n1 : Int) - 1) al q = (y : Int) ∧ y < n1 ∧ placesF ((n1 : Int) - 1) al n1 (y : Int) = some (Vg.num ((n1 : Int) - 1) al q) := fun q hq => by
                   obtain ⟨l1, l2, _⟩ := HVG.out.fst_le _ (q : Int) rfl
                   have l3 := HVG.out.fst_nn (Int.natCast_nonneg q)
                   refine ⟨_, (Int.toNat_of_nonneg l3).symm, by omega, ?_⟩
                   rw [Int.toNat_of_nonneg l3]
                   exact if_pos ⟨l3, by omega, l2⟩
                  obtain ⟨y, hy1, hy2, hy3⟩ := key f HFN.out
                  obtain ⟨z, hz1', hz2', hz3⟩ := key t HTN.out
                  obtain ⟨nf, hnf⟩ : ∃ q, Vg.num ((n1 : Int) - 1) al (f : Int) = q := ⟨_, rfl⟩
                  obtain ⟨nt, hnt⟩ : ∃ q, Vg.num ((n1 : Int) - 1) al (t : Int) = q := ⟨_, rfl⟩
                  have HNF := Lib.hid hnf
                  have HNT := Lib.hid hnt
                  have HNFI := Lib.hid (show I64 nf by
                   have := num_rng al (f : Int) (m := (n1 : Int)) (by rw [hy1]; omega) (by omega)
                   rw [hnf] at this
                   unfold I64
                   omega)
                  have HNTI := Lib.hid (show I64 nt by
                   have := num_rng al (t : Int) (m := (n1 : Int)) (by rw [hz1']; omega) (by omega)
                   rw [hnt] at this
                   unfold I64
                   omega)
                  rw [hnf] at hy3
                  rw [hnt] at hz3
                  have HY1 := Lib.hid hy1
                  have HZ1 := Lib.hid hz1'
                  have HY3 := Lib.hid hy3
                  have HZ3 := Lib.hid hz3
                  have j1 : (f : Int) < (n1 : Int) := by omega
                  have j2 : (t : Int) < (n1 : Int) := by omega
                  have HI64 := Lib.hid (show I64 (y : Int) ∧ I64 (z : Int) from ⟨by unfold I64; omega, by unfold I64; omega⟩)
                  clear hsm hsp hx p0 p1 p2 r1 r2 r3 hsrc hb hbb hg kb hK hi hmi key hy1 hy2 hy3 hz1' hz2' hz3 hnf hnt
                  go_wp2_with (fail)
                  refine HSP.out.mono ?_
                  rintro e W8 ⟨rfl, hb8⟩
                  have HB5 := Lib.hid (bstep HB2.out hb8)
                  have HG5 := Lib.hid (HG3.out.below hb8)
                  have HK8 := Lib.hid (HK.out.below hb8)
                  have HI8 := Lib.hid (HI.out.below HB5.out)
                  have HXB := Lib.hid (show bE < X by rw [← hX]; exact HBEX.out)
                  clear hb8 hX z0 z1 z2
                  go_wp2_with (fail)
                  refine (wpIn_wide (n := 20)).1 ?_
                  refine wpIn_region_planM (fun W' => Below W8.heap.size W8 W') 16 (.take 0 <| .take 1 <| .take 2 <| .take 3 <| .take 4 <| .take 5 <| .take 6 <| .take 7 <| .take 8 <| .take 9 <| .take 10 <| .take 11 <| .take 12 <| .take 13 <| .take 14 <| .one 15 <| .one 16 <| .fin) (fun _ => trivial) (by kernel_rfl) (by kernel_rfl) (bdrewN W8 1) ?_
                  iterate 3
                   apply pm_take rfl rfl (by rfl)
                   case hy =>
                    rintro W' hb'
                    clear hb'
                    go_simp
                    first | done | with_reducible rfl
                   simp only [List.setIfInBounds_toArray, List.set_cons_zero, List.set_cons_succ]
                  apply pm_take rfl rfl (by rfl)
                  case hy =>
                   rintro W' hb'
                   have c0 : W'.cell? ⟨X, 0, none⟩ = some (.int .i64 (f : Int)) := (HK8.out.below hb').cell (i := 0) rfl
                   have c1 : W'.cell? ⟨X, 1, none⟩ = some (.int .i64 (t : Int)) := (HK8.out.below hb').cell (i := 1) rfl
                   have c2 := (HI8.out.cts.below hb').f HFN.out
                   have c3 := (HI8.out.cts.below hb').f HTN.out
                   simp only [HY1.out] at c2
                   simp only [HZ1.out] at c3
                   clear hb'
                   go_simp
                   first | done | with_reducible rfl
                  simp only [List.setIfInBounds_toArray, List.set_cons_zero, List.set_cons_succ]
                  apply pm_take rfl rfl (by rfl)
                  case hy =>
                   rintro W' hb'
                   clear hb'
                   go_simp
                   first | done | with_reducible rfl
                  simp only [List.setIfInBounds_toArray, List.set_cons_zero, List.set_cons_succ]
                  apply pm_take rfl rfl (by rfl)
                  case hy =>
                   rintro W' hb'
                   have c0 : W'.cell? ⟨X, 0, none⟩ = some (.int .i64 (f : Int)) := (HK8.out.below hb').cell (i := 0) rfl
                   have c1 : W'.cell? ⟨X, 1, none⟩ = some (.int .i64 (t : Int)) := (HK8.out.below hb').cell (i := 1) rfl
                   have c2 := (HI8.out.cts.below hb').f HFN.out
                   have c3 := (HI8.out.cts.below hb').f HTN.out
                   simp only [HY1.out] at c2
                   simp only [HZ1.out] at c3
                   clear hb'
                   go_simp
                   first | done | with_reducible rfl
                  simp only [List.setIfInBounds_toArray, List.set_cons_zero, List.set_cons_succ]
                  apply pm_take rfl rfl (by rfl)
                  case hy =>
                   rintro W' hb'
                   have e1 : (Instr.lookup 98 (.map (some (bo + 1))) (.int .i64 (y : Int)) false).run Tryz.prog W' = .ok (.int .i64 nf) W' := by
                    have := (HI8.out.map.below hb').look (s := (y : Int)) HI64.out.1
                    rw [HY3.out] at this
                    exact this
                   clear hb'
                   go_simp
                   first | done | with_reducible rfl
                  simp only [List.setIfInBounds_toArray, List.set_cons_zero, List.set_cons_succ]
                  iterate 3
                   apply pm_take rfl rfl (by rfl)
                   case hy =>
                    rintro W' hb'
                    clear hb'
                    go_simp
                    first | done | with_reducible rfl
                   simp only [List.setIfInBounds_toArray, List.set_cons_zero, List.set_cons_succ]
                  apply pm_take rfl rfl (by rfl)
                  case hy =>
                   rintro W' hb'
                   have c0 : W'.cell? ⟨X, 0, none⟩ = some (.int .i64 (f : Int)) := (HK8.out.below hb').cell (i := 0) rfl
                   have c1 : W'.cell? ⟨X, 1, none⟩ = some (.int .i64 (t : Int)) := (HK8.out.below hb').cell (i := 1) rfl
                   have c2 := (HI8.out.cts.below hb').f HFN.out
                   have c3 := (HI8.out.cts.below hb').f HTN.out
                   simp only [HY1.out] at c2
                   simp only [HZ1.out] at c3
                   clear hb'
                   go_simp
                   first | done | with_reducible rfl
                  simp only [List.setIfInBounds_toArray, List.set_cons_zero, List.set_cons_succ]
                  apply pm_take rfl rfl (by rfl)
                  case hy =>
                   rintro W' hb'
                   clear hb'
                   go_simp
                   first | done | with_reducible rfl
                  simp only [List.setIfInBounds_toArray, List.set_cons_zero, List.set_cons_succ]
                  apply pm_take rfl rfl (by rfl)
                  case hy =>
                   rintro W' hb'
                   have c0 : W'.cell? ⟨X, 0, none⟩ = some (.int .i64 (f : Int)) := (HK8.out.below hb').cell (i := 0) rfl
                   have c1 : W'.cell? ⟨X, 1, none⟩ = some (.int .i64 (t : Int)) := (HK8.out.below hb').cell (i := 1) rfl
                   have c2 := (HI8.out.cts.below hb').f HFN.out
                   have c3 := (HI8.out.cts.below hb').f HTN.out
                   simp only [HY1.out] at c2
                   simp only [HZ1.out] at c3
                   clear hb'
                   go_simp
                   first | done | with_reducible rfl
                  simp only [List.setIfInBounds_toArray, List.set_cons_zero, List.set_cons_succ]
                  apply pm_take rfl rfl (by rfl)
                  case hy =>
                   rintro W' hb'
                   have e2 : (Instr.lookup 98 (.map (some (bo + 1))) (.int .i64 (z : Int)) false).run Tryz.prog W' = .ok (.int .i64 nt) W' := by
                    have := (HI8.out.map.below hb').look (s := (z : Int)) HI64.out.2
                    rw [HZ3.out] at this
                    exact this
                   clear hb'
                   go_simp
                   first | done | with_reducible rfl
                  simp only [List.setIfInBounds_toArray, List.set_cons_zero, List.set_cons_succ]
                  apply pm_take rfl rfl (by rfl)
                  case hy =>
                   rintro W' hb'
                   clear hb'
                   go_simp
                   first | done | with_reducible rfl
                  simp only [List.setIfInBounds_toArray, List.set_cons_zero, List.set_cons_succ]
                  refine pm_one rfl ?_
                  gi_wp2_with (fail)
                  refine ⟨fun _ => bstep (bdrewN W8 1) (balloc _ _), ?_⟩
                  refine pm_one rfl ?_
                  gi_wp2_with (fail)
                  refine ⟨fun h => absurd h (by omega), ?_⟩
                  refine pm_fin ?_
                  gi_wp2_with (fail)
                  have kbx : Below W8.heap.size W8 (W8.alloc (.cells #[.int .i64 nf, .int .i64 nt] 75)).drew := below_drew' (balloc W8 _)
                  have hV := (BlkK.new W8 #[.int .i64 nf, .int .i64 nt] 75).drew
                  have HG6 := Lib.hid (HG5.out.below kbx)
                  have HB6 := Lib.hid (bstep HB5.out kbx)
                  have HK6 := Lib.hid (HK8.out.below kbx)
                  obtain ⟨V, hVe⟩ : ∃ V, W8.heap.size = V := ⟨_, rfl⟩
                  rw [hVe] at hV ⊢
                  clear hVe kbx
                  generalize (W8.alloc (.cells #[.int .i64 nf, .int .i64 nt] 75)).drew = W10 at hV HG6 HB6 HK6 ⊢
                  have v0 := hV.cell (i := 0) (u := .int .i64 nf) rfl
                  have v1 := hV.cell (i := 1) (u := .int .i64 nt) rfl
                  clear hV
                  obtain ⟨es, hes⟩ : ∃ es, entC ((n1 : Int) - 1) al (al.take i) = es := ⟨_, rfl⟩
                  have hel : es.length + m5 ≤ 1000000 := by
                   have h1 := entC_len ((n1 : Int) - 1) al (al.take i)
                   have h2 := HAS.out
                   have h3 := HSZ.out
                   rw [hes] at h1
                   simp only [HM5.out] at h2
                   omega
                  have HES := Lib.hid (show entC ((n1 : Int) - 1) al (al.take (i + 1)) = es ++ src.map fun x => ((nf, nt), x) by
                   rw [HTK.out, HEN.out, hes]
                   simp only [Vg.mapE, HNF.out, HNT.out])
                  rw [hes] at HG6
                  obtain ⟨u, wa, st, hme, hou, hba, hga, hst⟩ := grpEntry HG6.out (x := nf) (y := nt) HNFI.out HNTI.out (by have := HMI.out; have := HIN.out; omega)
                  have v2 := HK6.out.cell (i := 2) (u := .slice (some ⟨bs5, os5, none⟩) m5 k5) rfl
                  have v2a := cell_off v2 hga (by have := HXB.out; omega)
                  have HOU := Lib.hid hou
                  have HST := Lib.hid hst
                  have HXX := Lib.hid (show bE ≤ wa.heap.size by have := HG6.out.lt; have := hga.size; omega)
                  have HCA := Lib.hid (show ∀ j y, src[j]? = some y → wa.cell? ⟨bs5, os5 + j, none⟩ = some (.int .i64 y) from fun j y hj => cell_keep (((HB.out.trans (HB6.out.mono HB.out.size)).trans (hba.mono (by rw [← HBE.out]; exact HB.out.size)))) (HCL.out j y hj))
                  have HGN := Lib.hid (show (grpE es (nf, nt)).length + m5 ≤ 8388608 by have := grpE_len es (nf, nt); omega)
                  have HNN := Lib.hid (show grpE es (nf, nt) ++ src ≠ [] from fun e => HNE.out (List.append_eq_nil_iff.1 e).2)
                  clear hes hel hou hba hga hst
                  obtain ⟨i9, hi9, hy0, hy1, hy2⟩ := info_parts infoI24
                  go_wp2_with (at_builtin; refine wpList_append_ints_at rfl _ _ 44 3 rfl bE i9 Tryz.underlying44 hi9 hy0 hy1 hy2 u _ rfl HOU.out bs5 os5 m5 k5 src rfl HM5.out HCA.out HWF.out HGN.out HXX.out ?_; intro v' w9 hv' hgr' hat; obtain ⟨w10, hes', hG10, hB10⟩ := HST.out w9 v' _ hgr' hv' HNN.out hat; have HG10 := Lib.hid hG10; have HB10 := Lib.hid hB10; clear hv' hgr' hat hG10 hB10)
                  go_roundw
                  case rel => exact ⟨i + 1, by have := HIN.out; omega, by simp, ⟨m + 1, by have := HMI.out; omega, by rw [HES.out, ← grpE_add]; exact HG10.out⟩, HB6.out.trans (by rw [HBE.out]; exact HB10.out)⟩
                  case measure => have := HIN.out; simp [intOf]; omega
              · obtain rfl : n2 = i := by omega
                rw [List.take_of_length_le (by rw [HL2.out]; exact Nat.le_refl _)] at hg
                have hlt := hg.lt
                obtain ⟨av, cv, rfl, _⟩ := OwnS.cap HI.out.row (by have := HWK.out; omega)
                obtain ⟨mv, hmv⟩ : ∃ q, (wordsK ((n1 : Int) - 1) al ws n1 n1).length = q := ⟨_, rfl⟩
                rw [hmv] at HI HWK
                have HMV := Lib.hid hmv
                have HAR := Lib.hid (arcsP bE bE m (grpE (entC ((n1 : Int) - 1) al al)) wj hg (Nat.le_of_lt hlt) (by omega) (fun s => Nat.le_trans (grpE_len _ _) (Nat.le_trans (entC_len _ _ _) HSZ.out)) (entC ((n1 : Int) - 1) al al) (fun h m => grpE_mem) (entC_i64 HVG.out (by omega)))
                have HBJ := Lib.hid hb
                have b0 := HI.out.box
                have HBB6 := Lib.hid (HI.out.box.below hb)
                clear hg hb hi hin hlt hmv b0
                go_wp2_with (fail)
                refine HAR.out.mono ?_
                rintro e W9 ⟨⟨u, rfl, a9, c9, rfl, hau, _⟩, hb9⟩
                obtain ⟨ls, hls⟩ : ∃ l, Vg.idxE (entC ((n1 : Int) - 1) al al) = l := ⟨_, rfl⟩
                rw [hls] at hau ⊢
                have HLS := Lib.hid (show Vg.Contr ((n1 : Int) - 1) al ls by rw [← hls]; exact contr_idx _ _)
                have HAU := Lib.hid hau
                have hbw : Below wi.heap.size wi W9 := HBJ.out.trans (by rw [HBE.out]; exact hb9)
                have HW9 := Lib.hid (OwnS.below HI.out.row hbw)
                have HBO := Lib.hid (HI.out.box.below hbw)
                have HB9 := Lib.hid (HB.out.trans (hbw.mono HB.out.size))
                have HRS := Lib.hid (HR2.out.below HB9.out)
                have hne : w.heap.size + 1 ≠ bo := by have h1 := HR2.out.lt; have h2 := HW2o.out; omega
                have HNE := Lib.hid hne
                obtain ⟨m9, hm9⟩ : ∃ q, ls.length = q := ⟨_, rfl⟩
                rw [hm9] at HAU ⊢
                have o1 := HBO.out.cell (i := 1) rfl
                have f1 := HBO.out.hard (i := 1)
                have p0 : (W9.setCell ⟨bo, 1, none⟩ (.slice a9 m9 c9)).cell? ⟨bo, 0, none⟩ = some (.slice av mv cv) := (BlkK.put (i := 1) (v := .slice a9 m9 c9) HBO.out).cell (i := 0) rfl
                have p1 : (W9.setCell ⟨bo, 1, none⟩ (.slice a9 m9 c9)).cell? ⟨bo, 1, none⟩ = some (.slice a9 m9 c9) := (BlkK.put (i := 1) (v := .slice a9 m9 c9) HBO.out).cell (i := 1) rfl
                have HR9 := Lib.hid (show BlkK (W9.setCell ⟨bo, 1, none⟩ (.slice a9 m9 c9)) (w.heap.size + 1) #[.slice none 0 0, .slice none 0 0] 31 from BlkK.oth HRS.out hne)
                have s0 := HR9.out.cell (i := 0) rfl
                have s1 := HR9.out.cell (i := 1) rfl
                have t0 := HR9.out.hard (i := 0)
                have t1 := HR9.out.hard (i := 1)
                clear hau hb9 hls hbw hne hm9
                go_wp2_with (fail)
                clear o1 f1 p0 p1 s0 s1 t0 t1
                obtain ⟨WS, hWS, hbs, hgs⟩ := store2 HR9.out (.slice av mv cv) (.slice a9 m9 c9)
                obtain ⟨W10, hW10, hb10, hg10⟩ := store1 HBO.out (.slice a9 m9 c9)
                rw [← hWS]
                rw [← hW10] at hgs HR9
                have r0 := hbs.cell (i := 0) rfl
                have r1 := hbs.cell (i := 1) rfl
                refine bodyPost_ret (v := .tuple #[.agg #[.slice av mv cv, .slice a9 m9 c9], .int .i64 0]) ?hres rfl ?_
                case hres => simp [results, Tryz.f32, go_sem, r0, r1]
                have hlt := HR2.out.lt
                have hlo := HW2o.out
                have hws : OwnS WS (bo + 1 + 1) (.slice av mv cv) (wordsK ((n1 : Int) - 1) al ws n1 n1) := own_off (own_off HW9.out hg10 (by omega)) hgs (by omega)
                obtain ⟨a8, c8, he8, hst8⟩ := hws.strs (by rw [HMV.out]; have := HWK.out; omega)
                rw [HMV.out] at he8 hst8
                cases he8
                have hsz9 := HB9.out.size
                exact ⟨_, _, _, _, _, _, ls, rfl, ⟨by rw [HL1.out]; exact hst8, (HAU.out.off2 HBO.out hg10).off2 HR9.out hgs⟩, by rw [HL1.out]; exact HLS.out,
                 ((HB2.out.trans (HB9.out.mono HB2.out.size)).grown hg10 (by have := HB2.out.size; omega) fun k hk => by cases hk; have := HB2.out.size; omega).grown hgs (by have := HB2.out.size; have := hg10.size; omega) fun k hk => by cases hk; omega⟩
end Go.Proofs.YtjmebijckcimoaaGreatDoor
