/-
  The example of the chapter.
-/
import Derived.Test.YtjmebijckcimoaaGreatDoorSa24
import Derived.Test.YtjmebijckcimoaaGreatDoorBd24
import Derived.Test.YtjmebijckcimoaaGreatDoorCx24
import Derived.Test.YtjmebijckcimoaaGreatDoorSg24
import Derived.Test.YtjmebijckcimoaaGreatDoorEq
import Derived.Test.YtjmebijckcimoaaGreatDoorGo24
namespace Go.Proofs.YtjmebijckcimoaaGreatDoor
open Go.RowKit Go.Ap Go.Shelf Go.Proofs

theorem max5 (P : Program) (w : World) (ts : Array TypeId) (t : TypeId) : (Builtin.max_ ts t #[.int .i64 0, .int .i64 0, .int .i64 0, .int .i64 0, .int .i64 0]).run P w = .ok (.int .i64 0) w := by simp [Builtin.max_, Builtin.max2]
attribute [local go_sem] Oper.semAt_some bs_toList empty_toList bs_size bs_extract max5
theorem exC_ok : collC exC = 0 := by decide +kernel
theorem exA_ok : collC exA = 0 := by decide +kernel
def exW : List Str := [[], [100, 101, 117, 115], [101, 115, 116], [98, 111, 110, 117, 115], []]
def exG : List Vg.Arc := [((0, 1), [0, 1]), ((1, 2), [0]), ((1, 3), [1]), ((2, 3), [0]), ((3, 4), [0, 1])]
def exW2 : List Str := [[], [100, 101, 117, 115], [101, 115, 116], []]
def exG2 : List Vg.Arc := [((0, 1), [0]), ((1, 2), [0]), ((2, 3), [0])]
theorem exC_w : Vg.wordsL [] (optC exC) = exW := by decide +kernel
theorem exC_g : Vg.arcsG (optC exC) 2 = exG := by decide +kernel
theorem exA_w : Vg.wordsL [] (optC exA) = exW2 := by decide +kernel
theorem exA_g : Vg.arcsG (optC exA) 1 = exG2 := by decide +kernel
theorem exG_chk : Vg.chkG exW exG = 0 := by rw [← exC_w, ← exC_g]; exact graph_ok (val_of exC_ok) (by decide)
theorem exG2_chk : Vg.chkG exW2 exG2 = 0 := by rw [← exA_w, ← exA_g]; exact graph_ok (val_of exA_ok) (by decide)
theorem exG_paths : Vg.pathsN 1073741824 ((exW.length : Int) - 1) exG = 2 := by decide +kernel
theorem exG_spell : Vg.spellW exW exG 1 = [[100, 101, 117, 115], [98, 111, 110, 117, 115]] := by decide +kernel
theorem exG_src : (1 : Int) ∈ srcC exG := ((srcC_all exG).all 1).2 ⟨((0, 1), [0, 1]), by simp [exG], by simp⟩
theorem exG2_contr : Vg.contrW [32] ((exW2.length : Int) - 1) exG2 (fun k => exW2.getD k.toNat []) exW2.length = [[], [100, 101, 117, 115, 32, 101, 115, 116], []] := by decide +kernel
theorem exG2_lim (k : Nat) (x : Int) : (Vg.accW [32] ((exW2.length : Int) - 1) exG2 (fun k => exW2.getD k.toNat []) k x).length ≤ 65536 :=
  Nat.le_trans (accW_small (n := 4) (m := 5) (by decide) (by decide) k x) (by omega)
theorem sizes24 : (allS exG).length ≤ 1000000 ∧ (allS exG2).length ≤ 1000000 := by decide +kernel
set_option maxRecDepth 100000 in
set_option maxHeartbeats 8000000 in
theorem awake12 (w : World) (hev : EV w) : Calls Tryz.prog 12 #[] w fun e w' => e = .returned (.bool true) ∧ Below w.heap.size w w' := by
  have HT := Lib.hid (fun s W => token40 s W)
  unfold wordV at HT
  have HSM := Lib.hid (sampleP w)
  have HEV := Lib.hid hev
  clear hev
  go_enter Tryz.func12, Tryz.ntmps12
  go_wp2_with (fail)
  refine HSM.out.mono ?_
  rintro e w1 ⟨a1, a2, a3, rfl, hC, hb1⟩
  have HB1 := Lib.hid hb1
  have hbu := buildOk exC a1 2 2 a2 2 2 a3 3 3 w1 hC (by omega) (HEV.out.mono (Nat.le_refl _) hb1) exC_ok (by omega)
  rw [exC_w, exC_g] at hbu
  have HBU := Lib.hid hbu
  clear hb1 hbu hC
  go_wp2_with (fail)
  refine HBU.out.mono ?_
  rintro e w2 ⟨b1, m1, k1, b2, m2, k2, rfl, hg2, hb2⟩
  obtain rfl : m1 = 5 := by have := hg2.words.len; simpa [exW] using this.symm
  obtain rfl : m2 = 5 := by have := hg2.arcs.len; simpa [exG] using this.symm
  obtain ⟨bg, hbg⟩ : ∃ b, w2.heap.size = b := ⟨_, rfl⟩
  have kb := balloc w2 (.cells #[.slice b1 5 k1, .slice b2 5 k2] 31)
  have hK := BoxG.new w2 b1 5 k1 b2 5 k2
  rw [hbg] at hK
  have HB2 := Lib.hid (bstep (bstep HB1.out hb2) kb)
  have HG2 := Lib.hid (hg2.mono (Nat.le_refl _) kb)
  obtain ⟨W2, hW2⟩ : ∃ W, w2.alloc (.cells #[.slice b1 5 k1, .slice b2 5 k2] 31) = W := ⟨_, rfl⟩
  rw [hW2] at hK HB2 HG2
  have HX2 := Lib.hid hK
  obtain ⟨k0, k1'⟩ := hK
  have hpa := pathsOk exW exG b1 5 k1 b2 5 k2 W2 HG2.out (by omega) (by omega) exG_chk
  rw [exG_paths] at hpa
  have HPA := Lib.hid hpa
  clear hb2 hg2 kb hpa
  unfold graphV
  go_wp2_with (fail)
  refine HPA.out.mono ?_
  rintro e w3 ⟨rfl, hb3⟩
  have HB3 := Lib.hid (bstep HB2.out hb3)
  have HG3 := Lib.hid (HG2.out.mono (Nat.le_refl _) hb3)
  have HX3 := Lib.hid (HX2.out.below hb3)
  clear k0 k1' hb3 hW2
  obtain ⟨k0, k1'⟩ := HX3.out
  have hsp := callsIn_wide.1 (spellOk exW exG b1 5 k1 b2 5 k2 1 w3 HG3.out (by omega) (by omega) sizes24.1 exG_chk exG_src)
  rw [exG_spell] at hsp
  have HSP := Lib.hid hsp
  clear hsp
  go_wp2_with (fail)
  refine HSP.out.mono ?_
  rintro e w4 ⟨v4, rfl, hv4, hb4⟩
  obtain ⟨av, cv, rfl, hst⟩ := hv4.strs (by simp)
  have HB4 := Lib.hid (bstep HB3.out hb4)
  have HG4 := Lib.hid (HG3.out.mono (Nat.le_refl _) hb4)
  have HX4 := Lib.hid (HX3.out.below hb4)
  have HS4 := Lib.hid hst
  clear k0 k1' hb4 hv4 hst
  go_wp2_with (fail)
  have kA := balloc w4 (.cells #[.string { data := #[65] }] 9)
  have hA := BlkK.new w4 #[.string { data := #[65] }] 9
  obtain ⟨q4, hq4⟩ : ∃ q, w4.heap.size = q := ⟨_, rfl⟩
  obtain ⟨WA, hWA⟩ : ∃ W, w4.alloc (.cells #[.string { data := #[65] }] 9) = W := ⟨_, rfl⟩
  have HBA := Lib.hid (show Below w4.heap.size w4 (w4.alloc (.cells #[.string { data := #[65] }] 9)) from kA)
  rw [hWA] at hA HBA
  rw [hq4] at hA
  have HA := Lib.hid hA
  clear kA hA
  try rw [hWA]
  refine (HT.out [100, 101, 117, 115] _).mono ?_
  rintro e w5 ⟨rfl, hb5⟩
  go_wp2_with (fail)
  refine (HT.out [101, 115, 116] _).mono ?_
  rintro e w6 ⟨rfl, hb6⟩
  have hb56 := bstep hb5 hb6
  have HB6 := Lib.hid (bstep HBA.out hb56)
  have HA6 := Lib.hid (HA.out.below hb56)
  clear hb5 hb6 hb56 hWA hq4
  go_wp2_with (fail)
  obtain ⟨WE, hWE⟩ : ∃ WE, allocs w6 [(.cells #[.string (bs [100, 101, 117, 115]), .string (bs [100, 101, 117, 115]), .string { data := #[] }, .int .i64 0, .int .i64 0, .string { data := #[] }, .string (bs [101, 115, 116]), .string (bs [101, 115, 116]), .string { data := #[] }, .int .i64 0, .int .i64 0, .string { data := #[] }] 65), (.cells #[.slice (some ⟨w6.heap.size, 0, none⟩) 2 2] 67), (.cells #[.int .i64 0] 3), (.cells #[.int .i64 1] 3), (.cells #[.slice (some ⟨w6.heap.size + 1 + 1, 0, none⟩) 1 1, .slice (some ⟨w6.heap.size + 1 + 1 + 1, 0, none⟩) 1 1] 44), (.cells #[.string { data := #[97] }, .slice (some ⟨q4, 0, none⟩) 1 1, .slice (some ⟨w6.heap.size + 1, 0, none⟩) 1 1, .slice (some ⟨w6.heap.size + 1 + 1 + 1 + 1, 0, none⟩) 2 2] 26)] = WE := ⟨_, rfl⟩
  have hcv : ((((((w6.alloc (.cells #[.string (bs [100, 101, 117, 115]), .string (bs [100, 101, 117, 115]), .string { data := #[] }, .int .i64 0, .int .i64 0, .string { data := #[] }, .string (bs [101, 115, 116]), .string (bs [101, 115, 116]), .string { data := #[] }, .int .i64 0, .int .i64 0, .string { data := #[] }] 65)).alloc (.cells #[.slice (some ⟨w6.heap.size, 0, none⟩) 2 2] 67)).alloc (.cells #[.int .i64 0] 3)).alloc (.cells #[.int .i64 1] 3)).alloc (.cells #[.slice (some ⟨w6.heap.size + 1 + 1, 0, none⟩) 1 1, .slice (some ⟨w6.heap.size + 1 + 1 + 1, 0, none⟩) 1 1] 44)).alloc (.cells #[.string { data := #[97] }, .slice (some ⟨q4, 0, none⟩) 1 1, .slice (some ⟨w6.heap.size + 1, 0, none⟩) 1 1, .slice (some ⟨w6.heap.size + 1 + 1 + 1 + 1, 0, none⟩) 2 2] 26)) = WE := hWE
  have hbe : Below w6.heap.size w6 WE := by rw [← hWE]; exact allocs_below _ _
  have g0 : BlkK WE (w6.heap.size) #[.string (bs [100, 101, 117, 115]), .string (bs [100, 101, 117, 115]), .string { data := #[] }, .int .i64 0, .int .i64 0, .string { data := #[] }, .string (bs [101, 115, 116]), .string (bs [101, 115, 116]), .string { data := #[] }, .int .i64 0, .int .i64 0, .string { data := #[] }] 65 := by rw [← hWE]; exact allocs_at (i := 0) rfl
  have g1 : BlkK WE (w6.heap.size + 1) #[.slice (some ⟨w6.heap.size, 0, none⟩) 2 2] 67 := by rw [← hWE]; exact allocs_at (i := 1) rfl
  have g2 : BlkK WE (w6.heap.size + 1 + 1) #[.int .i64 0] 3 := by rw [← hWE]; exact allocs_at (i := 2) rfl
  have g3 : BlkK WE (w6.heap.size + 1 + 1 + 1) #[.int .i64 1] 3 := by rw [← hWE]; exact allocs_at (i := 3) rfl
  have g4 : BlkK WE (w6.heap.size + 1 + 1 + 1 + 1) #[.slice (some ⟨w6.heap.size + 1 + 1, 0, none⟩) 1 1, .slice (some ⟨w6.heap.size + 1 + 1 + 1, 0, none⟩) 1 1] 44 := by rw [← hWE]; exact allocs_at (i := 4) rfl
  have g5 : BlkK WE (w6.heap.size + 1 + 1 + 1 + 1 + 1) #[.string { data := #[97] }, .slice (some ⟨q4, 0, none⟩) 1 1, .slice (some ⟨w6.heap.size + 1, 0, none⟩) 1 1, .slice (some ⟨w6.heap.size + 1 + 1 + 1 + 1, 0, none⟩) 2 2] 26 := by rw [← hWE]; exact allocs_at (i := 5) rfl
  have hAE := HA6.out.below hbe
  have t1 : ToksV WE (.slice (some ⟨w6.heap.size, 0, none⟩) 2 2) [exD, exE] := ⟨_, _, _, rfl, slM_at ⟨⟨⟨blk_cell g0 rfl, blk_cell g0 rfl, blk_cell g0 rfl, blk_cell g0 rfl, blk_cell g0 rfl, blk_cell g0 rfl⟩, exTok _ (by decide)⟩, ⟨⟨blk_cell g0 rfl, blk_cell g0 rfl, blk_cell g0 rfl, blk_cell g0 rfl, blk_cell g0 rfl, blk_cell g0 rfl⟩, exTok _ (by decide)⟩, trivial⟩ rfl (by omega)⟩
  have hC : CollM WE (some ⟨q4, 0, none⟩) (some ⟨w6.heap.size + 1, 0, none⟩) (some ⟨w6.heap.size + 1 + 1 + 1 + 1, 0, none⟩) 1 1 2 exA :=
    ⟨by simp [exA], sl_at hAE ⟨rfl, trivial⟩ rfl (by omega), by simp [exA], sl_at g1 ⟨t1, trivial⟩ rfl (by omega),
      sl_at g4 ⟨⟨_, _, _, rfl, sl_at g2 ⟨⟨rfl, by decide, by decide⟩, trivial⟩ rfl (by omega)⟩, ⟨_, _, _, rfl, sl_at g3 ⟨⟨rfl, by decide, by decide⟩, trivial⟩ rfl (by omega)⟩, trivial⟩ rfl (by omega)⟩
  have hb6e := bstep HB6.out hbe
  have HBE := Lib.hid (bstep HB4.out hb6e)
  have HG6 := Lib.hid (HG4.out.mono (Nat.le_refl _) hb6e)
  have HX6 := Lib.hid (HX4.out.below hb6e)
  have HS6 := Lib.hid (HS4.out.mono (Nat.le_refl _) hb6e)
  have hbu := buildOk exA _ 1 1 _ 1 1 _ 2 2 WE hC (by omega) (HEV.out.mono (Nat.le_refl _) HBE.out) exA_ok (by omega)
  rw [exA_w, exA_g] at hbu
  have HBU := Lib.hid hbu
  clear hC hAE t1 g0 g1 g2 g3 g4 g5 hbu hb6e hbe hWE
  try rw [hcv]
  clear hcv
  refine HBU.out.mono ?_
  rintro e w7 ⟨d1, m3, k3, d2, m4, k4, rfl, hg7, hb7⟩
  obtain rfl : m3 = 4 := by have := hg7.words.len; simpa [exW2] using this.symm
  obtain rfl : m4 = 3 := by have := hg7.arcs.len; simpa [exG2] using this.symm
  obtain ⟨bh, hbh⟩ : ∃ b, w7.heap.size = b := ⟨_, rfl⟩
  have kb := balloc w7 (.cells #[.slice d1 4 k3, .slice d2 3 k4] 31)
  have hK := BoxG.new w7 d1 4 k3 d2 3 k4
  rw [hbh] at hK
  have hb67 := bstep hb7 kb
  have HB7 := Lib.hid (bstep HBE.out hb67)
  have HG7 := Lib.hid (HG6.out.mono (Nat.le_refl _) hb67)
  have HX7 := Lib.hid (HX6.out.below hb67)
  have HS7 := Lib.hid (HS6.out.mono (Nat.le_refl _) hb67)
  have hgA := hg7.mono (Nat.le_refl _) kb
  obtain ⟨W7, hW7⟩ : ∃ W, w7.alloc (.cells #[.slice d1 4 k3, .slice d2 3 k4] 31) = W := ⟨_, rfl⟩
  rw [hW7] at hK HB7 HG7 HX7 HS7 hgA
  obtain ⟨k0, k1'⟩ := hK
  have hco := contractOk exW2 exG2 d1 4 k3 d2 3 k4 W7 hgA (by omega) (by omega) exG2_chk exG2_lim sizes24.2
  rw [exG2_contr] at hco
  have HCO := Lib.hid hco
  unfold graphV at HCO
  clear hb7 kb hb67 hgA hco hg7
  unfold graphV
  go_wp2_with (fail)
  refine HCO.out.mono ?_
  rintro e w8 ⟨a3, m5, c3, a4, m6, c4, al', rfl, hg8, _, hb8⟩
  obtain rfl : m5 = 3 := by have := hg8.words.len; simpa using this.symm
  obtain ⟨bc, hbc⟩ : ∃ b, w8.heap.size = b := ⟨_, rfl⟩
  have kb := balloc w8 (.cells #[.slice a3 3 c3, .slice a4 m6 c4] 31)
  have hK8 := BoxG.new w8 a3 3 c3 a4 m6 c4
  rw [hbc] at hK8
  have hb78 := bstep hb8 kb
  have HB8 := Lib.hid (bstep HB7.out hb78)
  have HG8 := Lib.hid (HG7.out.mono (Nat.le_refl _) hb78)
  have HX8 := Lib.hid (HX7.out.below hb78)
  have HS8 := Lib.hid (HS7.out.mono (Nat.le_refl _) hb78)
  have HC8 := Lib.hid (hg8.words.mono (Nat.le_refl _) kb)
  obtain ⟨W8, hW8⟩ : ∃ W, w8.alloc (.cells #[.slice a3 3 c3, .slice a4 m6 c4] 31) = W := ⟨_, rfl⟩
  rw [hW8] at hK8 HB8 HG8 HX8 HS8 HC8
  have HXC := Lib.hid hK8
  clear hb8 kb hb78 hg8 hK8 k0 k1' hW7 hbh
  obtain ⟨k0, k1'⟩ := HX8.out
  obtain ⟨WY, hWY⟩ : ∃ WY, allocs W8 [(.cells #[.string { data := #[] }, .string { data := #[100, 101, 117, 115] }, .string { data := #[101, 115, 116] }, .string { data := #[98, 111, 110, 117, 115] }, .string { data := #[] }] 9), (.cells #[.int .i64 0, .int .i64 1] 3), (.cells #[.int .i64 0] 3), (.cells #[.int .i64 1] 3), (.cells #[.int .i64 0] 3), (.cells #[.int .i64 0, .int .i64 1] 3), (.cells #[.int .i64 0, .int .i64 1, .slice (some ⟨W8.heap.size + 1, 0, none⟩) 2 2, .int .i64 1, .int .i64 2, .slice (some ⟨W8.heap.size + 1 + 1, 0, none⟩) 1 1, .int .i64 1, .int .i64 3, .slice (some ⟨W8.heap.size + 1 + 1 + 1, 0, none⟩) 1 1, .int .i64 2, .int .i64 3, .slice (some ⟨W8.heap.size + 1 + 1 + 1 + 1, 0, none⟩) 1 1, .int .i64 3, .int .i64 4, .slice (some ⟨W8.heap.size + 1 + 1 + 1 + 1 + 1, 0, none⟩) 2 2] 48), (.cells #[.slice (some ⟨W8.heap.size, 0, none⟩) 5 5, .slice (some ⟨W8.heap.size + 1 + 1 + 1 + 1 + 1 + 1, 0, none⟩) 5 5] 31)] = WY := ⟨_, rfl⟩
  have hcv : ((((((((W8.alloc (.cells #[.string { data := #[] }, .string { data := #[100, 101, 117, 115] }, .string { data := #[101, 115, 116] }, .string { data := #[98, 111, 110, 117, 115] }, .string { data := #[] }] 9)).alloc (.cells #[.int .i64 0, .int .i64 1] 3)).alloc (.cells #[.int .i64 0] 3)).alloc (.cells #[.int .i64 1] 3)).alloc (.cells #[.int .i64 0] 3)).alloc (.cells #[.int .i64 0, .int .i64 1] 3)).alloc (.cells #[.int .i64 0, .int .i64 1, .slice (some ⟨W8.heap.size + 1, 0, none⟩) 2 2, .int .i64 1, .int .i64 2, .slice (some ⟨W8.heap.size + 1 + 1, 0, none⟩) 1 1, .int .i64 1, .int .i64 3, .slice (some ⟨W8.heap.size + 1 + 1 + 1, 0, none⟩) 1 1, .int .i64 2, .int .i64 3, .slice (some ⟨W8.heap.size + 1 + 1 + 1 + 1, 0, none⟩) 1 1, .int .i64 3, .int .i64 4, .slice (some ⟨W8.heap.size + 1 + 1 + 1 + 1 + 1, 0, none⟩) 2 2] 48)).alloc (.cells #[.slice (some ⟨W8.heap.size, 0, none⟩) 5 5, .slice (some ⟨W8.heap.size + 1 + 1 + 1 + 1 + 1 + 1, 0, none⟩) 5 5] 31)) = WY := hWY
  have hby : Below W8.heap.size W8 WY := by rw [← hWY]; exact allocs_below _ _
  have g0 : BlkK WY (W8.heap.size) #[.string { data := #[] }, .string { data := #[100, 101, 117, 115] }, .string { data := #[101, 115, 116] }, .string { data := #[98, 111, 110, 117, 115] }, .string { data := #[] }] 9 := by rw [← hWY]; exact allocs_at (i := 0) rfl
  have g1 : BlkK WY (W8.heap.size + 1) #[.int .i64 0, .int .i64 1] 3 := by rw [← hWY]; exact allocs_at (i := 1) rfl
  have g2 : BlkK WY (W8.heap.size + 1 + 1) #[.int .i64 0] 3 := by rw [← hWY]; exact allocs_at (i := 2) rfl
  have g3 : BlkK WY (W8.heap.size + 1 + 1 + 1) #[.int .i64 1] 3 := by rw [← hWY]; exact allocs_at (i := 3) rfl
  have g4 : BlkK WY (W8.heap.size + 1 + 1 + 1 + 1) #[.int .i64 0] 3 := by rw [← hWY]; exact allocs_at (i := 4) rfl
  have g5 : BlkK WY (W8.heap.size + 1 + 1 + 1 + 1 + 1) #[.int .i64 0, .int .i64 1] 3 := by rw [← hWY]; exact allocs_at (i := 5) rfl
  have g6 : BlkK WY (W8.heap.size + 1 + 1 + 1 + 1 + 1 + 1) #[.int .i64 0, .int .i64 1, .slice (some ⟨W8.heap.size + 1, 0, none⟩) 2 2, .int .i64 1, .int .i64 2, .slice (some ⟨W8.heap.size + 1 + 1, 0, none⟩) 1 1, .int .i64 1, .int .i64 3, .slice (some ⟨W8.heap.size + 1 + 1 + 1, 0, none⟩) 1 1, .int .i64 2, .int .i64 3, .slice (some ⟨W8.heap.size + 1 + 1 + 1 + 1, 0, none⟩) 1 1, .int .i64 3, .int .i64 4, .slice (some ⟨W8.heap.size + 1 + 1 + 1 + 1 + 1, 0, none⟩) 2 2] 48 := by rw [← hWY]; exact allocs_at (i := 6) rfl
  have g7 : BlkK WY (W8.heap.size + 1 + 1 + 1 + 1 + 1 + 1 + 1) #[.slice (some ⟨W8.heap.size, 0, none⟩) 5 5, .slice (some ⟨W8.heap.size + 1 + 1 + 1 + 1 + 1 + 1, 0, none⟩) 5 5] 31 := by rw [← hWY]; exact allocs_at (i := 7) rfl
  have hM : GraphM WY (some ⟨W8.heap.size, 0, none⟩) 5 (some ⟨W8.heap.size + 1 + 1 + 1 + 1 + 1 + 1, 0, none⟩) 5 exW exG := ⟨sl_at g0 ⟨rfl, rfl, rfl, rfl, rfl, trivial⟩ rfl (by omega), slM_at ⟨⟨_, _, blk_cell g6 rfl, blk_cell g6 rfl, blk_cell g6 rfl, ⟨by simp [I64], by simp [I64], sl_at g1 ⟨⟨rfl, by decide, by decide⟩, ⟨rfl, by decide, by decide⟩, trivial⟩ rfl (by simp)⟩⟩, ⟨_, _, blk_cell g6 rfl, blk_cell g6 rfl, blk_cell g6 rfl, ⟨by simp [I64], by simp [I64], sl_at g2 ⟨⟨rfl, by decide, by decide⟩, trivial⟩ rfl (by simp)⟩⟩, ⟨_, _, blk_cell g6 rfl, blk_cell g6 rfl, blk_cell g6 rfl, ⟨by simp [I64], by simp [I64], sl_at g3 ⟨⟨rfl, by decide, by decide⟩, trivial⟩ rfl (by simp)⟩⟩, ⟨_, _, blk_cell g6 rfl, blk_cell g6 rfl, blk_cell g6 rfl, ⟨by simp [I64], by simp [I64], sl_at g4 ⟨⟨rfl, by decide, by decide⟩, trivial⟩ rfl (by simp)⟩⟩, ⟨_, _, blk_cell g6 rfl, blk_cell g6 rfl, blk_cell g6 rfl, ⟨by simp [I64], by simp [I64], sl_at g5 ⟨⟨rfl, by decide, by decide⟩, ⟨rfl, by decide, by decide⟩, trivial⟩ rfl (by simp)⟩⟩, trivial⟩ rfl (by omega)⟩
  have HM := Lib.hid hM
  have HBY := Lib.hid (bstep HB8.out hby)
  have HGY := Lib.hid (HG8.out.mono (Nat.le_refl _) hby)
  have HXY := Lib.hid (HX8.out.below hby)
  have HSY := Lib.hid (HS8.out.mono (Nat.le_refl _) hby)
  have HCY := Lib.hid (HC8.out.mono (Nat.le_refl _) hby)
  have HXC2 := Lib.hid (HXC.out.below hby)
  have HWB := Lib.hid (show BoxG WY (W8.heap.size + 1 + 1 + 1 + 1 + 1 + 1 + 1) (some ⟨W8.heap.size, 0, none⟩) 5 5 (some ⟨W8.heap.size + 1 + 1 + 1 + 1 + 1 + 1, 0, none⟩) 5 5 from g7.graph)
  have HSA := Lib.hid (sameT exW exG b1 5 k1 b2 5 k2 _ 5 5 _ 5 5 WY HGY.out HM.out)
  unfold graphV at HSA
  clear hM g0 g1 g2 g3 g4 g5 g6 g7 hWY hby k0 k1'
  obtain ⟨k0, k1'⟩ := HXY.out
  obtain ⟨j0, j1⟩ := HWB.out
  go_wp2_with (fail)
  refine HSA.out.mono ?_
  rintro e w9 ⟨rfl, hb9⟩
  have HB9 := Lib.hid (bstep HBY.out hb9)
  have HS9 := Lib.hid (HSY.out.mono (Nat.le_refl _) hb9)
  have HC9 := Lib.hid (HCY.out.mono (Nat.le_refl _) hb9)
  have HX9 := Lib.hid (HXC2.out.below hb9)
  clear k0 k1' j0 j1 hb9 hcv
  have ka := balloc w9 (.cells #[.string { data := #[100, 101, 117, 115] }, .string { data := #[98, 111, 110, 117, 115] }] 9)
  have hA : BlkK (w9.alloc (.cells #[.string { data := #[100, 101, 117, 115] }, .string { data := #[98, 111, 110, 117, 115] }] 9)) w9.heap.size #[.string { data := #[100, 101, 117, 115] }, .string { data := #[98, 111, 110, 117, 115] }] 9 := BlkK.new w9 _ _
  have HE := Lib.hid (eqStrs av (some ⟨w9.heap.size, 0, none⟩) cv 2 2 2 _ [[100, 101, 117, 115], [98, 111, 110, 117, 115]] _ (HS9.out.mono (Nat.le_refl _) ka) (sl_at hA ⟨rfl, rfl, trivial⟩ rfl (by omega)))
  rw [decide_eq_true rfl] at HE
  have HB10 := Lib.hid (bstep HB9.out ka)
  have HC10 := Lib.hid (HC9.out.mono (Nat.le_refl _) ka)
  have HX10 := Lib.hid (HX9.out.below ka)
  clear ka hA
  go_wp2_with (fail)
  refine HE.out.mono ?_
  rintro e w10 ⟨rfl, q, hq⟩
  have hbq : Below (w9.alloc (.cells #[.string { data := #[100, 101, 117, 115] }, .string { data := #[98, 111, 110, 117, 115] }] 9)).heap.size (w9.alloc (.cells #[.string { data := #[100, 101, 117, 115] }, .string { data := #[98, 111, 110, 117, 115] }] 9)) w10 := by rw [hq]; exact bdrewN _ q
  have HB11 := Lib.hid (bstep HB10.out hbq)
  have HC11 := Lib.hid (HC10.out.mono (Nat.le_refl _) hbq)
  have HX11 := Lib.hid (HX10.out.below hbq)
  clear hbq hq
  obtain ⟨k0, k1'⟩ := HX11.out
  have ka := balloc w10 (.cells #[.string { data := #[] }, .string { data := #[100, 101, 117, 115, 32, 101, 115, 116] }, .string { data := #[] }] 9)
  have hA : BlkK (w10.alloc (.cells #[.string { data := #[] }, .string { data := #[100, 101, 117, 115, 32, 101, 115, 116] }, .string { data := #[] }] 9)) w10.heap.size #[.string { data := #[] }, .string { data := #[100, 101, 117, 115, 32, 101, 115, 116] }, .string { data := #[] }] 9 := BlkK.new w10 _ _
  have HE2 := Lib.hid (eqStrs a3 (some ⟨w10.heap.size, 0, none⟩) c3 3 3 3 _ [[], [100, 101, 117, 115, 32, 101, 115, 116], []] _ (HC11.out.mono (Nat.le_refl _) ka) (sl_at hA ⟨rfl, rfl, rfl, trivial⟩ rfl (by omega)))
  rw [decide_eq_true rfl] at HE2
  have HB12 := Lib.hid (bstep HB11.out ka)
  clear ka hA
  go_wp2_with (fail)
  refine HE2.out.mono ?_
  rintro e w11 ⟨rfl, q2, rfl⟩
  go_wp2_with (fail)
  go_ret
  exact ⟨rfl, bstep HB12.out (bdrewN _ q2)⟩
end Go.Proofs.YtjmebijckcimoaaGreatDoor
