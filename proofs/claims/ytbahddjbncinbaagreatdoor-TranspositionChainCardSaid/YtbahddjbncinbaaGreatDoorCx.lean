/-
  The greedy cover: the walk.
-/
import Derived.Test.YtbahddjbncinbaaGreatDoorCw
namespace Go.Proofs.YtbahddjbncinbaaGreatDoor
open Go.RowKit Go.Ap Go.Shelf Go.Proofs

attribute [local go_sem] Oper.semAt_some bs_toList empty_toList bs_size bs_extract
set_option maxRecDepth 100000 in
set_option maxHeartbeats 8000000 in
theorem cover31 (l : List Int) (a : Option Addr) (n c : Nat) (w : World) (h : Ints w a n l) (hn : n ≤ 1024) :
    Calls Tryz.prog 31 #[.slice a n c] w fun e w' => (∃ a' c', e = .returned (.tuple #[.slice a' (incF l).length c', .int .i64 0])) ∧ Below w.heap.size w w' := by
  obtain ⟨ir, hir, hr0, hr1, hr2⟩ := info_parts infoRw
  obtain ⟨i9, hi9, hy0, hy1, hy2⟩ := info_parts infoInt
  have hl := h.len
  have HL := Lib.hid hl
  have d0 : decide ((1024 : Int) < (n : Int)) = false := by rw [decide_eq_false_iff_not]; omega
  have d0' : decide (1024 < n) = false := by rw [decide_eq_false_iff_not]; omega
  have HB0 := Lib.hid (balloc w (.cells #[.slice a n c] 29))
  obtain ⟨W1, hW1⟩ : ∃ W1, w.alloc (.cells #[.slice a n c] 29) = W1 := ⟨_, rfl⟩
  have HX := Lib.hid (show Ints W1 a n l by rw [← hW1]; exact h.mono (Nat.le_refl _) (balloc w _))
  have kc1 : W1.cell? ⟨w.heap.size, 0, none⟩ = some (.slice a n c) := by rw [← hW1]; exact blk_cell (World.alloc_heap_new w _) rfl
  have hW1s : w.heap.size ≤ W1.heap.size := by rw [← hW1]; simp
  rw [hW1] at HB0
  have HKC := Lib.hid kc1
  have eg := enters_of Tryz.func64 (by kernel_rfl) rfl
  have HIX := Lib.hid (fun (x : Int) (B2 : Nat) (xss : List (List Int)) (at' : Option Addr) (N ct : Nat) (W : World) (hb : Below W1.heap.size W1 W) (hr : Rows2 W at' N xss) (hc2 : W.cell? ⟨B2, 0, none⟩ = some (.int .i64 x)) (hrows : ∀ xs ∈ xss, ∃ (ys : List Int) (j : Nat), xs = ys ++ [(j : Int)] ∧ j < n) =>
    idxRows (R := RowR) (fun xs => decide (topV l xs ≥ x)) at' N ct xss 64 #[.pointer (some ⟨w.heap.size, 0, none⟩), .pointer (some ⟨B2, 0, none⟩)] W hr eg (fun W' v x hb hr => hr.mono (Nat.le_refl _) hb) (fun xs v W' hx hb' hv => by
      obtain ⟨ys, j, hxs, hj⟩ := hrows xs hx
      exact clo64 l xs ys j x w.heap.size B2 a n c v W' hv hxs hj (HX.out.mono (Nat.le_refl _) (bstep hb hb')) (cell_keep (bstep hb hb') HKC.out) (cell_keep hb' hc2)))
  go_enter Tryz.func31, Tryz.ntmps31
  have HWH := Lib.hid hW1
  have kc0 : (w.alloc (.cells #[.slice a n c] 29)).cell? ⟨w.heap.size, 0, none⟩ = some (.slice a n c) := blk_cell (World.alloc_heap_new w _) rfl
  clear h hl hW1 kc1
  go_wp2_with (fail)
  rw [HWH.out]
  clear kc0 d0 d0'
  go_loopw [4, 13] (fun ov iv wr => ∃ (i : Nat) (xss : List (List Int)), i ≤ n ∧ iv = .int .i64 i ∧ CovR l i xss ∧ OwnTb wr W1.heap.size ov xss ∧ Below W1.heap.size W1 wr) (fun _ iv _ => n - (intOf iv).toNat)
  case atStart => exact ⟨0, [], Nat.zero_le _, rfl, CovR.start l, OwnTb.nil _ _, Below.refl _ _⟩
  case round =>
    obtain ⟨wi, rfl⟩ : ∃ wi : World, wi = wr := ⟨_, rfl⟩
    obtain ⟨i, xss, hi, rfl, hcv, ho, hb⟩ := hrel
    have HCV := Lib.hid hcv
    have HB := Lib.hid hb
    have hsz := hb.size
    have hnum := hcv.num
    obtain ⟨at', ct, rfl, hr⟩ := ho.rows (by omega) (fun xs hx => by have := hcv.short xs hx; omega)
    by_cases hin : i < n
    · obtain ⟨x, b, o, v, hx, rfl, hc, rfl, hw⟩ := Sl.at HX.out hin
      have c1 := cell_keep hb hc
      have bx := balloc wi (.cells #[.int .i64 x] 3)
      have HOX := Lib.hid (ho.below bx)
      have HBX := Lib.hid (bstep hb bx)
      have HXX := Lib.hid hx
      have HI := Lib.hid (HIX.out x wi.heap.size xss at' xss.length ct _ (bstep hb bx) (hr.mono (Nat.le_refl _) bx) (blk_cell (World.alloc_heap_new wi _) rfl) (fun xs hxs => by
        obtain ⟨ys, j, h1, h2⟩ := hcv.rows xs hxs
        exact ⟨ys, j, h1, by omega⟩))
      have i1 : (i : Int) < (n : Int) := by omega
      have hi64 : I64 (i : Int) := ⟨by omega, by omega⟩
      clear hcv ho hb hr hx hc hw bx
      go_wp2_with (fail)
      refine HI.out.mono ?_
      rintro e w2 ⟨rfl, hb2⟩
      have HB2 := Lib.hid (bstep HBX.out hb2)
      have HO2 := Lib.hid (HOX.out.below hb2)
      have hsz2 := HB2.out.size
      clear hb2
      rcases idxF_cases (fun xs => decide (topV l xs ≥ x)) xss with ⟨h1, h2⟩ | ⟨k, xs, h1, hkl, h3, h4, h5⟩
      · rw [h1]
        have HCN := Lib.hid (HCV.out.fresh HXX.out h2)
        have bo := balloc w2 (.cells #[.int .i64 (i : Int)] 3)
        obtain ⟨vs, hrow, hnx⟩ := OwnTb.ready HO2.out hsz2 bo (OwnI.one (Nat.le_refl _) (i : Int) hi64)
        obtain ⟨nu, hnu⟩ : ∃ nu, xss.length = nu := ⟨_, rfl⟩
        rw [hnu] at hrow hnx hnum ⊢
        have HROW := Lib.hid hrow
        have HNX := Lib.hid hnx
        have hszx := bo.size
        have HBO := Lib.hid (bstep HB2.out bo)
        clear h1 h2 bo hrow hnx hnu
        go_wp2_with (at_builtin; refine wpList_append_own _ rfl _ _ 25 rfl W1.heap.size 29 ir (.slice none 0 0) 1 24 Tryz.underlying25 hir hr0 hr1 hr2 rfl (by decide) _ _ _ rfl (HROW.out.alloc _) ⟨w2.heap.size + 1, 0, none⟩ 1 1 [.slice (some ⟨w2.heap.size, 0, none⟩) 1 1] rfl rfl (by have := cell_one_new (w2.alloc (.cells #[.int .i64 (i : Int)] 3)) (.slice (some ⟨w2.heap.size, 0, none⟩) 1 1) 29; simpa using this) (by simp [Value.oneCell']) (by unfold maxLen; omega) (by omega) (by simp; omega) ?_; intro v9 w4 hown hgrow _; have HOWN := Lib.hid hown; have HG := Lib.hid hgrow; clear hown hgrow)
        obtain ⟨j1, j2⟩ := HNX.out _ _ _ HOWN.out HG.out
        go_roundw
        case rel => exact ⟨i + 1, xss ++ [[(i : Int)]], by omega, by simp, HCN.out, j1, HBO.out.trans j2⟩
        case measure => simp [intOf]; omega
      · rw [h1]
        have HCN := Lib.hid (HCV.out.more HXX.out h3 h4 h5)
        obtain ⟨g, cap, _, hv, -, -, -, -⟩ := HO2.out.at h3
        cases hv
        obtain ⟨u, hu, hbg, hou, hgr⟩ := HO2.out.grow hsz2 h3
        obtain ⟨au, cu, rfl, -⟩ := hou.ints (by have := HCV.out.short xs (List.mem_of_getElem? h3); omega)
        have hsx := HCV.out.short xs (List.mem_of_getElem? h3)
        obtain ⟨nu, hxl⟩ : ∃ nu, xss.length = nu := ⟨_, rfl⟩
        obtain ⟨nx, hxs⟩ : ∃ nx, xs.length = nx := ⟨_, rfl⟩
        rw [hxl] at hgr hkl hnum ⊢
        rw [hxs] at hgr hu hsx
        have hou1 := hou.1
        rw [hxs] at hou1
        have HOU := Lib.hid hou1
        have HGR := Lib.hid hgr
        have hnxb : nx ≤ 1024 := by omega
        have i2 : (k : Int) < (nu : Int) := by omega
        clear h1 h3 h4 h5 hou hou1 hgr hxl hxs
        go_wp2_with (at_builtin; refine wpList_append_own_at _ rfl _ _ 29 rfl W1.heap.size 3 i9 (.int .i64 0) 1 8 Tryz.underlying29 hi9 hy0 hy1 hy2 rfl (by decide) _ _ _ rfl (HOU.out.alloc _) ⟨w2.heap.size, 0, none⟩ 1 1 [.int .i64 (i : Int)] rfl rfl (cell_one_new _ _ _) (by simp [Value.oneCell']) (by unfold maxLen; omega) (by omega) (by simp; omega) ?_; intro v9 w4 hown hgrow _ hblk; obtain ⟨g9, cap9, rfl⟩ := ownsRow_succ hown; obtain ⟨c5, f5, ht5, hb5⟩ := HGR.out _ _ _ (i : Int) hi64 hown hgrow hblk; have HT5 := Lib.hid ht5; have HB5 := Lib.hid hb5; clear hown hgrow hblk ht5 hb5)
        go_roundw
        case rel => exact ⟨i + 1, _, by omega, by simp, HCN.out, HT5.out, HB2.out.trans HB5.out⟩
        case measure => simp [intOf]; omega
    · obtain rfl : n = i := by omega
      have hcl := cover_len l
      have htp := hcv.tops
      rw [List.take_of_length_le (by rw [HL.out]; exact Nat.le_refl _)] at htp
      unfold coverT at hcl
      rw [htp, List.length_map] at hcl
      rw [hcl]
      clear hcv ho hb hr
      go_wp2_with (fail)
      go_ret2
      exact ⟨⟨_, _, rfl⟩, bstep HB0.out HB.out⟩
end Go.Proofs.YtbahddjbncinbaaGreatDoor
