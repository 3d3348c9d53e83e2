/-
  The example of the chapter.
-/
import Derived.Test.YtbahddjbncinbaaGreatDoorGs
namespace Go.Ap
open Go Go.RowKit
def exSA : List Str := [[114, 101, 120], [109, 97, 103, 110, 117, 115], [101, 114, 97, 116], [105, 110], [117, 114, 98, 101]]
def exSB : List Str := [[105, 110], [117, 114, 98, 101], [101, 114, 97, 116], [114, 101, 120], [109, 97, 103, 110, 117, 115]]
theorem ex_chk : chkT (exSA.map wTok) (exSB.map wTok) = 0 := by decide +kernel
theorem ex_prs : prsE (exSA.map wTok) (exSB.map wTok) = [(0, 3), (1, 4), (2, 2), (3, 0), (4, 1)] := by decide +kernel
theorem ex_chn : chnE (exSA.map wTok) (exSB.map wTok) = [(0, 3), (1, 4)] := by decide +kernel
def blkT (b : Blk) : Int × Int × Int := (b.fst, b.snd, b.len)
theorem blkT_inj {x y : List Blk} (h : x.map blkT = y.map blkT) : x = y := by
  induction x generalizing y with
  | nil => cases y <;> simp_all
  | cons a x ih =>
    cases y with
    | nil => simp at h
    | cons b y =>
      simp only [List.map_cons, List.cons.injEq] at h
      obtain ⟨h1, h2⟩ := h
      cases a
      cases b
      simp only [blkT, Prod.mk.injEq] at h1
      obtain ⟨rfl, rfl, rfl⟩ := h1
      rw [ih h2]
theorem ex_bks : bksE (exSA.map wTok) (exSB.map wTok) = [⟨2, 2, 1⟩, ⟨3, 0, 2⟩] := blkT_inj (by decide +kernel)
theorem ex_und : undE (exSA.map wTok) (exSB.map wTok) = [3, 4, 2, 0, 1] := by decide +kernel
theorem allV_strs (w : World) : ∀ ss : List Str, AllV StrR w (ss.map sv) ss
  | [] => trivial
  | _ :: ss => ⟨rfl, allV_strs w ss⟩
theorem strs_new (W : World) (ss : List Str) (hn : ss.length ≤ 4611686018427387903) : StrsL (W.alloc (.cells (ss.map sv).toArray 9)) (some ⟨W.heap.size, 0, none⟩) ss.length ss :=
  sl_at (heap_fresh rfl) (allV_strs _ _) (by simp) hn
theorem allV_ints (w : World) : ∀ xs : List Int, (∀ x ∈ xs, I64 x) → AllV IntR w (xs.map (Value.int .i64)) xs
  | [], _ => trivial
  | x :: xs, h => ⟨⟨rfl, h x (List.mem_cons_self ..)⟩, allV_ints w xs fun y hy => h y (List.mem_cons_of_mem _ hy)⟩
theorem ints_new' (W : World) (xs : List Int) (hn : xs.length ≤ 4611686018427387903) (h : ∀ x ∈ xs, I64 x) : Ints (W.alloc (.cells (xs.map (Value.int .i64)).toArray 3)) (some ⟨W.heap.size, 0, none⟩) xs.length xs :=
  sl_at (heap_fresh rfl) (by simpa using allV_ints _ xs h) (by simp) hn
theorem blks2 (W : World) (a b c d e f : Int) : Blks (W.alloc (.cells #[.int .i64 a, .int .i64 b, .int .i64 c, .int .i64 d, .int .i64 e, .int .i64 f] 54)) (some ⟨W.heap.size, 0, none⟩) 2 [⟨a, b, c⟩, ⟨d, e, f⟩] := by
  have g : (W.alloc (.cells #[.int .i64 a, .int .i64 b, .int .i64 c, .int .i64 d, .int .i64 e, .int .i64 f] 54)).heap[W.heap.size]? = some (.cells #[.int .i64 a, .int .i64 b, .int .i64 c, .int .i64 d, .int .i64 e, .int .i64 f] 54 (0, 0)) := heap_fresh rfl
  exact slM_at ⟨⟨blk_cell g rfl, blk_cell g rfl, blk_cell g rfl⟩, ⟨blk_cell g rfl, blk_cell g rfl, blk_cell g rfl⟩, trivial⟩ rfl (by omega)
theorem rows5 (W : World) (x0 y0 x1 y1 x2 y2 x3 y3 x4 y4 : Int) (h : ∀ z ∈ [x0, y0, x1, y1, x2, y2, x3, y3, x4, y4], I64 z) :
    Rows2 (((((( W.alloc (.cells #[.int .i64 x0, .int .i64 y0] 3)).alloc (.cells #[.int .i64 x1, .int .i64 y1] 3)).alloc (.cells #[.int .i64 x2, .int .i64 y2] 3)).alloc (.cells #[.int .i64 x3, .int .i64 y3] 3)).alloc (.cells #[.int .i64 x4, .int .i64 y4] 3)).alloc (.cells #[.slice (some ⟨W.heap.size, 0, none⟩) 2 2, .slice (some ⟨W.heap.size + 1, 0, none⟩) 2 2, .slice (some ⟨W.heap.size + 1 + 1, 0, none⟩) 2 2, .slice (some ⟨W.heap.size + 1 + 1 + 1, 0, none⟩) 2 2, .slice (some ⟨W.heap.size + 1 + 1 + 1 + 1, 0, none⟩) 2 2] 29)) (some ⟨W.heap.size + 1 + 1 + 1 + 1 + 1, 0, none⟩) 5 [[x0, y0], [x1, y1], [x2, y2], [x3, y3], [x4, y4]] := by
  obtain ⟨WX, hWX⟩ : ∃ WX, allocs W [.cells #[.int .i64 x0, .int .i64 y0] 3, .cells #[.int .i64 x1, .int .i64 y1] 3, .cells #[.int .i64 x2, .int .i64 y2] 3, .cells #[.int .i64 x3, .int .i64 y3] 3, .cells #[.int .i64 x4, .int .i64 y4] 3, .cells #[.slice (some ⟨W.heap.size, 0, none⟩) 2 2, .slice (some ⟨W.heap.size + 1, 0, none⟩) 2 2, .slice (some ⟨W.heap.size + 1 + 1, 0, none⟩) 2 2, .slice (some ⟨W.heap.size + 1 + 1 + 1, 0, none⟩) 2 2, .slice (some ⟨W.heap.size + 1 + 1 + 1 + 1, 0, none⟩) 2 2] 29] = WX := ⟨_, rfl⟩
  have g0 : WX.heap[W.heap.size]? = some (.cells #[.int .i64 x0, .int .i64 y0] 3 (0, 0)) := by rw [← hWX]; exact allocs_at (i := 0) rfl
  have g1 : WX.heap[W.heap.size + 1]? = some (.cells #[.int .i64 x1, .int .i64 y1] 3 (0, 0)) := by rw [← hWX]; exact allocs_at (i := 1) rfl
  have g2 : WX.heap[W.heap.size + 1 + 1]? = some (.cells #[.int .i64 x2, .int .i64 y2] 3 (0, 0)) := by rw [← hWX]; exact allocs_at (i := 2) rfl
  have g3 : WX.heap[W.heap.size + 1 + 1 + 1]? = some (.cells #[.int .i64 x3, .int .i64 y3] 3 (0, 0)) := by rw [← hWX]; exact allocs_at (i := 3) rfl
  have g4 : WX.heap[W.heap.size + 1 + 1 + 1 + 1]? = some (.cells #[.int .i64 x4, .int .i64 y4] 3 (0, 0)) := by rw [← hWX]; exact allocs_at (i := 4) rfl
  have g5 : WX.heap[W.heap.size + 1 + 1 + 1 + 1 + 1]? = some (.cells #[.slice (some ⟨W.heap.size, 0, none⟩) 2 2, .slice (some ⟨W.heap.size + 1, 0, none⟩) 2 2, .slice (some ⟨W.heap.size + 1 + 1, 0, none⟩) 2 2, .slice (some ⟨W.heap.size + 1 + 1 + 1, 0, none⟩) 2 2, .slice (some ⟨W.heap.size + 1 + 1 + 1 + 1, 0, none⟩) 2 2] 29 (0, 0)) := by rw [← hWX]; exact allocs_at (i := 5) rfl
  have two : ∀ {b : Nat} {x y : Int}, WX.heap[b]? = some (.cells #[.int .i64 x, .int .i64 y] 3 (0, 0)) → I64 x → I64 y → RowR WX (.slice (some ⟨b, 0, none⟩) 2 2) [x, y] := fun g hx hy => ⟨_, _, _, rfl, sl_at g ⟨⟨rfl, hx⟩, ⟨rfl, hy⟩, trivial⟩ rfl (by omega)⟩
  have r : Rows2 WX (some ⟨W.heap.size + 1 + 1 + 1 + 1 + 1, 0, none⟩) 5 [[x0, y0], [x1, y1], [x2, y2], [x3, y3], [x4, y4]] :=
    sl_at g5 ⟨two g0 (h _ (by simp)) (h _ (by simp)), two g1 (h _ (by simp)) (h _ (by simp)), two g2 (h _ (by simp)) (h _ (by simp)), two g3 (h _ (by simp)) (h _ (by simp)), two g4 (h _ (by simp)) (h _ (by simp)), trivial⟩ rfl (by omega)
  rw [← hWX] at r
  exact r
theorem rows2 (W : World) (x0 y0 x1 y1 : Int) (h : ∀ z ∈ [x0, y0, x1, y1], I64 z) :
    Rows2 (((W.alloc (.cells #[.int .i64 x0, .int .i64 y0] 3)).alloc (.cells #[.int .i64 x1, .int .i64 y1] 3)).alloc (.cells #[.slice (some ⟨W.heap.size, 0, none⟩) 2 2, .slice (some ⟨W.heap.size + 1, 0, none⟩) 2 2] 29)) (some ⟨W.heap.size + 1 + 1, 0, none⟩) 2 [[x0, y0], [x1, y1]] := by
  obtain ⟨WX, hWX⟩ : ∃ WX, allocs W [.cells #[.int .i64 x0, .int .i64 y0] 3, .cells #[.int .i64 x1, .int .i64 y1] 3, .cells #[.slice (some ⟨W.heap.size, 0, none⟩) 2 2, .slice (some ⟨W.heap.size + 1, 0, none⟩) 2 2] 29] = WX := ⟨_, rfl⟩
  have g0 : WX.heap[W.heap.size]? = some (.cells #[.int .i64 x0, .int .i64 y0] 3 (0, 0)) := by rw [← hWX]; exact allocs_at (i := 0) rfl
  have g1 : WX.heap[W.heap.size + 1]? = some (.cells #[.int .i64 x1, .int .i64 y1] 3 (0, 0)) := by rw [← hWX]; exact allocs_at (i := 1) rfl
  have g5 : WX.heap[W.heap.size + 1 + 1]? = some (.cells #[.slice (some ⟨W.heap.size, 0, none⟩) 2 2, .slice (some ⟨W.heap.size + 1, 0, none⟩) 2 2] 29 (0, 0)) := by rw [← hWX]; exact allocs_at (i := 2) rfl
  have r : Rows2 WX (some ⟨W.heap.size + 1 + 1, 0, none⟩) 2 [[x0, y0], [x1, y1]] :=
    sl_at g5 ⟨⟨_, _, _, rfl, sl_at g0 ⟨⟨rfl, h _ (by simp)⟩, ⟨rfl, h _ (by simp)⟩, trivial⟩ rfl (by omega)⟩, ⟨_, _, _, rfl, sl_at g1 ⟨⟨rfl, h _ (by simp)⟩, ⟨rfl, h _ (by simp)⟩, trivial⟩ rfl (by omega)⟩, trivial⟩ rfl (by omega)
  rw [← hWX] at r
  exact r
end Go.Ap
namespace Go.Proofs.YtbahddjbncinbaaGreatDoor
open Go.RowKit Go.Ap Go.Shelf Go.Proofs

attribute [local go_sem] Oper.semAt_some bs_toList empty_toList bs_size bs_extract
theorem max4 (P : Program) (w : World) (ts : Array TypeId) (t : TypeId) : (Builtin.max_ ts t #[.int .i64 0, .int .i64 0, .int .i64 0, .int .i64 0]).run P w = .ok (.int .i64 0) w := by simp [Builtin.max_, Builtin.max2]
attribute [local go_sem] max4
theorem small_i64 {l : List Int} (h : l.all fun z => decide (-9223372036854775808 ≤ z) && decide (z ≤ 9223372036854775807)) : ∀ z ∈ l, I64 z := fun z hz => by
  have := List.all_eq_true.1 h z hz
  simp at this
  exact ⟨this.1, by omega⟩
set_option maxRecDepth 100000 in
set_option maxHeartbeats 8000000 in
theorem awake13 (w : World) (hev : EV w) : Calls Tryz.prog 13 #[] w fun e w' => e = .returned (.bool true) ∧ Below w.heap.size w w' := by
  have HEV := Lib.hid hev
  clear hev
  go_enter Tryz.func13, Tryz.ntmps13
  go_wp2_with (fail)
  refine (words48 _ 5 5 exSA _ (strs_new _ exSA (by decide)) (by omega) (by decide)).mono ?_
  rintro e w1 ⟨ta, ca, rfl, hta, hb⟩
  have HTA := Lib.hid hta
  have HB1 := Lib.hid (bstep (balloc _ _) hb)
  clear hta hb
  go_wp2_with (fail)
  refine (words48 _ 5 5 exSB _ (strs_new _ exSB (by decide)) (by omega) (by decide)).mono ?_
  rintro e w2 ⟨tb, cb, rfl, htb, hb⟩
  have HTB := Lib.hid htb
  have HX2 := Lib.hid (bstep (balloc _ _) hb)
  have HB2 := Lib.hid (bstep HB1.out HX2.out)
  have HTA := Lib.hid (HTA.out.mono (Nat.le_refl _) HX2.out)
  clear htb hb
  go_wp2_with (fail)
  refine (PairsP (exSA.map wTok) (exSB.map wTok) ta 5 ca tb 5 cb w2 HTA.out HTB.out (HEV.out.mono (Nat.le_refl _) HB2.out)).mono ?_
  rw [ex_prs, ex_chk]
  rintro e w3 ⟨v, rfl, ho, hb⟩
  obtain ⟨al, cl, rfl, hl⟩ := ho.rows (by simp [rowsP]) rows_two
  have HL := Lib.hid hl
  have HX3 := Lib.hid hb
  have HB3 := Lib.hid (bstep HB2.out hb)
  have HTA := Lib.hid (HTA.out.mono (Nat.le_refl _) HX3.out)
  have HTB := Lib.hid (HTB.out.mono (Nat.le_refl _) HX3.out)
  clear ho hb hl
  go_wp2_with (fail)
  refine (ChainP (exSA.map wTok) (exSB.map wTok) ta 5 ca tb 5 cb w3 HTA.out HTB.out (HEV.out.mono (Nat.le_refl _) HB3.out)).mono ?_
  rw [ex_chn, ex_chk]
  rintro e w4 ⟨ac, cc, rfl, hc, _, hb⟩
  have HC := Lib.hid hc
  have HX4 := Lib.hid hb
  have HB4 := Lib.hid (bstep HB3.out hb)
  have HTA := Lib.hid (HTA.out.mono (Nat.le_refl _) HX4.out)
  have HTB := Lib.hid (HTB.out.mono (Nat.le_refl _) HX4.out)
  clear hc hb
  go_wp2_with (fail)
  refine (BlocksP (exSA.map wTok) (exSB.map wTok) ta 5 ca tb 5 cb w4 HTA.out HTB.out (HEV.out.mono (Nat.le_refl _) HB4.out)).mono ?_
  rw [ex_bks, ex_chk]
  rintro e w5 ⟨v, rfl, ho, hb⟩
  obtain ⟨ax, cx, rfl, hx⟩ := ho.blks (by simp)
  have HXB := Lib.hid hx
  have HX5 := Lib.hid hb
  have HB5 := Lib.hid (bstep HB4.out hb)
  have HTA := Lib.hid (HTA.out.mono (Nat.le_refl _) HX5.out)
  have HTB := Lib.hid (HTB.out.mono (Nat.le_refl _) HX5.out)
  clear ho hb hx
  go_wp2_with (fail)
  refine (UndoP (exSA.map wTok) (exSB.map wTok) ta 5 ca tb 5 cb w5 HTA.out HTB.out (HEV.out.mono (Nat.le_refl _) HB5.out)).mono ?_
  rw [ex_und, ex_chk]
  rintro e w6 ⟨v, rfl, ho, hb⟩
  obtain ⟨au, cu, rfl, hu⟩ := ho.ints (by simp [castL])
  have HU := Lib.hid hu
  have HX6 := Lib.hid hb
  have HB6 := Lib.hid (bstep HB5.out hb)
  clear ho hb hu HTA HTB
  go_wp2_with (fail)
  have hbl := bstep (bstep (bstep (bstep (bstep (balloc w6 (.cells #[.int .i64 0, .int .i64 3] 3)) (balloc _ (.cells #[.int .i64 1, .int .i64 4] 3))) (balloc _ (.cells #[.int .i64 2, .int .i64 2] 3))) (balloc _ (.cells #[.int .i64 3, .int .i64 0] 3))) (balloc _ (.cells #[.int .i64 4, .int .i64 1] 3))) (balloc _ (.cells #[.slice (some ⟨w6.heap.size, 0, none⟩) 2 2, .slice (some ⟨w6.heap.size + 1, 0, none⟩) 2 2, .slice (some ⟨w6.heap.size + 1 + 1, 0, none⟩) 2 2, .slice (some ⟨w6.heap.size + 1 + 1 + 1, 0, none⟩) 2 2, .slice (some ⟨w6.heap.size + 1 + 1 + 1 + 1, 0, none⟩) 2 2] 29))
  refine (sameCols _ _ al _ cl _ 5 5 _ (HL.out.mono (Nat.le_refl _) (bstep (bstep (bstep HX4.out HX5.out) HX6.out) hbl)) (rows5 w6 0 3 1 4 2 2 3 0 4 1 (small_i64 rfl)) rfl).mono ?_
  rintro e w7 ⟨rfl, hb⟩
  have HX7 := Lib.hid (bstep hbl hb)
  have HB7 := Lib.hid (bstep HB6.out HX7.out)
  clear hbl hb
  go_wp2_with (fail)
  have hbl := bstep (bstep (balloc w7 (.cells #[.int .i64 0, .int .i64 3] 3)) (balloc _ (.cells #[.int .i64 1, .int .i64 4] 3))) (balloc _ (.cells #[.slice (some ⟨w7.heap.size, 0, none⟩) 2 2, .slice (some ⟨w7.heap.size + 1, 0, none⟩) 2 2] 29))
  refine (sameCols _ _ ac _ cc _ 2 2 _ (HC.out.mono (Nat.le_refl _) (bstep (bstep (bstep HX5.out HX6.out) HX7.out) hbl)) (rows2 w7 0 3 1 4 (small_i64 rfl)) rfl).mono ?_
  rintro e w8 ⟨rfl, hb⟩
  have HX8 := Lib.hid (bstep hbl hb)
  have HB8 := Lib.hid (bstep HB7.out HX8.out)
  clear hbl hb
  go_wp2_with (fail)
  have hbl := balloc w8 (.cells #[.int .i64 2, .int .i64 2, .int .i64 1, .int .i64 3, .int .i64 0, .int .i64 2] 54)
  refine (eqBks ax _ 2 cx 2 _ _ (blks_mono HXB.out (Nat.le_refl _) (bstep (bstep (bstep HX6.out HX7.out) HX8.out) hbl)) (blks2 w8 2 2 1 3 0 2)).mono ?_
  rintro e w9 ⟨rfl, hb⟩
  have HX9 := Lib.hid (bstep hbl hb)
  have HB9 := Lib.hid (bstep HB8.out HX9.out)
  clear hbl hb
  go_wp2_with (fail)
  have hbl := balloc w9 (.cells #[.int .i64 3, .int .i64 4, .int .i64 2, .int .i64 0, .int .i64 1] 3)
  refine (eqInts au _ cu 5 _ 5 _ [3, 4, 2, 0, 1] _ (Ints.mono HU.out (Nat.le_refl _) (bstep (bstep (bstep HX7.out HX8.out) HX9.out) hbl)) (ints_new' w9 [3, 4, 2, 0, 1] (by decide) (small_i64 rfl))).mono ?_
  rw [show decide (castL [3, 4, 2, 0, 1] = [3, 4, 2, 0, 1]) = true from rfl]
  rintro e w10 ⟨rfl, q, rfl⟩
  have HB10 := Lib.hid (bstep (bstep HB9.out hbl) (bdrewN _ q))
  clear hbl
  go_wp2_with (fail)
  go_ret
  exact ⟨rfl, HB10.out⟩
end Go.Proofs.YtbahddjbncinbaaGreatDoor
