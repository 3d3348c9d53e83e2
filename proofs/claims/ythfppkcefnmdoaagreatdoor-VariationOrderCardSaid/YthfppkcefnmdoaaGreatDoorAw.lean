/-
  The example of the chapter.
-/
import Derived.Test.YthfppkcefnmdoaaGreatDoorUn
import Derived.Test.YthfppkcefnmdoaaGreatDoorNh
import Derived.Test.YthfppkcefnmdoaaGreatDoorNg
namespace Go.Proofs.YthfppkcefnmdoaaGreatDoor
open Go.RowKit Go.Ap Go.Shelf Go.Proofs

attribute [local go_sem] Oper.semAt_some bs_toList empty_toList bs_size bs_extract
theorem wordA (s : Str) (w : World) : Calls Tryz.prog 51 #[.string (bs s)] w fun e w' => e = .returned (.agg #[.string (bs s), .string (bs s), .string { data := #[] }, .int .i64 0, .int .i64 0, .string { data := #[] }]) ∧ Below w.heap.size w w' := by
  go_enter Tryz.func51, Tryz.ntmps51
  go_wp2_with (fail)
  have c0 : (w.alloc (.cells #[.string (bs s), .string (bs s), .string { data := #[] }, .int .i64 0, .int .i64 0, .string { data := #[] }] 44)).cell? ⟨w.heap.size, 0, none⟩ = some (.string (bs s)) := cell_fresh rfl rfl
  have c1 : (w.alloc (.cells #[.string (bs s), .string (bs s), .string { data := #[] }, .int .i64 0, .int .i64 0, .string { data := #[] }] 44)).cell? ⟨w.heap.size, 1, none⟩ = some (.string (bs s)) := cell_fresh rfl rfl
  have c2 : (w.alloc (.cells #[.string (bs s), .string (bs s), .string { data := #[] }, .int .i64 0, .int .i64 0, .string { data := #[] }] 44)).cell? ⟨w.heap.size, 2, none⟩ = some (.string { data := #[] }) := cell_fresh rfl rfl
  have c3 : (w.alloc (.cells #[.string (bs s), .string (bs s), .string { data := #[] }, .int .i64 0, .int .i64 0, .string { data := #[] }] 44)).cell? ⟨w.heap.size, 3, none⟩ = some (.int .i64 0) := cell_fresh rfl rfl
  have c4 : (w.alloc (.cells #[.string (bs s), .string (bs s), .string { data := #[] }, .int .i64 0, .int .i64 0, .string { data := #[] }] 44)).cell? ⟨w.heap.size, 4, none⟩ = some (.int .i64 0) := cell_fresh rfl rfl
  have c5 : (w.alloc (.cells #[.string (bs s), .string (bs s), .string { data := #[] }, .int .i64 0, .int .i64 0, .string { data := #[] }] 44)).cell? ⟨w.heap.size, 5, none⟩ = some (.string { data := #[] }) := cell_fresh rfl rfl
  refine bodyPost_ret (v := .agg #[.string (bs s), .string (bs s), .string { data := #[] }, .int .i64 0, .int .i64 0, .string { data := #[] }]) (by simp [results, Tryz.f51, go_sem, c0, c1, c2, c3, c4, c5]) rfl ⟨rfl, balloc _ _⟩
def exD : Tok := ⟨[100, 101, 117, 115], [100, 101, 117, 115], [], 0, 0, []⟩
def exE : Tok := ⟨[101, 115, 116], [101, 115, 116], [], 0, 0, []⟩
def exB : Tok := ⟨[98, 111, 110, 117, 115], [98, 111, 110, 117, 115], [], 0, 0, []⟩
def exC : Coll := ⟨[73], [[65], [66]], [[exD, exE, exB], [exD, exB]], [[0, 0], [1, -1], [2, 1]]⟩
theorem exC_ok : collC exC = 0 := by decide +kernel
theorem exC_un : plcsB (unitsL exC) [⟨1, 2, [([[101, 115, 116]], [0]), ([], [1])]⟩] = true := by decide +kernel
set_option maxRecDepth 100000 in
set_option maxHeartbeats 8000000 in
theorem awakeP (w : World) (hev : EV w) : Calls Tryz.prog 13 #[] w fun e w' => e = .returned (.bool true) ∧ Below w.heap.size w w' := by
  have eg := enters_of Tryz.func51 (by kernel_rfl) rfl
  have HW := Lib.hid (fun s W => wordA s W)
  go_enter Tryz.func13, Tryz.ntmps13
  go_wp2_with (fail)
  refine (HW.out [100, 101, 117, 115] _).mono ?_
  rintro e w1 ⟨rfl, hb1⟩
  go_wp2_with (fail)
  refine (HW.out [101, 115, 116] _).mono ?_
  rintro e w2 ⟨rfl, hb2⟩
  go_wp2_with (fail)
  refine (HW.out [98, 111, 110, 117, 115] _).mono ?_
  rintro e w3 ⟨rfl, hb3⟩
  have HB3 := Lib.hid (bstep (bstep hb1 hb2) hb3)
  clear hb1 hb2 hb3
  go_wp2_with (fail)
  obtain ⟨WX, hWX⟩ : ∃ WX, allocs w3 [(.cells #[.string (bs [100, 101, 117, 115]), .string (bs [100, 101, 117, 115]), .string { data := #[] }, .int .i64 0, .int .i64 0, .string { data := #[] }] 44), (.cells #[.string (bs [101, 115, 116]), .string (bs [101, 115, 116]), .string { data := #[] }, .int .i64 0, .int .i64 0, .string { data := #[] }] 44), (.cells #[.string (bs [98, 111, 110, 117, 115]), .string (bs [98, 111, 110, 117, 115]), .string { data := #[] }, .int .i64 0, .int .i64 0, .string { data := #[] }] 44), (.cells #[.string { data := #[65] }, .string { data := #[66] }] 9), (.cells #[.string (bs [100, 101, 117, 115]), .string (bs [100, 101, 117, 115]), .string { data := #[] }, .int .i64 0, .int .i64 0, .string { data := #[] }, .string (bs [101, 115, 116]), .string (bs [101, 115, 116]), .string { data := #[] }, .int .i64 0, .int .i64 0, .string { data := #[] }, .string (bs [98, 111, 110, 117, 115]), .string (bs [98, 111, 110, 117, 115]), .string { data := #[] }, .int .i64 0, .int .i64 0, .string { data := #[] }] 44), (.cells #[.string (bs [100, 101, 117, 115]), .string (bs [100, 101, 117, 115]), .string { data := #[] }, .int .i64 0, .int .i64 0, .string { data := #[] }, .string (bs [98, 111, 110, 117, 115]), .string (bs [98, 111, 110, 117, 115]), .string { data := #[] }, .int .i64 0, .int .i64 0, .string { data := #[] }] 44), (.cells #[.slice (some ⟨w3.heap.size + 1 + 1 + 1 + 1, 0, none⟩) 3 3, .slice (some ⟨w3.heap.size + 1 + 1 + 1 + 1 + 1, 0, none⟩) 2 2] 45), (.cells #[.int .i64 0, .int .i64 0] 3), (.cells #[.int .i64 1, .int .i64 (-1)] 3), (.cells #[.int .i64 2, .int .i64 1] 3), (.cells #[.slice (some ⟨w3.heap.size + 1 + 1 + 1 + 1 + 1 + 1 + 1, 0, none⟩) 2 2, .slice (some ⟨w3.heap.size + 1 + 1 + 1 + 1 + 1 + 1 + 1 + 1, 0, none⟩) 2 2, .slice (some ⟨w3.heap.size + 1 + 1 + 1 + 1 + 1 + 1 + 1 + 1 + 1, 0, none⟩) 2 2] 37), (.cells #[.string { data := #[73] }, .slice (some ⟨w3.heap.size + 1 + 1 + 1, 0, none⟩) 2 2, .slice (some ⟨w3.heap.size + 1 + 1 + 1 + 1 + 1 + 1, 0, none⟩) 2 2, .slice (some ⟨w3.heap.size + 1 + 1 + 1 + 1 + 1 + 1 + 1 + 1 + 1 + 1, 0, none⟩) 3 3] 26)] = WX := ⟨_, rfl⟩
  have hcv : ((((((((((((w3.alloc (.cells #[.string (bs [100, 101, 117, 115]), .string (bs [100, 101, 117, 115]), .string { data := #[] }, .int .i64 0, .int .i64 0, .string { data := #[] }] 44)).alloc (.cells #[.string (bs [101, 115, 116]), .string (bs [101, 115, 116]), .string { data := #[] }, .int .i64 0, .int .i64 0, .string { data := #[] }] 44)).alloc (.cells #[.string (bs [98, 111, 110, 117, 115]), .string (bs [98, 111, 110, 117, 115]), .string { data := #[] }, .int .i64 0, .int .i64 0, .string { data := #[] }] 44)).alloc (.cells #[.string { data := #[65] }, .string { data := #[66] }] 9)).alloc (.cells #[.string (bs [100, 101, 117, 115]), .string (bs [100, 101, 117, 115]), .string { data := #[] }, .int .i64 0, .int .i64 0, .string { data := #[] }, .string (bs [101, 115, 116]), .string (bs [101, 115, 116]), .string { data := #[] }, .int .i64 0, .int .i64 0, .string { data := #[] }, .string (bs [98, 111, 110, 117, 115]), .string (bs [98, 111, 110, 117, 115]), .string { data := #[] }, .int .i64 0, .int .i64 0, .string { data := #[] }] 44)).alloc (.cells #[.string (bs [100, 101, 117, 115]), .string (bs [100, 101, 117, 115]), .string { data := #[] }, .int .i64 0, .int .i64 0, .string { data := #[] }, .string (bs [98, 111, 110, 117, 115]), .string (bs [98, 111, 110, 117, 115]), .string { data := #[] }, .int .i64 0, .int .i64 0, .string { data := #[] }] 44)).alloc (.cells #[.slice (some ⟨w3.heap.size + 1 + 1 + 1 + 1, 0, none⟩) 3 3, .slice (some ⟨w3.heap.size + 1 + 1 + 1 + 1 + 1, 0, none⟩) 2 2] 45)).alloc (.cells #[.int .i64 0, .int .i64 0] 3)).alloc (.cells #[.int .i64 1, .int .i64 (-1)] 3)).alloc (.cells #[.int .i64 2, .int .i64 1] 3)).alloc (.cells #[.slice (some ⟨w3.heap.size + 1 + 1 + 1 + 1 + 1 + 1 + 1, 0, none⟩) 2 2, .slice (some ⟨w3.heap.size + 1 + 1 + 1 + 1 + 1 + 1 + 1 + 1, 0, none⟩) 2 2, .slice (some ⟨w3.heap.size + 1 + 1 + 1 + 1 + 1 + 1 + 1 + 1 + 1, 0, none⟩) 2 2] 37)).alloc (.cells #[.string { data := #[73] }, .slice (some ⟨w3.heap.size + 1 + 1 + 1, 0, none⟩) 2 2, .slice (some ⟨w3.heap.size + 1 + 1 + 1 + 1 + 1 + 1, 0, none⟩) 2 2, .slice (some ⟨w3.heap.size + 1 + 1 + 1 + 1 + 1 + 1 + 1 + 1 + 1 + 1, 0, none⟩) 3 3] 26)) = WX := hWX
  have HBX := Lib.hid (show Below w3.heap.size w3 WX by rw [← hWX]; exact allocs_below _ _)
  have g3 : WX.heap[w3.heap.size + 1 + 1 + 1]? = some (.cells #[.string { data := #[65] }, .string { data := #[66] }] 9 (0, 0)) := by rw [← hWX]; exact allocs_at (i := 3) rfl
  have g4 : WX.heap[w3.heap.size + 1 + 1 + 1 + 1]? = some (.cells #[.string (bs [100, 101, 117, 115]), .string (bs [100, 101, 117, 115]), .string { data := #[] }, .int .i64 0, .int .i64 0, .string { data := #[] }, .string (bs [101, 115, 116]), .string (bs [101, 115, 116]), .string { data := #[] }, .int .i64 0, .int .i64 0, .string { data := #[] }, .string (bs [98, 111, 110, 117, 115]), .string (bs [98, 111, 110, 117, 115]), .string { data := #[] }, .int .i64 0, .int .i64 0, .string { data := #[] }] 44 (0, 0)) := by rw [← hWX]; exact allocs_at (i := 4) rfl
  have g5 : WX.heap[w3.heap.size + 1 + 1 + 1 + 1 + 1]? = some (.cells #[.string (bs [100, 101, 117, 115]), .string (bs [100, 101, 117, 115]), .string { data := #[] }, .int .i64 0, .int .i64 0, .string { data := #[] }, .string (bs [98, 111, 110, 117, 115]), .string (bs [98, 111, 110, 117, 115]), .string { data := #[] }, .int .i64 0, .int .i64 0, .string { data := #[] }] 44 (0, 0)) := by rw [← hWX]; exact allocs_at (i := 5) rfl
  have g6 : WX.heap[w3.heap.size + 1 + 1 + 1 + 1 + 1 + 1]? = some (.cells #[.slice (some ⟨w3.heap.size + 1 + 1 + 1 + 1, 0, none⟩) 3 3, .slice (some ⟨w3.heap.size + 1 + 1 + 1 + 1 + 1, 0, none⟩) 2 2] 45 (0, 0)) := by rw [← hWX]; exact allocs_at (i := 6) rfl
  have g7 : WX.heap[w3.heap.size + 1 + 1 + 1 + 1 + 1 + 1 + 1]? = some (.cells #[.int .i64 0, .int .i64 0] 3 (0, 0)) := by rw [← hWX]; exact allocs_at (i := 7) rfl
  have g8 : WX.heap[w3.heap.size + 1 + 1 + 1 + 1 + 1 + 1 + 1 + 1]? = some (.cells #[.int .i64 1, .int .i64 (-1)] 3 (0, 0)) := by rw [← hWX]; exact allocs_at (i := 8) rfl
  have g9 : WX.heap[w3.heap.size + 1 + 1 + 1 + 1 + 1 + 1 + 1 + 1 + 1]? = some (.cells #[.int .i64 2, .int .i64 1] 3 (0, 0)) := by rw [← hWX]; exact allocs_at (i := 9) rfl
  have g10 : WX.heap[w3.heap.size + 1 + 1 + 1 + 1 + 1 + 1 + 1 + 1 + 1 + 1]? = some (.cells #[.slice (some ⟨w3.heap.size + 1 + 1 + 1 + 1 + 1 + 1 + 1, 0, none⟩) 2 2, .slice (some ⟨w3.heap.size + 1 + 1 + 1 + 1 + 1 + 1 + 1 + 1, 0, none⟩) 2 2, .slice (some ⟨w3.heap.size + 1 + 1 + 1 + 1 + 1 + 1 + 1 + 1 + 1, 0, none⟩) 2 2] 37 (0, 0)) := by rw [← hWX]; exact allocs_at (i := 10) rfl
  have g11 : WX.heap[w3.heap.size + 1 + 1 + 1 + 1 + 1 + 1 + 1 + 1 + 1 + 1 + 1]? = some (.cells #[.string { data := #[73] }, .slice (some ⟨w3.heap.size + 1 + 1 + 1, 0, none⟩) 2 2, .slice (some ⟨w3.heap.size + 1 + 1 + 1 + 1 + 1 + 1, 0, none⟩) 2 2, .slice (some ⟨w3.heap.size + 1 + 1 + 1 + 1 + 1 + 1 + 1 + 1 + 1 + 1, 0, none⟩) 3 3] 26 (0, 0)) := by rw [← hWX]; exact allocs_at (i := 11) rfl
  have tS : ∀ (s : Str), s.length ≤ 5 → TokS ⟨s, s, [], 0, 0, []⟩ := fun s hs => ⟨by simp only; omega, by simp only; omega, by simp, ⟨by simp, by simp⟩, ⟨by simp, by simp⟩, by simp⟩
  have t1 : ToksV WX (.slice (some ⟨w3.heap.size + 1 + 1 + 1 + 1, 0, none⟩) 3 3) [exD, exE, exB] := ⟨_, _, _, rfl, slM_at ⟨⟨⟨blk_cell g4 rfl, blk_cell g4 rfl, blk_cell g4 rfl, blk_cell g4 rfl, blk_cell g4 rfl, blk_cell g4 rfl⟩, tS _ (by decide)⟩, ⟨⟨blk_cell g4 rfl, blk_cell g4 rfl, blk_cell g4 rfl, blk_cell g4 rfl, blk_cell g4 rfl, blk_cell g4 rfl⟩, tS _ (by decide)⟩, ⟨⟨blk_cell g4 rfl, blk_cell g4 rfl, blk_cell g4 rfl, blk_cell g4 rfl, blk_cell g4 rfl, blk_cell g4 rfl⟩, tS _ (by decide)⟩, trivial⟩ rfl (by omega)⟩
  have t2 : ToksV WX (.slice (some ⟨w3.heap.size + 1 + 1 + 1 + 1 + 1, 0, none⟩) 2 2) [exD, exB] := ⟨_, _, _, rfl, slM_at ⟨⟨⟨blk_cell g5 rfl, blk_cell g5 rfl, blk_cell g5 rfl, blk_cell g5 rfl, blk_cell g5 rfl, blk_cell g5 rfl⟩, tS _ (by decide)⟩, ⟨⟨blk_cell g5 rfl, blk_cell g5 rfl, blk_cell g5 rfl, blk_cell g5 rfl, blk_cell g5 rfl, blk_cell g5 rfl⟩, tS _ (by decide)⟩, trivial⟩ rfl (by omega)⟩
  have hC : CollM WX (some ⟨w3.heap.size + 1 + 1 + 1, 0, none⟩) (some ⟨w3.heap.size + 1 + 1 + 1 + 1 + 1 + 1, 0, none⟩) (some ⟨w3.heap.size + 1 + 1 + 1 + 1 + 1 + 1 + 1 + 1 + 1 + 1, 0, none⟩) 2 2 3 exC :=
    ⟨by simp [exC], sl_at g3 ⟨rfl, rfl, trivial⟩ rfl (by omega), by simp [exC], sl_at g6 ⟨t1, t2, trivial⟩ rfl (by omega),
      sl_at g10 ⟨⟨_, _, _, rfl, sl_at g7 ⟨⟨rfl, by decide, by decide⟩, ⟨rfl, by decide, by decide⟩, trivial⟩ rfl (by omega)⟩, ⟨_, _, _, rfl, sl_at g8 ⟨⟨rfl, by decide, by decide⟩, ⟨rfl, by decide, by decide⟩, trivial⟩ rfl (by omega)⟩, ⟨_, _, _, rfl, sl_at g9 ⟨⟨rfl, by decide, by decide⟩, ⟨rfl, by decide, by decide⟩, trivial⟩ rfl (by omega)⟩, trivial⟩ rfl (by omega)⟩
  have HU := Lib.hid (unitsP exC _ 2 2 _ 2 2 _ 3 3 WX hC (by omega) (hev.mono (Nat.le_refl _) (bstep HB3.out HBX.out)) (by decide) exC_ok)
  rw [hcv]
  clear hcv hC t1 t2 tS g3 g4 g5 g6 g7 g8 g9 g10 g11 hWX hev
  refine (callsIn_wide.1 HU.out).mono ?_
  rintro e w5 ⟨v, rfl, hv, hb5⟩
  rw [plcsB_iff.1 exC_un] at hv
  obtain ⟨a9, k9, rfl, hP9⟩ := hv.plcs hb5 (by simp) (fun u hu => by rw [List.mem_singleton] at hu; subst hu; exact ⟨by simp, fun r hr => by rcases List.mem_cons.1 hr with rfl | hr; exact ⟨by simp, by simp⟩; rw [List.mem_singleton] at hr; subst hr; exact ⟨by simp, by simp⟩⟩)
  have HP9 := Lib.hid hP9
  have HB5 := Lib.hid (bstep (bstep HB3.out HBX.out) hb5)
  clear hv hb5 hP9
  go_wp2_with (fail)
  obtain ⟨WY, hWY⟩ : ∃ WY, allocs w5 [(.cells #[.string { data := #[101, 115, 116] }] 9), (.cells #[.int .i64 0] 3), (.cells #[.int .i64 1] 3), (.cells #[.slice (some ⟨w5.heap.size, 0, none⟩) 1 1, .slice (some ⟨w5.heap.size + 1, 0, none⟩) 1 1, .slice none 0 0, .slice (some ⟨w5.heap.size + 1 + 1, 0, none⟩) 1 1] 39), (.cells #[.int .i64 1, .int .i64 2, .slice (some ⟨w5.heap.size + 1 + 1 + 1, 0, none⟩) 2 2] 36)] = WY := ⟨_, rfl⟩
  have hcv : (((((w5.alloc (.cells #[.string { data := #[101, 115, 116] }] 9)).alloc (.cells #[.int .i64 0] 3)).alloc (.cells #[.int .i64 1] 3)).alloc (.cells #[.slice (some ⟨w5.heap.size, 0, none⟩) 1 1, .slice (some ⟨w5.heap.size + 1, 0, none⟩) 1 1, .slice none 0 0, .slice (some ⟨w5.heap.size + 1 + 1, 0, none⟩) 1 1] 39)).alloc (.cells #[.int .i64 1, .int .i64 2, .slice (some ⟨w5.heap.size + 1 + 1 + 1, 0, none⟩) 2 2] 36)) = WY := hWY
  have HBY := Lib.hid (show Below w5.heap.size w5 WY by rw [← hWY]; exact allocs_below _ _)
  have g0 : WY.heap[w5.heap.size]? = some (.cells #[.string { data := #[101, 115, 116] }] 9 (0, 0)) := by rw [← hWY]; exact allocs_at (i := 0) rfl
  have g1 : WY.heap[w5.heap.size + 1]? = some (.cells #[.int .i64 0] 3 (0, 0)) := by rw [← hWY]; exact allocs_at (i := 1) rfl
  have g2 : WY.heap[w5.heap.size + 1 + 1]? = some (.cells #[.int .i64 1] 3 (0, 0)) := by rw [← hWY]; exact allocs_at (i := 2) rfl
  have g3 : WY.heap[w5.heap.size + 1 + 1 + 1]? = some (.cells #[.slice (some ⟨w5.heap.size, 0, none⟩) 1 1, .slice (some ⟨w5.heap.size + 1, 0, none⟩) 1 1, .slice none 0 0, .slice (some ⟨w5.heap.size + 1 + 1, 0, none⟩) 1 1] 39 (0, 0)) := by rw [← hWY]; exact allocs_at (i := 3) rfl
  have g4 : WY.heap[w5.heap.size + 1 + 1 + 1 + 1]? = some (.cells #[.int .i64 1, .int .i64 2, .slice (some ⟨w5.heap.size + 1 + 1 + 1, 0, none⟩) 2 2] 36 (0, 0)) := by rw [← hWY]; exact allocs_at (i := 4) rfl
  have hL : Plcs WY (some ⟨w5.heap.size + 1 + 1 + 1 + 1, 0, none⟩) 1 [⟨1, 2, [([[101, 115, 116]], [0]), ([], [1])]⟩] := slM_at ⟨⟨_, _, _, blk_cell g4 rfl, blk_cell g4 rfl, blk_cell g4 rfl,
    slM_at ⟨⟨_, _, _, _, _, _, blk_cell g3 rfl, sl_at g0 ⟨rfl, trivial⟩ rfl (by omega), blk_cell g3 rfl, sl_at g1 ⟨⟨rfl, by decide, by decide⟩, trivial⟩ rfl (by omega)⟩, ⟨_, _, _, _, _, _, blk_cell g3 rfl, Sl.nil _ _, blk_cell g3 rfl, sl_at g2 ⟨⟨rfl, by decide, by decide⟩, trivial⟩ rfl (by omega)⟩, trivial⟩ rfl (by omega), by simp [I64], by simp [I64], by omega⟩, trivial⟩ rfl (by omega)
  have HQ := Lib.hid (samePq a9 _ k9 1 1 1 _ _ WY (HP9.out.mono (Nat.le_refl _) HBY.out) hL)
  rw [plcsB_iff.2 rfl] at HQ
  rw [hcv]
  clear hcv hL g0 g1 g2 g3 g4 hWY
  refine HQ.out.mono ?_
  rintro e w6 ⟨rfl, q, rfl⟩
  go_wp2_with (fail)
  go_ret
  exact ⟨rfl, bstep (bstep HB5.out HBY.out) (bdrewN _ _)⟩
end Go.Proofs.YthfppkcefnmdoaaGreatDoor
