/-
  The collation of the chapter's example.
-/
import Derived.Test.YtjmebijckcimoaaGreatDoorUa
import Derived.Test.YtjmebijckcimoaaGreatDoorVgk
import Derived.Test.YtjmebijckcimoaaGreatDoorCk
namespace Go.Proofs.YtjmebijckcimoaaGreatDoor
open Go.RowKit Go.Ap Go.Shelf Go.Proofs

attribute [local go_sem] Oper.semAt_some bs_toList empty_toList bs_size bs_extract
def wordV (s : Str) : Value := .agg #[.string (bs s), .string (bs s), .string { data := #[] }, .int .i64 0, .int .i64 0, .string { data := #[] }]
theorem token40 (s : Str) (w : World) : Calls Tryz.prog 40 #[.string (bs s)] w fun e w' => e = .returned (wordV s) ∧ Below w.heap.size w w' := by
  unfold wordV
  go_enter Tryz.func40, Tryz.ntmps40
  go_wp2_with (fail)
  have c0 : (w.alloc (.cells #[.string (bs s), .string (bs s), .string { data := #[] }, .int .i64 0, .int .i64 0, .string { data := #[] }] 65)).cell? ⟨w.heap.size, 0, none⟩ = some (.string (bs s)) := cell_fresh rfl rfl
  have c1 : (w.alloc (.cells #[.string (bs s), .string (bs s), .string { data := #[] }, .int .i64 0, .int .i64 0, .string { data := #[] }] 65)).cell? ⟨w.heap.size, 1, none⟩ = some (.string (bs s)) := cell_fresh rfl rfl
  have c2 : (w.alloc (.cells #[.string (bs s), .string (bs s), .string { data := #[] }, .int .i64 0, .int .i64 0, .string { data := #[] }] 65)).cell? ⟨w.heap.size, 2, none⟩ = some (.string { data := #[] }) := cell_fresh rfl rfl
  have c3 : (w.alloc (.cells #[.string (bs s), .string (bs s), .string { data := #[] }, .int .i64 0, .int .i64 0, .string { data := #[] }] 65)).cell? ⟨w.heap.size, 3, none⟩ = some (.int .i64 0) := cell_fresh rfl rfl
  have c4 : (w.alloc (.cells #[.string (bs s), .string (bs s), .string { data := #[] }, .int .i64 0, .int .i64 0, .string { data := #[] }] 65)).cell? ⟨w.heap.size, 4, none⟩ = some (.int .i64 0) := cell_fresh rfl rfl
  have c5 : (w.alloc (.cells #[.string (bs s), .string (bs s), .string { data := #[] }, .int .i64 0, .int .i64 0, .string { data := #[] }] 65)).cell? ⟨w.heap.size, 5, none⟩ = some (.string { data := #[] }) := cell_fresh rfl rfl
  refine bodyPost_ret (v := .agg #[.string (bs s), .string (bs s), .string { data := #[] }, .int .i64 0, .int .i64 0, .string { data := #[] }]) (by simp [results, Tryz.f40, go_sem, c0, c1, c2, c3, c4, c5]) rfl ⟨rfl, balloc _ _⟩
def exD : Tok := ⟨[100, 101, 117, 115], [100, 101, 117, 115], [], 0, 0, []⟩
def exE : Tok := ⟨[101, 115, 116], [101, 115, 116], [], 0, 0, []⟩
def exB : Tok := ⟨[98, 111, 110, 117, 115], [98, 111, 110, 117, 115], [], 0, 0, []⟩
def exC : Coll := ⟨[97], [[65], [66]], [[exD, exE, exB], [exD, exB]], [[0, 0], [1, -1], [2, 1]]⟩
def exA : Coll := ⟨[97], [[65]], [[exD, exE]], [[0], [1]]⟩
theorem store4 {W : World} {b : Nat} {c0 c1 c2 c3 : Value} {t : TypeId} (h : BlkK W b #[c0, c1, c2, c3] t) (a0 a1 a2 a3 : Value) :
    ∃ W', W' = (((W.setCell ⟨b, 0, none⟩ a0).setCell ⟨b, 1, none⟩ a1).setCell ⟨b, 2, none⟩ a2).setCell ⟨b, 3, none⟩ a3 ∧ BlkK W' b #[a0, a1, a2, a3] t ∧ W.grownBy W' (some b) := by
  refine ⟨_, rfl, BlkK.put (BlkK.put (BlkK.put (BlkK.put h))), rfl, rfl, rfl, by simp [World.setCell], fun k _ hk => ?_⟩
  have hne : b ≠ k := fun e => hk (by rw [e])
  rw [Below.heap_setCell _ _ _ _ hne.symm, Below.heap_setCell _ _ _ _ hne.symm, Below.heap_setCell _ _ _ _ hne.symm, Below.heap_setCell _ _ _ _ hne.symm]
theorem exTok (s : Str) (hs : s.length ≤ 5) : TokS ⟨s, s, [], 0, 0, []⟩ := ⟨by simp only; omega, by simp only; omega, by simp, ⟨by simp, by simp⟩, ⟨by simp, by simp⟩, by simp⟩
set_option maxRecDepth 100000 in
set_option maxHeartbeats 4000000 in
theorem sampleP (w : World) : Calls Tryz.prog 39 #[] w fun e w' => ∃ a1 a2 a3, e = .returned (collV [97] a1 2 2 a2 2 2 a3 3 3) ∧ CollM w' a1 a2 a3 2 2 3 exC ∧ Below w.heap.size w w' := by
  have HT := Lib.hid (fun s W => token40 s W)
  unfold wordV at HT
  obtain ⟨W0, hW0⟩ : ∃ W0, (w.alloc (.cells #[.string { data := #[] }, .slice none 0 0, .slice none 0 0, .slice none 0 0] 26)).alloc (.cells #[.string { data := #[65] }, .string { data := #[66] }] 9) = W0 := ⟨_, rfl⟩
  have K0 := Lib.hid (show BlkK W0 w.heap.size #[.string { data := #[] }, .slice none 0 0, .slice none 0 0, .slice none 0 0] 26 by rw [← hW0]; exact (BlkK.new w _ _).allocK _)
  have S0 := Lib.hid (show BlkK W0 (w.heap.size + 1) #[.string { data := #[65] }, .string { data := #[66] }] 9 by
    rw [← hW0]
    have := BlkK.new (w.alloc (.cells #[.string { data := #[] }, .slice none 0 0, .slice none 0 0, .slice none 0 0] 26)) #[.string { data := #[65] }, .string { data := #[66] }] 9
    rwa [World.size_alloc] at this)
  have HB0 := Lib.hid (show Below w.heap.size w W0 by rw [← hW0]; exact bstep (balloc _ _) (balloc _ _))
  go_enter Tryz.func39, Tryz.ntmps39
  go_wp2_with (fail)
  try rw [hW0]
  refine (HT.out [100, 101, 117, 115] _).mono ?_
  rintro e w1 ⟨rfl, hb1⟩
  go_wp2_with (fail)
  refine (HT.out [101, 115, 116] _).mono ?_
  rintro e w2 ⟨rfl, hb2⟩
  go_wp2_with (fail)
  refine (HT.out [98, 111, 110, 117, 115] _).mono ?_
  rintro e w3 ⟨rfl, hb3⟩
  have hb3' := bstep (bstep hb1 hb2) hb3
  have kb3 := balloc w3 (.cells #[.string (bs [100, 101, 117, 115]), .string (bs [100, 101, 117, 115]), .string { data := #[] }, .int .i64 0, .int .i64 0, .string { data := #[] }, .string (bs [101, 115, 116]), .string (bs [101, 115, 116]), .string { data := #[] }, .int .i64 0, .int .i64 0, .string { data := #[] }, .string (bs [98, 111, 110, 117, 115]), .string (bs [98, 111, 110, 117, 115]), .string { data := #[] }, .int .i64 0, .int .i64 0, .string { data := #[] }] 65)
  have hT1 := BlkK.new w3 #[.string (bs [100, 101, 117, 115]), .string (bs [100, 101, 117, 115]), .string { data := #[] }, .int .i64 0, .int .i64 0, .string { data := #[] }, .string (bs [101, 115, 116]), .string (bs [101, 115, 116]), .string { data := #[] }, .int .i64 0, .int .i64 0, .string { data := #[] }, .string (bs [98, 111, 110, 117, 115]), .string (bs [98, 111, 110, 117, 115]), .string { data := #[] }, .int .i64 0, .int .i64 0, .string { data := #[] }] 65
  have K3 := Lib.hid ((K0.out.below hb3').below kb3)
  have S3 := Lib.hid ((S0.out.below hb3').below kb3)
  have HB3 := Lib.hid (bstep (bstep HB0.out hb3') kb3)
  obtain ⟨W3, hW3⟩ : ∃ W, w3.alloc (.cells #[.string (bs [100, 101, 117, 115]), .string (bs [100, 101, 117, 115]), .string { data := #[] }, .int .i64 0, .int .i64 0, .string { data := #[] }, .string (bs [101, 115, 116]), .string (bs [101, 115, 116]), .string { data := #[] }, .int .i64 0, .int .i64 0, .string { data := #[] }, .string (bs [98, 111, 110, 117, 115]), .string (bs [98, 111, 110, 117, 115]), .string { data := #[] }, .int .i64 0, .int .i64 0, .string { data := #[] }] 65) = W := ⟨_, rfl⟩
  rw [hW3] at hT1 K3 S3 HB3
  obtain ⟨b3, hb3b⟩ : ∃ b, w3.heap.size = b := ⟨_, rfl⟩
  rw [hb3b] at hT1
  have T3 := Lib.hid hT1
  clear hb1 hb2 hb3 hb3' kb3 hT1 hW0 K0 S0 HB0
  go_wp2_with (fail)
  try rw [hW3]
  try rw [hb3b]
  clear hW3 hb3b
  refine (HT.out [100, 101, 117, 115] _).mono ?_
  rintro e w4 ⟨rfl, hb4⟩
  go_wp2_with (fail)
  refine (HT.out [98, 111, 110, 117, 115] _).mono ?_
  rintro e w5 ⟨rfl, hb5⟩
  have hb5' := bstep hb4 hb5
  obtain ⟨q, hq⟩ : ∃ q, w5.heap.size = q := ⟨_, rfl⟩
  obtain ⟨WE, hWE⟩ : ∃ WE, allocs w5 [(.cells #[.string (bs [100, 101, 117, 115]), .string (bs [100, 101, 117, 115]), .string { data := #[] }, .int .i64 0, .int .i64 0, .string { data := #[] }, .string (bs [98, 111, 110, 117, 115]), .string (bs [98, 111, 110, 117, 115]), .string { data := #[] }, .int .i64 0, .int .i64 0, .string { data := #[] }] 65), (.cells #[.slice (some ⟨b3, 0, none⟩) 3 3, .slice (some ⟨q, 0, none⟩) 2 2] 67), (.cells #[.int .i64 0, .int .i64 0] 3), (.cells #[.int .i64 1, .int .i64 (-1)] 3), (.cells #[.int .i64 2, .int .i64 1] 3), (.cells #[.slice (some ⟨q + 1 + 1, 0, none⟩) 2 2, .slice (some ⟨q + 1 + 1 + 1, 0, none⟩) 2 2, .slice (some ⟨q + 1 + 1 + 1 + 1, 0, none⟩) 2 2] 44)] = WE := ⟨_, rfl⟩
  have hcv : ((((((w5.alloc (.cells #[.string (bs [100, 101, 117, 115]), .string (bs [100, 101, 117, 115]), .string { data := #[] }, .int .i64 0, .int .i64 0, .string { data := #[] }, .string (bs [98, 111, 110, 117, 115]), .string (bs [98, 111, 110, 117, 115]), .string { data := #[] }, .int .i64 0, .int .i64 0, .string { data := #[] }] 65)).alloc (.cells #[.slice (some ⟨b3, 0, none⟩) 3 3, .slice (some ⟨q, 0, none⟩) 2 2] 67)).alloc (.cells #[.int .i64 0, .int .i64 0] 3)).alloc (.cells #[.int .i64 1, .int .i64 (-1)] 3)).alloc (.cells #[.int .i64 2, .int .i64 1] 3)).alloc (.cells #[.slice (some ⟨q + 1 + 1, 0, none⟩) 2 2, .slice (some ⟨q + 1 + 1 + 1, 0, none⟩) 2 2, .slice (some ⟨q + 1 + 1 + 1 + 1, 0, none⟩) 2 2] 44)) = WE := hWE
  have hbe : Below w5.heap.size w5 WE := by rw [← hWE]; exact allocs_below _ _
  have hb5e := bstep hb5' hbe
  have KE := Lib.hid (K3.out.below hb5e)
  have SE := Lib.hid (S3.out.below hb5e)
  have TE := Lib.hid (T3.out.below hb5e)
  have HBE := Lib.hid (bstep HB3.out hb5e)
  have G0 := Lib.hid (show BlkK WE (q) #[.string (bs [100, 101, 117, 115]), .string (bs [100, 101, 117, 115]), .string { data := #[] }, .int .i64 0, .int .i64 0, .string { data := #[] }, .string (bs [98, 111, 110, 117, 115]), .string (bs [98, 111, 110, 117, 115]), .string { data := #[] }, .int .i64 0, .int .i64 0, .string { data := #[] }] 65 by rw [← hWE, ← hq]; exact allocs_at (i := 0) rfl)
  have G1 := Lib.hid (show BlkK WE (q + 1) #[.slice (some ⟨b3, 0, none⟩) 3 3, .slice (some ⟨q, 0, none⟩) 2 2] 67 by rw [← hWE, ← hq]; exact allocs_at (i := 1) rfl)
  have G2 := Lib.hid (show BlkK WE (q + 1 + 1) #[.int .i64 0, .int .i64 0] 3 by rw [← hWE, ← hq]; exact allocs_at (i := 2) rfl)
  have G3 := Lib.hid (show BlkK WE (q + 1 + 1 + 1) #[.int .i64 1, .int .i64 (-1)] 3 by rw [← hWE, ← hq]; exact allocs_at (i := 3) rfl)
  have G4 := Lib.hid (show BlkK WE (q + 1 + 1 + 1 + 1) #[.int .i64 2, .int .i64 1] 3 by rw [← hWE, ← hq]; exact allocs_at (i := 4) rfl)
  have G5 := Lib.hid (show BlkK WE (q + 1 + 1 + 1 + 1 + 1) #[.slice (some ⟨q + 1 + 1, 0, none⟩) 2 2, .slice (some ⟨q + 1 + 1 + 1, 0, none⟩) 2 2, .slice (some ⟨q + 1 + 1 + 1 + 1, 0, none⟩) 2 2] 44 by rw [← hWE, ← hq]; exact allocs_at (i := 5) rfl)
  have hlt := hb5e.size
  have hQW := hq
  have hsb : w.heap.size + 1 < w5.heap.size := by have h1 := S3.out.lt; have h2 := hb5'.size; omega
  have HSB := Lib.hid hsb
  have HTB := Lib.hid (show b3 < w5.heap.size by have h1 := T3.out.lt; have h2 := hb5'.size; omega)
  have HTN := Lib.hid (show w.heap.size + 1 < b3 ∨ b3 ≠ w.heap.size by
    right
    intro e
    have h1 := K3.out
    rw [← e] at h1
    have h2 := h1.symm.trans T3.out
    cases h2)
  have r0 := KE.out.cell (i := 0) (u := .string { data := #[] }) rfl
  have r1 := KE.out.cell (i := 1) (u := .slice none 0 0) rfl
  have r2 := KE.out.cell (i := 2) (u := .slice none 0 0) rfl
  have r3 := KE.out.cell (i := 3) (u := .slice none 0 0) rfl
  have f0 := KE.out.hard (i := 0)
  have f1 := KE.out.hard (i := 1)
  have f2 := KE.out.hard (i := 2)
  have f3 := KE.out.hard (i := 3)
  clear hb4 hb5 hb5' hbe hb5e hlt hsb
  go_wp2_with (fail)
  clear r0 r1 r2 r3 f0 f1 f2 f3
  obtain ⟨WS, hWS, hbs, hgs⟩ := store4 KE.out (.string { data := #[97] }) (.slice (some ⟨w.heap.size + 1, 0, none⟩) 2 2) (.slice (some ⟨q + 1, 0, none⟩) 2 2) (.slice (some ⟨q + 1 + 1 + 1 + 1 + 1, 0, none⟩) 3 3)
  rw [← hWS]
  have r0 := hbs.cell (i := 0) rfl
  have r1 := hbs.cell (i := 1) rfl
  have r2 := hbs.cell (i := 2) rfl
  have r3 := hbs.cell (i := 3) rfl
  refine bodyPost_ret (v := .agg #[.string { data := #[97] }, .slice (some ⟨w.heap.size + 1, 0, none⟩) 2 2, .slice (some ⟨q + 1, 0, none⟩) 2 2, .slice (some ⟨q + 1 + 1 + 1 + 1 + 1, 0, none⟩) 3 3]) ?hres rfl ?_
  case hres => simp [results, Tryz.f39, go_sem, r0, r1, r2, r3]
  have kp : ∀ {b : Nat} {cs : Array Value} {t : TypeId}, BlkK WE b cs t → b ≠ w.heap.size → BlkK WS b cs t := fun h hne => (hgs.block _ h.lt (fun e => hne (by cases e; rfl))).trans h
  have hwq : w.heap.size < q := by have := HSB.out; omega
  have s0 := kp SE.out (by omega)
  have t0 := kp TE.out (by rcases HTN.out with h | h; omega; exact h)
  have h0 := kp G0.out (by omega)
  have h1 := kp G1.out (by omega)
  have h2 := kp G2.out (by omega)
  have h3 := kp G3.out (by omega)
  have h4 := kp G4.out (by omega)
  have h5 := kp G5.out (by omega)
  have t1 : ToksV WS (.slice (some ⟨b3, 0, none⟩) 3 3) [exD, exE, exB] := ⟨_, _, _, rfl, slM_at ⟨⟨⟨blk_cell t0 rfl, blk_cell t0 rfl, blk_cell t0 rfl, blk_cell t0 rfl, blk_cell t0 rfl, blk_cell t0 rfl⟩, exTok _ (by decide)⟩, ⟨⟨blk_cell t0 rfl, blk_cell t0 rfl, blk_cell t0 rfl, blk_cell t0 rfl, blk_cell t0 rfl, blk_cell t0 rfl⟩, exTok _ (by decide)⟩, ⟨⟨blk_cell t0 rfl, blk_cell t0 rfl, blk_cell t0 rfl, blk_cell t0 rfl, blk_cell t0 rfl, blk_cell t0 rfl⟩, exTok _ (by decide)⟩, trivial⟩ rfl (by omega)⟩
  have t2 : ToksV WS (.slice (some ⟨q, 0, none⟩) 2 2) [exD, exB] := ⟨_, _, _, rfl, slM_at ⟨⟨⟨blk_cell h0 rfl, blk_cell h0 rfl, blk_cell h0 rfl, blk_cell h0 rfl, blk_cell h0 rfl, blk_cell h0 rfl⟩, exTok _ (by decide)⟩, ⟨⟨blk_cell h0 rfl, blk_cell h0 rfl, blk_cell h0 rfl, blk_cell h0 rfl, blk_cell h0 rfl, blk_cell h0 rfl⟩, exTok _ (by decide)⟩, trivial⟩ rfl (by omega)⟩
  refine ⟨_, _, _, rfl, ⟨by simp [exC], sl_at s0 ⟨rfl, rfl, trivial⟩ rfl (by omega), by simp [exC], sl_at h1 ⟨t1, t2, trivial⟩ rfl (by omega),
      sl_at h5 ⟨⟨_, _, _, rfl, sl_at h2 ⟨⟨rfl, by decide, by decide⟩, ⟨rfl, by decide, by decide⟩, trivial⟩ rfl (by omega)⟩, ⟨_, _, _, rfl, sl_at h3 ⟨⟨rfl, by decide, by decide⟩, ⟨rfl, by decide, by decide⟩, trivial⟩ rfl (by omega)⟩, ⟨_, _, _, rfl, sl_at h4 ⟨⟨rfl, by decide, by decide⟩, ⟨rfl, by decide, by decide⟩, trivial⟩ rfl (by omega)⟩, trivial⟩ rfl (by omega)⟩, HBE.out.grown hgs HBE.out.size fun k hk => by cases hk; exact Nat.le_refl _⟩
end Go.Proofs.YtjmebijckcimoaaGreatDoor
