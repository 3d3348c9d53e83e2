/-
  A list of places is right: the program's way (the walk).
-/
import Derived.Test.YthfppkcefnmdoaaGreatDoorRb
import Derived.Deep.RegionHeld3
namespace Go.Proofs.YthfppkcefnmdoaaGreatDoor
open Go.RowKit Go.Ap Go.Shelf Go.Proofs

attribute [local go_sem] Oper.semAt_some bs_toList empty_toList bs_size bs_extract
theorem wpIn_name {F : Fence} {n : Nat} {P : Program} {Q : Exit → Act → World → Prop} {c : Code} {a : Act} {w : World} (h : ∀ A, A = a → c.wpIn F n P Q A w) : c.wpIn F n P Q a w := h a rfl
/-- the boxes of right: the collation, the list, the answer -/
structure RtI (w : World) (cs : Array Value) (v : Value) (r : Value) (W : World) : Prop where
  b0 : BlkK W w.heap.size cs 26
  b1 : Boxed W (w.heap.size + 1) 31 v
  b2 : Boxed W (w.heap.size + 2) 4 r
  bel : Below w.heap.size w W
theorem RtI.below {w W W' : World} {cs : Array Value} {v r : Value} (h : RtI w cs v r W) (hb : Below W.heap.size W W') : RtI w cs v r W' := ⟨h.b0.below hb, boxed_below h.b1 hb, boxed_below h.b2 hb, bstep h.bel hb⟩
theorem RtI.keptN {w W W' : World} {cs : Array Value} {v r : Value} {row : Option Nat} (h : RtI w cs v r W) (hg : W.grownBy W' row) (hr : NoCells W row) (hr2 : ∀ r, row = some r → w.heap.size ≤ r) : RtI w cs v r W' :=
  ⟨h.b0.keptN hg hr, BlkK.keptN h.b1 hg hr, BlkK.keptN h.b2 hg hr, h.bel.grown hg h.bel.size fun r he => hr2 r he⟩
theorem RtI.setR {w W : World} {cs : Array Value} {v r : Value} (h : RtI w cs v r W) (r' : Value) : RtI w cs v r' (W.setCell ⟨w.heap.size + 2, 0, none⟩ r') :=
  ⟨h.b0.keptE (grownBy_setCell' W (w.heap.size + 2) r') (by simp), BlkK.keptE h.b1 (grownBy_setCell' W (w.heap.size + 2) r') (by simp), h.b2.set r', h.bel.setCell (p := ⟨w.heap.size + 2, 0, none⟩) (by simp) _⟩
set_option maxRecDepth 100000 in
set_option maxHeartbeats 16000000 in
theorem rightU (x : Coll) (a1 : Option Addr) (n1 c1 : Nat) (a2 : Option Addr) (n2 c2 : Nat) (a3 : Option Addr) (n3 c3 : Nat) (w : World) (h : CollM w a1 a2 a3 n1 n2 n3 x) (hv : Val x) (h32 : x.columns.length ≤ 1048576)
    (a : Option Addr) (n c : Nat) (us : List Plc) (hu : Plcs w a n us) :
    CallsIn Fence.wide 10 Tryz.prog 59 #[collV x.sec a1 n1 c1 a2 n2 c2 a3 n3 c3, .slice a n c] w fun e w' => e = .returned (.bool (rightB x us)) ∧ Below w.heap.size w w' := by
  have hl3 := h.columns.len
  have hle := hv.le
  have hlu := hu.len
  have hsu := hu.small
  have HRS := Lib.hid (fun lo hi (hlh : lo ≤ hi) (hh : hi ≤ n3) W (hb : Below w.heap.size w W) => readingsP x a1 n1 c1 a2 n2 c2 a3 n3 c3 W (h.mono (Nat.le_refl _) hb) hv lo hi hlh (by omega) h32)
  have HRU := Lib.hid (fun W => runsP' x a1 n1 c1 a2 n2 c2 a3 n3 c3 W)
  have HST := Lib.hid (fun (W : World) (Bx : Nat) (hb0 : Below w.heap.size w W) (hBx : Bx < W.heap.size) (hbx : BoxC W Bx x.sec a1 n1 c1 a2 n2 c2 a3 n3 c3) m hm => runs_stops x a1 n1 c1 a2 n2 c2 a3 n3 c3 W w h hv Bx hb0 hBx hbx m hm)
  have HSM := Lib.hid (fun lo hi (hh : hi - lo ≤ 1048576) => rdsL_small (x := x) (lo := lo) (hi := hi) hle hh)
  have HU := Lib.hid (fun W (hb : Below w.heap.size w W) => (Plcs.mono hu (Nat.le_refl _) hb))
  have HLU := Lib.hid hlu
  have eg := enters_of Tryz.func81 (by kernel_rfl) rfl
  have eg2 := enters_of Tryz.func88 (by kernel_rfl) rfl
  have hF54 : Fence.wide.fn 54 := trivial
  have hF53 : Fence.wide.fn 53 := trivial
  have hF87 : Fence.wide.fn 87 := trivial
  have hF24 : Fence.wide.fn 24 := trivial
  have HL3 := Lib.hid hl3
  clear h hu hlu
  unfold collV at HRS HRU ⊢
  refine callsIn_of_wp_marks Tryz.func59 rfl trivial ?_ rfl
  simp only [Tryz.ntmps59, List.size_toArray, List.length_cons, List.length_nil, Nat.reduceAdd, Nat.reduceSub, Array.replicate_succ, Array.replicate_zero, List.push_toArray, List.append_toArray, List.nil_append, List.cons_append]
  gi_wp2_with (fail)
  obtain ⟨W3, hW3⟩ : ∃ W3, ((w.alloc (.cells #[.string (bs x.sec), .slice a1 n1 c1, .slice a2 n2 c2, .slice a3 n3 c3] 26)).alloc (.cells #[.slice a n c] 31)).alloc (.cells #[.bool false] 4) = W3 := ⟨_, rfl⟩
  have HI3 := Lib.hid (show RtI w #[.string (bs x.sec), .slice a1 n1 c1, .slice a2 n2 c2, .slice a3 n3 c3] (.slice a n c) (.bool false) W3 from by
    rw [← hW3]
    refine ⟨?_, ?_, ?_, ?_⟩
    · exact ((BlkK.new w _ _).below (balloc _ _)).below (balloc _ _)
    · exact boxed_below (by have := Boxed.new (w.alloc (.cells #[.string (bs x.sec), .slice a1 n1 c1, .slice a2 n2 c2, .slice a3 n3 c3] 26)) 31 (.slice a n c); rwa [World.size_alloc] at this) (balloc _ _)
    · have := Boxed.new ((w.alloc (.cells #[.string (bs x.sec), .slice a1 n1 c1, .slice a2 n2 c2, .slice a3 n3 c3] 26)).alloc (.cells #[.slice a n c] 31)) 4 (.bool false)
      rwa [World.size_alloc, World.size_alloc] at this
    · exact bstep (bstep (balloc _ _) (balloc _ _)) (balloc _ _))
  have hsz3 : W3.heap.size = w.heap.size + 3 := by rw [← hW3]; simp
  have HW3 := Lib.hid hW3
  rw [hW3]
  clear hW3
  have HNO := Lib.hid (show okUs n3 (Go.Ap.hasR x) (-1) us = false → rightB x us = false from fun e => by rw [rightB, HL3.out, e]; rfl)
  gi_loopw [5, 12] (fun bv kv wr => ∃ (k : Nat) (b : Int), k ≤ n ∧ bv = .int .i64 b ∧ kv = .int .i64 k ∧ okUs n3 (Go.Ap.hasR x) (-1) us = okUs n3 (Go.Ap.hasR x) b (us.drop k) ∧ Below W3.heap.size W3 wr) (fun _ kv _ => n - (intOf kv).toNat)
  case atStart => exact ⟨0, -1, Nat.zero_le _, rfl, rfl, rfl, Below.refl _ _⟩
  case round =>
    obtain ⟨wk, rfl⟩ : ∃ wk : World, wk = wr := ⟨_, rfl⟩
    obtain ⟨k, b, hk, rfl, rfl, hch, hb⟩ := hrel
    have HCH := Lib.hid hch
    have HB := Lib.hid hb
    have HI := Lib.hid (HI3.out.below hb)
    clear hch hb
    by_cases hkn : k < n
    · obtain ⟨u, bb, oo, hu, rfl, ⟨ar, nr, kr, g0, g1, g2, hRd, _, _, _⟩⟩ := (HU.out wk HI.out.bel).at hkn
      obtain ⟨ulo, uhi, rds⟩ := u
      obtain ⟨hkl, hke⟩ := List.getElem?_eq_some_iff.1 hu
      have HCS := Lib.hid (show okUs n3 (Go.Ap.hasR x) (-1) us = ((decide (b < ulo) && decide (0 ≤ ulo) && decide (ulo < uhi) && decide (uhi ≤ n3) && Go.Ap.hasR x ⟨ulo, uhi, rds⟩) && okUs n3 (Go.Ap.hasR x) uhi (us.drop (k + 1))) from by
        rw [HCH.out, List.drop_eq_getElem_cons hkl, hke, okUs])
      have HRD := Lib.hid hRd
      simp only at g0 g1
      have e0 := HI.out.b1.cell
      clear hu hkl hke hRd
      gi_wp2_with (fail)
      -- ARMS-BEGIN
      obtain ⟨b7, hb7⟩ : ∃ b7, wk.heap.size = b7 := ⟨_, rfl⟩
      have bA := balloc wk (.cells #[.int .i64 ulo, .int .i64 uhi, .slice ar nr kr] 36)
      have hK7 := BlkK.new wk #[.int .i64 ulo, .int .i64 uhi, .slice ar nr kr] 36
      rw [hb7] at hK7 ⊢
      obtain ⟨WA, hWA⟩ : ∃ WA, wk.alloc (.cells #[.int .i64 ulo, .int .i64 uhi, .slice ar nr kr] 36) = WA := ⟨_, rfl⟩
      rw [hWA] at bA hK7 ⊢
      have HIA := Lib.hid (HI.out.below bA)
      have HID := Lib.hid (HIA.out.below (Below.refl _ _).drew)
      have HK7 := Lib.hid hK7
      have HRA := Lib.hid (Rdgs.mono HRD.out (Nat.le_refl _) bA)
      have HBA := Lib.hid (bstep HB.out bA)
      have HWA := Lib.hid hWA
      clear hWA hb7 hK7 bA g0 g1 g2 e0
      by_cases q0 : ulo ≤ b
      · have t0 : decide (ulo ≤ b) = true := by simpa using q0
        refine wpIn_region_heldN (fun W' => BlkK W' b7 #[.int .i64 ulo, .int .i64 uhi, .slice ar nr kr] 36 ∧ BlkK W' w.heap.size #[.string (bs x.sec), .slice a1 n1 c1, .slice a2 n2 c2, .slice a3 n3 c3] 26) 36 [0, 1, 2, 3, 4, 5, 6, 7, 8, 9, 10, 11, 12, 13, 14, 15, 16, 17, 18, 19, 20, 21, 22, 23, 24, 25, 26, 27, 28, 29, 30, 31, 32, 33, 34, 35] [] (fun _ => trivial) (by kernel_rfl) (by kernel_rfl) ⟨HK7.out.below (Below.refl _ _).drew, HIA.out.b0.below (Below.refl _ _).drew⟩ ?_
        apply wpTakes_consD rfl rfl (by rfl)
        case hy =>
          rintro W' ⟨e1, e2⟩
          go_simp
          first | done | with_reducible rfl
        simp only [List.setIfInBounds_toArray, List.set_cons_zero, List.set_cons_succ]
        apply wpTakes_consD rfl rfl (by rfl)
        case hy =>
          rintro W' ⟨e1, e2⟩
          have u0 := e1.cell (i := 0) rfl
          have u1 := e1.cell (i := 1) rfl
          have u2 := e1.cell (i := 2) rfl
          obtain ⟨d0, d1, d2, d3⟩ := e2.coll
          go_simp
          first | done | with_reducible rfl
        simp only [List.setIfInBounds_toArray, List.set_cons_zero, List.set_cons_succ]
        apply wpTakes_consD rfl rfl (by rfl)
        case hy =>
          rintro W' ⟨e1, e2⟩
          go_simp
          first | done | with_reducible rfl
        simp only [List.setIfInBounds_toArray, List.set_cons_zero, List.set_cons_succ]
        apply wpTakes_consD rfl rfl (by rfl)
        case hy =>
          rintro W' ⟨e1, e2⟩
          go_simp
          first | done | with_reducible rfl
        simp only [List.setIfInBounds_toArray, List.set_cons_zero, List.set_cons_succ]
        apply wpTakes_consD rfl rfl (by rfl)
        case hy =>
          rintro W' ⟨e1, e2⟩
          go_simp
          first | done | with_reducible rfl
        simp only [List.setIfInBounds_toArray, List.set_cons_zero, List.set_cons_succ]
        refine wpTakes_noD (j := 4) (t := 20) (b := true) (c := false) rfl rfl rfl rfl rfl (by simp) rfl ?_
        simp only [List.setIfInBounds_toArray, List.set_cons_zero, List.set_cons_succ]
        refine wpTakes_noD (j := 4) (t := 20) (b := true) (c := false) rfl rfl rfl rfl rfl (by simp) rfl ?_
        simp only [List.setIfInBounds_toArray, List.set_cons_zero, List.set_cons_succ]
        refine wpTakes_noD (j := 4) (t := 20) (b := true) (c := false) rfl rfl rfl rfl rfl (by simp) rfl ?_
        simp only [List.setIfInBounds_toArray, List.set_cons_zero, List.set_cons_succ]
        apply wpTakes_consD rfl rfl (by rfl)
        case hy =>
          rintro W' ⟨e1, e2⟩
          go_simp
          first | done | with_reducible rfl
        simp only [List.setIfInBounds_toArray, List.set_cons_zero, List.set_cons_succ]
        apply wpTakes_consD rfl rfl (by rfl)
        case hy =>
          rintro W' ⟨e1, e2⟩
          go_simp
          first | done | with_reducible rfl
        simp only [List.setIfInBounds_toArray, List.set_cons_zero, List.set_cons_succ]
        refine wpTakes_noD (j := 9) (t := 25) (b := true) (c := false) rfl rfl rfl rfl rfl (by simp) rfl ?_
        simp only [List.setIfInBounds_toArray, List.set_cons_zero, List.set_cons_succ]
        refine wpTakes_noD (j := 9) (t := 25) (b := true) (c := false) rfl rfl rfl rfl rfl (by simp) rfl ?_
        simp only [List.setIfInBounds_toArray, List.set_cons_zero, List.set_cons_succ]
        refine wpTakes_noD (j := 9) (t := 25) (b := true) (c := false) rfl rfl rfl rfl rfl (by simp) rfl ?_
        simp only [List.setIfInBounds_toArray, List.set_cons_zero, List.set_cons_succ]
        refine wpTakes_noD (j := 9) (t := 25) (b := true) (c := false) rfl rfl rfl rfl rfl (by simp) rfl ?_
        simp only [List.setIfInBounds_toArray, List.set_cons_zero, List.set_cons_succ]
        refine wpTakes_noD (j := 9) (t := 25) (b := true) (c := false) rfl rfl rfl rfl rfl (by simp) rfl ?_
        simp only [List.setIfInBounds_toArray, List.set_cons_zero, List.set_cons_succ]
        apply wpTakes_consD rfl rfl (by rfl)
        case hy =>
          rintro W' ⟨e1, e2⟩
          go_simp
          first | done | with_reducible rfl
        simp only [List.setIfInBounds_toArray, List.set_cons_zero, List.set_cons_succ]
        apply wpTakes_consD rfl rfl (by rfl)
        case hy =>
          rintro W' ⟨e1, e2⟩
          go_simp
          first | done | with_reducible rfl
        simp only [List.setIfInBounds_toArray, List.set_cons_zero, List.set_cons_succ]
        refine wpTakes_noD (j := 16) (t := 32) (b := true) (c := false) rfl rfl rfl rfl rfl (by simp) rfl ?_
        simp only [List.setIfInBounds_toArray, List.set_cons_zero, List.set_cons_succ]
        refine wpTakes_noD (j := 16) (t := 32) (b := true) (c := false) rfl rfl rfl rfl rfl (by simp) rfl ?_
        simp only [List.setIfInBounds_toArray, List.set_cons_zero, List.set_cons_succ]
        refine wpTakes_noD (j := 16) (t := 32) (b := true) (c := false) rfl rfl rfl rfl rfl (by simp) rfl ?_
        simp only [List.setIfInBounds_toArray, List.set_cons_zero, List.set_cons_succ]
        refine wpTakes_noD (j := 16) (t := 32) (b := true) (c := false) rfl rfl rfl rfl rfl (by simp) rfl ?_
        simp only [List.setIfInBounds_toArray, List.set_cons_zero, List.set_cons_succ]
        refine wpTakes_noD (j := 16) (t := 32) (b := true) (c := false) rfl rfl rfl rfl rfl (by simp) rfl ?_
        simp only [List.setIfInBounds_toArray, List.set_cons_zero, List.set_cons_succ]
        refine wpTakes_noD (j := 16) (t := 32) (b := true) (c := false) rfl rfl rfl rfl rfl (by simp) rfl ?_
        simp only [List.setIfInBounds_toArray, List.set_cons_zero, List.set_cons_succ]
        apply wpTakes_consD rfl rfl (by rfl)
        case hy =>
          rintro W' ⟨e1, e2⟩
          go_simp
          first | done | with_reducible rfl
        simp only [List.setIfInBounds_toArray, List.set_cons_zero, List.set_cons_succ]
        apply wpTakes_consD rfl rfl (by rfl)
        case hy =>
          rintro W' ⟨e1, e2⟩
          go_simp
          first | done | with_reducible rfl
        simp only [List.setIfInBounds_toArray, List.set_cons_zero, List.set_cons_succ]
        refine wpTakes_noD (j := 24) (t := 40) (b := true) (c := false) rfl rfl rfl rfl rfl (by simp) rfl ?_
        simp only [List.setIfInBounds_toArray, List.set_cons_zero, List.set_cons_succ]
        refine wpTakes_noD (j := 24) (t := 40) (b := true) (c := false) rfl rfl rfl rfl rfl (by simp) rfl ?_
        simp only [List.setIfInBounds_toArray, List.set_cons_zero, List.set_cons_succ]
        refine wpTakes_noD (j := 24) (t := 40) (b := true) (c := false) rfl rfl rfl rfl rfl (by simp) rfl ?_
        simp only [List.setIfInBounds_toArray, List.set_cons_zero, List.set_cons_succ]
        refine wpTakes_noD (j := 24) (t := 40) (b := true) (c := false) rfl rfl rfl rfl rfl (by simp) rfl ?_
        simp only [List.setIfInBounds_toArray, List.set_cons_zero, List.set_cons_succ]
        refine wpTakes_noD (j := 24) (t := 40) (b := true) (c := false) rfl rfl rfl rfl rfl (by simp) rfl ?_
        simp only [List.setIfInBounds_toArray, List.set_cons_zero, List.set_cons_succ]
        refine wpTakes_noD (j := 24) (t := 40) (b := true) (c := false) rfl rfl rfl rfl rfl (by simp) rfl ?_
        simp only [List.setIfInBounds_toArray, List.set_cons_zero, List.set_cons_succ]
        refine wpTakes_noD (j := 24) (t := 40) (b := true) (c := false) rfl rfl rfl rfl rfl (by simp) rfl ?_
        simp only [List.setIfInBounds_toArray, List.set_cons_zero, List.set_cons_succ]
        refine wpTakes_noD (j := 24) (t := 40) (b := true) (c := false) rfl rfl rfl rfl rfl (by simp) rfl ?_
        simp only [List.setIfInBounds_toArray, List.set_cons_zero, List.set_cons_succ]
        refine wpTakes_noD (j := 24) (t := 40) (b := true) (c := false) rfl rfl rfl rfl rfl (by simp) rfl ?_
        simp only [List.setIfInBounds_toArray, List.set_cons_zero, List.set_cons_succ]
        refine wpTakes_noD (j := 24) (t := 40) (b := true) (c := false) rfl rfl rfl rfl rfl (by simp) rfl ?_
        simp only [List.setIfInBounds_toArray, List.set_cons_zero, List.set_cons_succ]
        apply wpTakes_consD rfl rfl (by rfl)
        case hy =>
          rintro W' ⟨e1, e2⟩
          go_simp
          first | done | with_reducible rfl
        simp only [List.setIfInBounds_toArray, List.set_cons_zero, List.set_cons_succ]
        refine wpTakes_nil ?_
        refine wpSeqR_nilN ?_
        have HF := Lib.hid (HNO.out (by rw [HCS.out]; rw [show decide (b < ulo) = false by simp; omega]; simp))
        have c4 := HID.out.b2.cell
        have f4 := HID.out.b2.frozen
        have HBS := Lib.hid (HID.out.b2.set (.bool true))
        gi_wp2_with (fail)
        refine ⟨.bool false, ?_, by rw [HF.out], ?_⟩
        · simp [results, Tryz.f59, go_sem, (HIA.out.b2.set (.bool false)).cell]
        · exact HID.out.bel.setCell (p := ⟨w.heap.size + 2, 0, none⟩) (by simp) _
      · have t0 : decide (ulo ≤ b) = false := by simpa using q0
        by_cases q1 : ulo < 0
        · have t1 : decide (ulo < 0) = true := by simpa using q1
          refine wpIn_region_heldN (fun W' => BlkK W' b7 #[.int .i64 ulo, .int .i64 uhi, .slice ar nr kr] 36 ∧ BlkK W' w.heap.size #[.string (bs x.sec), .slice a1 n1 c1, .slice a2 n2 c2, .slice a3 n3 c3] 26) 36 [0, 1, 2, 3, 4, 5, 6, 7, 8, 9, 10, 11, 12, 13, 14, 15, 16, 17, 18, 19, 20, 21, 22, 23, 24, 25, 26, 27, 28, 29, 30, 31, 32, 33, 34, 35] [] (fun _ => trivial) (by kernel_rfl) (by kernel_rfl) ⟨HK7.out.below (Below.refl _ _).drew, HIA.out.b0.below (Below.refl _ _).drew⟩ ?_
          apply wpTakes_consD rfl rfl (by rfl)
          case hy =>
            rintro W' ⟨e1, e2⟩
            go_simp
            first | done | with_reducible rfl
          simp only [List.setIfInBounds_toArray, List.set_cons_zero, List.set_cons_succ]
          apply wpTakes_consD rfl rfl (by rfl)
          case hy =>
            rintro W' ⟨e1, e2⟩
            have u0 := e1.cell (i := 0) rfl
            have u1 := e1.cell (i := 1) rfl
            have u2 := e1.cell (i := 2) rfl
            obtain ⟨d0, d1, d2, d3⟩ := e2.coll
            go_simp
            first | done | with_reducible rfl
          simp only [List.setIfInBounds_toArray, List.set_cons_zero, List.set_cons_succ]
          apply wpTakes_consD rfl rfl (by rfl)
          case hy =>
            rintro W' ⟨e1, e2⟩
            go_simp
            first | done | with_reducible rfl
          simp only [List.setIfInBounds_toArray, List.set_cons_zero, List.set_cons_succ]
          apply wpTakes_consD rfl rfl (by rfl)
          case hy =>
            rintro W' ⟨e1, e2⟩
            go_simp
            first | done | with_reducible rfl
          simp only [List.setIfInBounds_toArray, List.set_cons_zero, List.set_cons_succ]
          apply wpTakes_consD rfl rfl (by rfl)
          case hy =>
            rintro W' ⟨e1, e2⟩
            go_simp
            first | done | with_reducible rfl
          simp only [List.setIfInBounds_toArray, List.set_cons_zero, List.set_cons_succ]
          apply wpTakes_gdD (j := 4) (t := 20) (b := false) (c := false) rfl rfl rfl rfl rfl (by simp) rfl
          case hy =>
            rintro W' ⟨e1, e2⟩
            go_simp
            first | done | with_reducible rfl
          simp only [List.setIfInBounds_toArray, List.set_cons_zero, List.set_cons_succ]
          apply wpTakes_gdD (j := 4) (t := 20) (b := false) (c := false) rfl rfl rfl rfl rfl (by simp) rfl
          case hy =>
            rintro W' ⟨e1, e2⟩
            have u0 := e1.cell (i := 0) rfl
            have u1 := e1.cell (i := 1) rfl
            have u2 := e1.cell (i := 2) rfl
            obtain ⟨d0, d1, d2, d3⟩ := e2.coll
            go_simp
            first | done | with_reducible rfl
          simp only [List.setIfInBounds_toArray, List.set_cons_zero, List.set_cons_succ]
          apply wpTakes_gdD (j := 4) (t := 20) (b := false) (c := false) rfl rfl rfl rfl rfl (by simp) rfl
          case hy =>
            rintro W' ⟨e1, e2⟩
            go_simp
            first | done | with_reducible rfl
          simp only [List.setIfInBounds_toArray, List.set_cons_zero, List.set_cons_succ]
          apply wpTakes_consD rfl rfl (by rfl)
          case hy =>
            rintro W' ⟨e1, e2⟩
            go_simp
            first | done | with_reducible rfl
          simp only [List.setIfInBounds_toArray, List.set_cons_zero, List.set_cons_succ]
          apply wpTakes_consD rfl rfl (by rfl)
          case hy =>
            rintro W' ⟨e1, e2⟩
            go_simp
            first | done | with_reducible rfl
          simp only [List.setIfInBounds_toArray, List.set_cons_zero, List.set_cons_succ]
          refine wpTakes_noD (j := 9) (t := 25) (b := true) (c := false) rfl rfl rfl rfl rfl (by simp) rfl ?_
          simp only [List.setIfInBounds_toArray, List.set_cons_zero, List.set_cons_succ]
          refine wpTakes_noD (j := 9) (t := 25) (b := true) (c := false) rfl rfl rfl rfl rfl (by simp) rfl ?_
          simp only [List.setIfInBounds_toArray, List.set_cons_zero, List.set_cons_succ]
          refine wpTakes_noD (j := 9) (t := 25) (b := true) (c := false) rfl rfl rfl rfl rfl (by simp) rfl ?_
          simp only [List.setIfInBounds_toArray, List.set_cons_zero, List.set_cons_succ]
          refine wpTakes_noD (j := 9) (t := 25) (b := true) (c := false) rfl rfl rfl rfl rfl (by simp) rfl ?_
          simp only [List.setIfInBounds_toArray, List.set_cons_zero, List.set_cons_succ]
          refine wpTakes_noD (j := 9) (t := 25) (b := true) (c := false) rfl rfl rfl rfl rfl (by simp) rfl ?_
          simp only [List.setIfInBounds_toArray, List.set_cons_zero, List.set_cons_succ]
          apply wpTakes_consD rfl rfl (by rfl)
          case hy =>
            rintro W' ⟨e1, e2⟩
            go_simp
            first | done | with_reducible rfl
          simp only [List.setIfInBounds_toArray, List.set_cons_zero, List.set_cons_succ]
          apply wpTakes_consD rfl rfl (by rfl)
          case hy =>
            rintro W' ⟨e1, e2⟩
            go_simp
            first | done | with_reducible rfl
          simp only [List.setIfInBounds_toArray, List.set_cons_zero, List.set_cons_succ]
          refine wpTakes_noD (j := 16) (t := 32) (b := true) (c := false) rfl rfl rfl rfl rfl (by simp) rfl ?_
          simp only [List.setIfInBounds_toArray, List.set_cons_zero, List.set_cons_succ]
          refine wpTakes_noD (j := 16) (t := 32) (b := true) (c := false) rfl rfl rfl rfl rfl (by simp) rfl ?_
          simp only [List.setIfInBounds_toArray, List.set_cons_zero, List.set_cons_succ]
          refine wpTakes_noD (j := 16) (t := 32) (b := true) (c := false) rfl rfl rfl rfl rfl (by simp) rfl ?_
          simp only [List.setIfInBounds_toArray, List.set_cons_zero, List.set_cons_succ]
          refine wpTakes_noD (j := 16) (t := 32) (b := true) (c := false) rfl rfl rfl rfl rfl (by simp) rfl ?_
          simp only [List.setIfInBounds_toArray, List.set_cons_zero, List.set_cons_succ]
          refine wpTakes_noD (j := 16) (t := 32) (b := true) (c := false) rfl rfl rfl rfl rfl (by simp) rfl ?_
          simp only [List.setIfInBounds_toArray, List.set_cons_zero, List.set_cons_succ]
          refine wpTakes_noD (j := 16) (t := 32) (b := true) (c := false) rfl rfl rfl rfl rfl (by simp) rfl ?_
          simp only [List.setIfInBounds_toArray, List.set_cons_zero, List.set_cons_succ]
          apply wpTakes_consD rfl rfl (by rfl)
          case hy =>
            rintro W' ⟨e1, e2⟩
            go_simp
            first | done | with_reducible rfl
          simp only [List.setIfInBounds_toArray, List.set_cons_zero, List.set_cons_succ]
          apply wpTakes_consD rfl rfl (by rfl)
          case hy =>
            rintro W' ⟨e1, e2⟩
            go_simp
            first | done | with_reducible rfl
          simp only [List.setIfInBounds_toArray, List.set_cons_zero, List.set_cons_succ]
          refine wpTakes_noD (j := 24) (t := 40) (b := true) (c := false) rfl rfl rfl rfl rfl (by simp) rfl ?_
          simp only [List.setIfInBounds_toArray, List.set_cons_zero, List.set_cons_succ]
          refine wpTakes_noD (j := 24) (t := 40) (b := true) (c := false) rfl rfl rfl rfl rfl (by simp) rfl ?_
          simp only [List.setIfInBounds_toArray, List.set_cons_zero, List.set_cons_succ]
          refine wpTakes_noD (j := 24) (t := 40) (b := true) (c := false) rfl rfl rfl rfl rfl (by simp) rfl ?_
          simp only [List.setIfInBounds_toArray, List.set_cons_zero, List.set_cons_succ]
          refine wpTakes_noD (j := 24) (t := 40) (b := true) (c := false) rfl rfl rfl rfl rfl (by simp) rfl ?_
          simp only [List.setIfInBounds_toArray, List.set_cons_zero, List.set_cons_succ]
          refine wpTakes_noD (j := 24) (t := 40) (b := true) (c := false) rfl rfl rfl rfl rfl (by simp) rfl ?_
          simp only [List.setIfInBounds_toArray, List.set_cons_zero, List.set_cons_succ]
          refine wpTakes_noD (j := 24) (t := 40) (b := true) (c := false) rfl rfl rfl rfl rfl (by simp) rfl ?_
          simp only [List.setIfInBounds_toArray, List.set_cons_zero, List.set_cons_succ]
          refine wpTakes_noD (j := 24) (t := 40) (b := true) (c := false) rfl rfl rfl rfl rfl (by simp) rfl ?_
          simp only [List.setIfInBounds_toArray, List.set_cons_zero, List.set_cons_succ]
          refine wpTakes_noD (j := 24) (t := 40) (b := true) (c := false) rfl rfl rfl rfl rfl (by simp) rfl ?_
          simp only [List.setIfInBounds_toArray, List.set_cons_zero, List.set_cons_succ]
          refine wpTakes_noD (j := 24) (t := 40) (b := true) (c := false) rfl rfl rfl rfl rfl (by simp) rfl ?_
          simp only [List.setIfInBounds_toArray, List.set_cons_zero, List.set_cons_succ]
          refine wpTakes_noD (j := 24) (t := 40) (b := true) (c := false) rfl rfl rfl rfl rfl (by simp) rfl ?_
          simp only [List.setIfInBounds_toArray, List.set_cons_zero, List.set_cons_succ]
          apply wpTakes_consD rfl rfl (by rfl)
          case hy =>
            rintro W' ⟨e1, e2⟩
            go_simp
            first | done | with_reducible rfl
          simp only [List.setIfInBounds_toArray, List.set_cons_zero, List.set_cons_succ]
          refine wpTakes_nil ?_
          refine wpSeqR_nilN ?_
          have HF := Lib.hid (HNO.out (by rw [HCS.out]; rw [show decide (0 ≤ ulo) = false by simp; omega]; simp))
          have c4 := HID.out.b2.cell
          have f4 := HID.out.b2.frozen
          have HBS := Lib.hid (HID.out.b2.set (.bool true))
          gi_wp2_with (fail)
          refine ⟨.bool false, ?_, by rw [HF.out], ?_⟩
          · simp [results, Tryz.f59, go_sem, (HIA.out.b2.set (.bool false)).cell]
          · exact HID.out.bel.setCell (p := ⟨w.heap.size + 2, 0, none⟩) (by simp) _
        · have t1 : decide (ulo < 0) = false := by simpa using q1
          by_cases q2 : uhi ≤ ulo
          · have t2 : decide (uhi ≤ ulo) = true := by simpa using q2
            refine wpIn_region_heldN (fun W' => BlkK W' b7 #[.int .i64 ulo, .int .i64 uhi, .slice ar nr kr] 36 ∧ BlkK W' w.heap.size #[.string (bs x.sec), .slice a1 n1 c1, .slice a2 n2 c2, .slice a3 n3 c3] 26) 36 [0, 1, 2, 3, 4, 5, 6, 7, 8, 9, 10, 11, 12, 13, 14, 15, 16, 17, 18, 19, 20, 21, 22, 23, 24, 25, 26, 27, 28, 29, 30, 31, 32, 33, 34, 35] [] (fun _ => trivial) (by kernel_rfl) (by kernel_rfl) ⟨HK7.out.below (Below.refl _ _).drew, HIA.out.b0.below (Below.refl _ _).drew⟩ ?_
            apply wpTakes_consD rfl rfl (by rfl)
            case hy =>
              rintro W' ⟨e1, e2⟩
              go_simp
              first | done | with_reducible rfl
            simp only [List.setIfInBounds_toArray, List.set_cons_zero, List.set_cons_succ]
            apply wpTakes_consD rfl rfl (by rfl)
            case hy =>
              rintro W' ⟨e1, e2⟩
              have u0 := e1.cell (i := 0) rfl
              have u1 := e1.cell (i := 1) rfl
              have u2 := e1.cell (i := 2) rfl
              obtain ⟨d0, d1, d2, d3⟩ := e2.coll
              go_simp
              first | done | with_reducible rfl
            simp only [List.setIfInBounds_toArray, List.set_cons_zero, List.set_cons_succ]
            apply wpTakes_consD rfl rfl (by rfl)
            case hy =>
              rintro W' ⟨e1, e2⟩
              go_simp
              first | done | with_reducible rfl
            simp only [List.setIfInBounds_toArray, List.set_cons_zero, List.set_cons_succ]
            apply wpTakes_consD rfl rfl (by rfl)
            case hy =>
              rintro W' ⟨e1, e2⟩
              go_simp
              first | done | with_reducible rfl
            simp only [List.setIfInBounds_toArray, List.set_cons_zero, List.set_cons_succ]
            apply wpTakes_consD rfl rfl (by rfl)
            case hy =>
              rintro W' ⟨e1, e2⟩
              go_simp
              first | done | with_reducible rfl
            simp only [List.setIfInBounds_toArray, List.set_cons_zero, List.set_cons_succ]
            apply wpTakes_gdD (j := 4) (t := 20) (b := false) (c := false) rfl rfl rfl rfl rfl (by simp) rfl
            case hy =>
              rintro W' ⟨e1, e2⟩
              go_simp
              first | done | with_reducible rfl
            simp only [List.setIfInBounds_toArray, List.set_cons_zero, List.set_cons_succ]
            apply wpTakes_gdD (j := 4) (t := 20) (b := false) (c := false) rfl rfl rfl rfl rfl (by simp) rfl
            case hy =>
              rintro W' ⟨e1, e2⟩
              have u0 := e1.cell (i := 0) rfl
              have u1 := e1.cell (i := 1) rfl
              have u2 := e1.cell (i := 2) rfl
              obtain ⟨d0, d1, d2, d3⟩ := e2.coll
              go_simp
              first | done | with_reducible rfl
            simp only [List.setIfInBounds_toArray, List.set_cons_zero, List.set_cons_succ]
            apply wpTakes_gdD (j := 4) (t := 20) (b := false) (c := false) rfl rfl rfl rfl rfl (by simp) rfl
            case hy =>
              rintro W' ⟨e1, e2⟩
              go_simp
              first | done | with_reducible rfl
            simp only [List.setIfInBounds_toArray, List.set_cons_zero, List.set_cons_succ]
            apply wpTakes_consD rfl rfl (by rfl)
            case hy =>
              rintro W' ⟨e1, e2⟩
              go_simp
              first | done | with_reducible rfl
            simp only [List.setIfInBounds_toArray, List.set_cons_zero, List.set_cons_succ]
            apply wpTakes_consD rfl rfl (by rfl)
            case hy =>
              rintro W' ⟨e1, e2⟩
              go_simp
              first | done | with_reducible rfl
            simp only [List.setIfInBounds_toArray, List.set_cons_zero, List.set_cons_succ]
            apply wpTakes_gdD (j := 9) (t := 25) (b := false) (c := false) rfl rfl rfl rfl rfl (by simp) rfl
            case hy =>
              rintro W' ⟨e1, e2⟩
              go_simp
              first | done | with_reducible rfl
            simp only [List.setIfInBounds_toArray, List.set_cons_zero, List.set_cons_succ]
            apply wpTakes_gdD (j := 9) (t := 25) (b := false) (c := false) rfl rfl rfl rfl rfl (by simp) rfl
            case hy =>
              rintro W' ⟨e1, e2⟩
              have u0 := e1.cell (i := 0) rfl
              have u1 := e1.cell (i := 1) rfl
              have u2 := e1.cell (i := 2) rfl
              obtain ⟨d0, d1, d2, d3⟩ := e2.coll
              go_simp
              first | done | with_reducible rfl
            simp only [List.setIfInBounds_toArray, List.set_cons_zero, List.set_cons_succ]
            apply wpTakes_gdD (j := 9) (t := 25) (b := false) (c := false) rfl rfl rfl rfl rfl (by simp) rfl
            case hy =>
              rintro W' ⟨e1, e2⟩
              go_simp
              first | done | with_reducible rfl
            simp only [List.setIfInBounds_toArray, List.set_cons_zero, List.set_cons_succ]
            apply wpTakes_gdD (j := 9) (t := 25) (b := false) (c := false) rfl rfl rfl rfl rfl (by simp) rfl
            case hy =>
              rintro W' ⟨e1, e2⟩
              have u0 := e1.cell (i := 0) rfl
              have u1 := e1.cell (i := 1) rfl
              have u2 := e1.cell (i := 2) rfl
              obtain ⟨d0, d1, d2, d3⟩ := e2.coll
              go_simp
              first | done | with_reducible rfl
            simp only [List.setIfInBounds_toArray, List.set_cons_zero, List.set_cons_succ]
            apply wpTakes_gdD (j := 9) (t := 25) (b := false) (c := false) rfl rfl rfl rfl rfl (by simp) rfl
            case hy =>
              rintro W' ⟨e1, e2⟩
              go_simp
              first | done | with_reducible rfl
            simp only [List.setIfInBounds_toArray, List.set_cons_zero, List.set_cons_succ]
            apply wpTakes_consD rfl rfl (by rfl)
            case hy =>
              rintro W' ⟨e1, e2⟩
              go_simp
              first | done | with_reducible rfl
            simp only [List.setIfInBounds_toArray, List.set_cons_zero, List.set_cons_succ]
            apply wpTakes_consD rfl rfl (by rfl)
            case hy =>
              rintro W' ⟨e1, e2⟩
              go_simp
              first | done | with_reducible rfl
            simp only [List.setIfInBounds_toArray, List.set_cons_zero, List.set_cons_succ]
            refine wpTakes_noD (j := 16) (t := 32) (b := true) (c := false) rfl rfl rfl rfl rfl (by simp) rfl ?_
            simp only [List.setIfInBounds_toArray, List.set_cons_zero, List.set_cons_succ]
            refine wpTakes_noD (j := 16) (t := 32) (b := true) (c := false) rfl rfl rfl rfl rfl (by simp) rfl ?_
            simp only [List.setIfInBounds_toArray, List.set_cons_zero, List.set_cons_succ]
            refine wpTakes_noD (j := 16) (t := 32) (b := true) (c := false) rfl rfl rfl rfl rfl (by simp) rfl ?_
            simp only [List.setIfInBounds_toArray, List.set_cons_zero, List.set_cons_succ]
            refine wpTakes_noD (j := 16) (t := 32) (b := true) (c := false) rfl rfl rfl rfl rfl (by simp) rfl ?_
            simp only [List.setIfInBounds_toArray, List.set_cons_zero, List.set_cons_succ]
            refine wpTakes_noD (j := 16) (t := 32) (b := true) (c := false) rfl rfl rfl rfl rfl (by simp) rfl ?_
            simp only [List.setIfInBounds_toArray, List.set_cons_zero, List.set_cons_succ]
            refine wpTakes_noD (j := 16) (t := 32) (b := true) (c := false) rfl rfl rfl rfl rfl (by simp) rfl ?_
            simp only [List.setIfInBounds_toArray, List.set_cons_zero, List.set_cons_succ]
            apply wpTakes_consD rfl rfl (by rfl)
            case hy =>
              rintro W' ⟨e1, e2⟩
              go_simp
              first | done | with_reducible rfl
            simp only [List.setIfInBounds_toArray, List.set_cons_zero, List.set_cons_succ]
            apply wpTakes_consD rfl rfl (by rfl)
            case hy =>
              rintro W' ⟨e1, e2⟩
              go_simp
              first | done | with_reducible rfl
            simp only [List.setIfInBounds_toArray, List.set_cons_zero, List.set_cons_succ]
            refine wpTakes_noD (j := 24) (t := 40) (b := true) (c := false) rfl rfl rfl rfl rfl (by simp) rfl ?_
            simp only [List.setIfInBounds_toArray, List.set_cons_zero, List.set_cons_succ]
            refine wpTakes_noD (j := 24) (t := 40) (b := true) (c := false) rfl rfl rfl rfl rfl (by simp) rfl ?_
            simp only [List.setIfInBounds_toArray, List.set_cons_zero, List.set_cons_succ]
            refine wpTakes_noD (j := 24) (t := 40) (b := true) (c := false) rfl rfl rfl rfl rfl (by simp) rfl ?_
            simp only [List.setIfInBounds_toArray, List.set_cons_zero, List.set_cons_succ]
            refine wpTakes_noD (j := 24) (t := 40) (b := true) (c := false) rfl rfl rfl rfl rfl (by simp) rfl ?_
            simp only [List.setIfInBounds_toArray, List.set_cons_zero, List.set_cons_succ]
            refine wpTakes_noD (j := 24) (t := 40) (b := true) (c := false) rfl rfl rfl rfl rfl (by simp) rfl ?_
            simp only [List.setIfInBounds_toArray, List.set_cons_zero, List.set_cons_succ]
            refine wpTakes_noD (j := 24) (t := 40) (b := true) (c := false) rfl rfl rfl rfl rfl (by simp) rfl ?_
            simp only [List.setIfInBounds_toArray, List.set_cons_zero, List.set_cons_succ]
            refine wpTakes_noD (j := 24) (t := 40) (b := true) (c := false) rfl rfl rfl rfl rfl (by simp) rfl ?_
            simp only [List.setIfInBounds_toArray, List.set_cons_zero, List.set_cons_succ]
            refine wpTakes_noD (j := 24) (t := 40) (b := true) (c := false) rfl rfl rfl rfl rfl (by simp) rfl ?_
            simp only [List.setIfInBounds_toArray, List.set_cons_zero, List.set_cons_succ]
            refine wpTakes_noD (j := 24) (t := 40) (b := true) (c := false) rfl rfl rfl rfl rfl (by simp) rfl ?_
            simp only [List.setIfInBounds_toArray, List.set_cons_zero, List.set_cons_succ]
            refine wpTakes_noD (j := 24) (t := 40) (b := true) (c := false) rfl rfl rfl rfl rfl (by simp) rfl ?_
            simp only [List.setIfInBounds_toArray, List.set_cons_zero, List.set_cons_succ]
            apply wpTakes_consD rfl rfl (by rfl)
            case hy =>
              rintro W' ⟨e1, e2⟩
              go_simp
              first | done | with_reducible rfl
            simp only [List.setIfInBounds_toArray, List.set_cons_zero, List.set_cons_succ]
            refine wpTakes_nil ?_
            refine wpSeqR_nilN ?_
            have HF := Lib.hid (HNO.out (by rw [HCS.out]; rw [show decide (ulo < uhi) = false by simp; omega]; simp))
            have c4 := HID.out.b2.cell
            have f4 := HID.out.b2.frozen
            have HBS := Lib.hid (HID.out.b2.set (.bool true))
            gi_wp2_with (fail)
            refine ⟨.bool false, ?_, by rw [HF.out], ?_⟩
            · simp [results, Tryz.f59, go_sem, (HIA.out.b2.set (.bool false)).cell]
            · exact HID.out.bel.setCell (p := ⟨w.heap.size + 2, 0, none⟩) (by simp) _
          · have t2 : decide (uhi ≤ ulo) = false := by simpa using q2
            by_cases q3 : (n3 : Int) < uhi
            · have t3 : decide ((n3 : Int) < uhi) = true := by simpa using q3
              refine wpIn_region_heldN (fun W' => BlkK W' b7 #[.int .i64 ulo, .int .i64 uhi, .slice ar nr kr] 36 ∧ BlkK W' w.heap.size #[.string (bs x.sec), .slice a1 n1 c1, .slice a2 n2 c2, .slice a3 n3 c3] 26) 36 [0, 1, 2, 3, 4, 5, 6, 7, 8, 9, 10, 11, 12, 13, 14, 15, 16, 17, 18, 19, 20, 21, 22, 23, 24, 25, 26, 27, 28, 29, 30, 31, 32, 33, 34, 35] [] (fun _ => trivial) (by kernel_rfl) (by kernel_rfl) ⟨HK7.out.below (Below.refl _ _).drew, HIA.out.b0.below (Below.refl _ _).drew⟩ ?_
              apply wpTakes_consD rfl rfl (by rfl)
              case hy =>
                rintro W' ⟨e1, e2⟩
                go_simp
                first | done | with_reducible rfl
              simp only [List.setIfInBounds_toArray, List.set_cons_zero, List.set_cons_succ]
              apply wpTakes_consD rfl rfl (by rfl)
              case hy =>
                rintro W' ⟨e1, e2⟩
                have u0 := e1.cell (i := 0) rfl
                have u1 := e1.cell (i := 1) rfl
                have u2 := e1.cell (i := 2) rfl
                obtain ⟨d0, d1, d2, d3⟩ := e2.coll
                go_simp
                first | done | with_reducible rfl
              simp only [List.setIfInBounds_toArray, List.set_cons_zero, List.set_cons_succ]
              apply wpTakes_consD rfl rfl (by rfl)
              case hy =>
                rintro W' ⟨e1, e2⟩
                go_simp
                first | done | with_reducible rfl
              simp only [List.setIfInBounds_toArray, List.set_cons_zero, List.set_cons_succ]
              apply wpTakes_consD rfl rfl (by rfl)
              case hy =>
                rintro W' ⟨e1, e2⟩
                go_simp
                first | done | with_reducible rfl
              simp only [List.setIfInBounds_toArray, List.set_cons_zero, List.set_cons_succ]
              apply wpTakes_consD rfl rfl (by rfl)
              case hy =>
                rintro W' ⟨e1, e2⟩
                go_simp
                first | done | with_reducible rfl
              simp only [List.setIfInBounds_toArray, List.set_cons_zero, List.set_cons_succ]
              apply wpTakes_gdD (j := 4) (t := 20) (b := false) (c := false) rfl rfl rfl rfl rfl (by simp) rfl
              case hy =>
                rintro W' ⟨e1, e2⟩
                go_simp
                first | done | with_reducible rfl
              simp only [List.setIfInBounds_toArray, List.set_cons_zero, List.set_cons_succ]
              apply wpTakes_gdD (j := 4) (t := 20) (b := false) (c := false) rfl rfl rfl rfl rfl (by simp) rfl
              case hy =>
                rintro W' ⟨e1, e2⟩
                have u0 := e1.cell (i := 0) rfl
                have u1 := e1.cell (i := 1) rfl
                have u2 := e1.cell (i := 2) rfl
                obtain ⟨d0, d1, d2, d3⟩ := e2.coll
                go_simp
                first | done | with_reducible rfl
              simp only [List.setIfInBounds_toArray, List.set_cons_zero, List.set_cons_succ]
              apply wpTakes_gdD (j := 4) (t := 20) (b := false) (c := false) rfl rfl rfl rfl rfl (by simp) rfl
              case hy =>
                rintro W' ⟨e1, e2⟩
                go_simp
                first | done | with_reducible rfl
              simp only [List.setIfInBounds_toArray, List.set_cons_zero, List.set_cons_succ]
              apply wpTakes_consD rfl rfl (by rfl)
              case hy =>
                rintro W' ⟨e1, e2⟩
                go_simp
                first | done | with_reducible rfl
              simp only [List.setIfInBounds_toArray, List.set_cons_zero, List.set_cons_succ]
              apply wpTakes_consD rfl rfl (by rfl)
              case hy =>
                rintro W' ⟨e1, e2⟩
                go_simp
                first | done | with_reducible rfl
              simp only [List.setIfInBounds_toArray, List.set_cons_zero, List.set_cons_succ]
              apply wpTakes_gdD (j := 9) (t := 25) (b := false) (c := false) rfl rfl rfl rfl rfl (by simp) rfl
              case hy =>
                rintro W' ⟨e1, e2⟩
                go_simp
                first | done | with_reducible rfl
              simp only [List.setIfInBounds_toArray, List.set_cons_zero, List.set_cons_succ]
              apply wpTakes_gdD (j := 9) (t := 25) (b := false) (c := false) rfl rfl rfl rfl rfl (by simp) rfl
              case hy =>
                rintro W' ⟨e1, e2⟩
                have u0 := e1.cell (i := 0) rfl
                have u1 := e1.cell (i := 1) rfl
                have u2 := e1.cell (i := 2) rfl
                obtain ⟨d0, d1, d2, d3⟩ := e2.coll
                go_simp
                first | done | with_reducible rfl
              simp only [List.setIfInBounds_toArray, List.set_cons_zero, List.set_cons_succ]
              apply wpTakes_gdD (j := 9) (t := 25) (b := false) (c := false) rfl rfl rfl rfl rfl (by simp) rfl
              case hy =>
                rintro W' ⟨e1, e2⟩
                go_simp
                first | done | with_reducible rfl
              simp only [List.setIfInBounds_toArray, List.set_cons_zero, List.set_cons_succ]
              apply wpTakes_gdD (j := 9) (t := 25) (b := false) (c := false) rfl rfl rfl rfl rfl (by simp) rfl
              case hy =>
                rintro W' ⟨e1, e2⟩
                have u0 := e1.cell (i := 0) rfl
                have u1 := e1.cell (i := 1) rfl
                have u2 := e1.cell (i := 2) rfl
                obtain ⟨d0, d1, d2, d3⟩ := e2.coll
                go_simp
                first | done | with_reducible rfl
              simp only [List.setIfInBounds_toArray, List.set_cons_zero, List.set_cons_succ]
              apply wpTakes_gdD (j := 9) (t := 25) (b := false) (c := false) rfl rfl rfl rfl rfl (by simp) rfl
              case hy =>
                rintro W' ⟨e1, e2⟩
                go_simp
                first | done | with_reducible rfl
              simp only [List.setIfInBounds_toArray, List.set_cons_zero, List.set_cons_succ]
              apply wpTakes_consD rfl rfl (by rfl)
              case hy =>
                rintro W' ⟨e1, e2⟩
                go_simp
                first | done | with_reducible rfl
              simp only [List.setIfInBounds_toArray, List.set_cons_zero, List.set_cons_succ]
              apply wpTakes_consD rfl rfl (by rfl)
              case hy =>
                rintro W' ⟨e1, e2⟩
                go_simp
                first | done | with_reducible rfl
              simp only [List.setIfInBounds_toArray, List.set_cons_zero, List.set_cons_succ]
              apply wpTakes_gdD (j := 16) (t := 32) (b := false) (c := false) rfl rfl rfl rfl rfl (by simp) rfl
              case hy =>
                rintro W' ⟨e1, e2⟩
                go_simp
                first | done | with_reducible rfl
              simp only [List.setIfInBounds_toArray, List.set_cons_zero, List.set_cons_succ]
              apply wpTakes_gdD (j := 16) (t := 32) (b := false) (c := false) rfl rfl rfl rfl rfl (by simp) rfl
              case hy =>
                rintro W' ⟨e1, e2⟩
                have u0 := e1.cell (i := 0) rfl
                have u1 := e1.cell (i := 1) rfl
                have u2 := e1.cell (i := 2) rfl
                obtain ⟨d0, d1, d2, d3⟩ := e2.coll
                go_simp
                first | done | with_reducible rfl
              simp only [List.setIfInBounds_toArray, List.set_cons_zero, List.set_cons_succ]
              apply wpTakes_gdD (j := 16) (t := 32) (b := false) (c := false) rfl rfl rfl rfl rfl (by simp) rfl
              case hy =>
                rintro W' ⟨e1, e2⟩
                go_simp
                first | done | with_reducible rfl
              simp only [List.setIfInBounds_toArray, List.set_cons_zero, List.set_cons_succ]
              apply wpTakes_gdD (j := 16) (t := 32) (b := false) (c := false) rfl rfl rfl rfl rfl (by simp) rfl
              case hy =>
                rintro W' ⟨e1, e2⟩
                have u0 := e1.cell (i := 0) rfl
                have u1 := e1.cell (i := 1) rfl
                have u2 := e1.cell (i := 2) rfl
                obtain ⟨d0, d1, d2, d3⟩ := e2.coll
                go_simp
                first | done | with_reducible rfl
              simp only [List.setIfInBounds_toArray, List.set_cons_zero, List.set_cons_succ]
              apply wpTakes_gdD (j := 16) (t := 32) (b := false) (c := false) rfl rfl rfl rfl rfl (by simp) rfl
              case hy =>
                rintro W' ⟨e1, e2⟩
                go_simp
                first | done | with_reducible rfl
              simp only [List.setIfInBounds_toArray, List.set_cons_zero, List.set_cons_succ]
              apply wpTakes_gdD (j := 16) (t := 32) (b := false) (c := false) rfl rfl rfl rfl rfl (by simp) rfl
              case hy =>
                rintro W' ⟨e1, e2⟩
                go_simp
                first | done | with_reducible rfl
              simp only [List.setIfInBounds_toArray, List.set_cons_zero, List.set_cons_succ]
              apply wpTakes_consD rfl rfl (by rfl)
              case hy =>
                rintro W' ⟨e1, e2⟩
                go_simp
                first | done | with_reducible rfl
              simp only [List.setIfInBounds_toArray, List.set_cons_zero, List.set_cons_succ]
              apply wpTakes_consD rfl rfl (by rfl)
              case hy =>
                rintro W' ⟨e1, e2⟩
                go_simp
                first | done | with_reducible rfl
              simp only [List.setIfInBounds_toArray, List.set_cons_zero, List.set_cons_succ]
              refine wpTakes_noD (j := 24) (t := 40) (b := true) (c := false) rfl rfl rfl rfl rfl (by simp) rfl ?_
              simp only [List.setIfInBounds_toArray, List.set_cons_zero, List.set_cons_succ]
              refine wpTakes_noD (j := 24) (t := 40) (b := true) (c := false) rfl rfl rfl rfl rfl (by simp) rfl ?_
              simp only [List.setIfInBounds_toArray, List.set_cons_zero, List.set_cons_succ]
              refine wpTakes_noD (j := 24) (t := 40) (b := true) (c := false) rfl rfl rfl rfl rfl (by simp) rfl ?_
              simp only [List.setIfInBounds_toArray, List.set_cons_zero, List.set_cons_succ]
              refine wpTakes_noD (j := 24) (t := 40) (b := true) (c := false) rfl rfl rfl rfl rfl (by simp) rfl ?_
              simp only [List.setIfInBounds_toArray, List.set_cons_zero, List.set_cons_succ]
              refine wpTakes_noD (j := 24) (t := 40) (b := true) (c := false) rfl rfl rfl rfl rfl (by simp) rfl ?_
              simp only [List.setIfInBounds_toArray, List.set_cons_zero, List.set_cons_succ]
              refine wpTakes_noD (j := 24) (t := 40) (b := true) (c := false) rfl rfl rfl rfl rfl (by simp) rfl ?_
              simp only [List.setIfInBounds_toArray, List.set_cons_zero, List.set_cons_succ]
              refine wpTakes_noD (j := 24) (t := 40) (b := true) (c := false) rfl rfl rfl rfl rfl (by simp) rfl ?_
              simp only [List.setIfInBounds_toArray, List.set_cons_zero, List.set_cons_succ]
              refine wpTakes_noD (j := 24) (t := 40) (b := true) (c := false) rfl rfl rfl rfl rfl (by simp) rfl ?_
              simp only [List.setIfInBounds_toArray, List.set_cons_zero, List.set_cons_succ]
              refine wpTakes_noD (j := 24) (t := 40) (b := true) (c := false) rfl rfl rfl rfl rfl (by simp) rfl ?_
              simp only [List.setIfInBounds_toArray, List.set_cons_zero, List.set_cons_succ]
              refine wpTakes_noD (j := 24) (t := 40) (b := true) (c := false) rfl rfl rfl rfl rfl (by simp) rfl ?_
              simp only [List.setIfInBounds_toArray, List.set_cons_zero, List.set_cons_succ]
              apply wpTakes_consD rfl rfl (by rfl)
              case hy =>
                rintro W' ⟨e1, e2⟩
                go_simp
                first | done | with_reducible rfl
              simp only [List.setIfInBounds_toArray, List.set_cons_zero, List.set_cons_succ]
              refine wpTakes_nil ?_
              refine wpSeqR_nilN ?_
              have HF := Lib.hid (HNO.out (by rw [HCS.out]; rw [show decide (uhi ≤ (n3 : Int)) = false by simp; omega]; simp))
              have c4 := HID.out.b2.cell
              have f4 := HID.out.b2.frozen
              have HBS := Lib.hid (HID.out.b2.set (.bool true))
              gi_wp2_with (fail)
              refine ⟨.bool false, ?_, by rw [HF.out], ?_⟩
              · simp [results, Tryz.f59, go_sem, (HIA.out.b2.set (.bool false)).cell]
              · exact HID.out.bel.setCell (p := ⟨w.heap.size + 2, 0, none⟩) (by simp) _
            · have t3 : decide ((n3 : Int) < uhi) = false := by simpa using q3
              refine wpIn_region_heldN (fun W' => BlkK W' b7 #[.int .i64 ulo, .int .i64 uhi, .slice ar nr kr] 36 ∧ BlkK W' w.heap.size #[.string (bs x.sec), .slice a1 n1 c1, .slice a2 n2 c2, .slice a3 n3 c3] 26) 36 [0, 1, 2, 3, 4, 5, 6, 7, 8, 9, 10, 11, 12, 13, 14, 15, 16, 17, 18, 19, 20, 21, 22, 23, 24, 25, 26, 27, 28, 29, 30, 31] [32, 33, 34, 35] (fun _ => trivial) (by kernel_rfl) (by kernel_rfl) ⟨HK7.out.below (Below.refl _ _).drew, HIA.out.b0.below (Below.refl _ _).drew⟩ ?_
              apply wpTakes_consD rfl rfl (by rfl)
              case hy =>
                rintro W' ⟨e1, e2⟩
                go_simp
                first | done | with_reducible rfl
              simp only [List.setIfInBounds_toArray, List.set_cons_zero, List.set_cons_succ]
              apply wpTakes_consD rfl rfl (by rfl)
              case hy =>
                rintro W' ⟨e1, e2⟩
                have u0 := e1.cell (i := 0) rfl
                have u1 := e1.cell (i := 1) rfl
                have u2 := e1.cell (i := 2) rfl
                obtain ⟨d0, d1, d2, d3⟩ := e2.coll
                go_simp
                first | done | with_reducible rfl
              simp only [List.setIfInBounds_toArray, List.set_cons_zero, List.set_cons_succ]
              apply wpTakes_consD rfl rfl (by rfl)
              case hy =>
                rintro W' ⟨e1, e2⟩
                go_simp
                first | done | with_reducible rfl
              simp only [List.setIfInBounds_toArray, List.set_cons_zero, List.set_cons_succ]
              apply wpTakes_consD rfl rfl (by rfl)
              case hy =>
                rintro W' ⟨e1, e2⟩
                go_simp
                first | done | with_reducible rfl
              simp only [List.setIfInBounds_toArray, List.set_cons_zero, List.set_cons_succ]
              apply wpTakes_consD rfl rfl (by rfl)
              case hy =>
                rintro W' ⟨e1, e2⟩
                go_simp
                first | done | with_reducible rfl
              simp only [List.setIfInBounds_toArray, List.set_cons_zero, List.set_cons_succ]
              apply wpTakes_gdD (j := 4) (t := 20) (b := false) (c := false) rfl rfl rfl rfl rfl (by simp) rfl
              case hy =>
                rintro W' ⟨e1, e2⟩
                go_simp
                first | done | with_reducible rfl
              simp only [List.setIfInBounds_toArray, List.set_cons_zero, List.set_cons_succ]
              apply wpTakes_gdD (j := 4) (t := 20) (b := false) (c := false) rfl rfl rfl rfl rfl (by simp) rfl
              case hy =>
                rintro W' ⟨e1, e2⟩
                have u0 := e1.cell (i := 0) rfl
                have u1 := e1.cell (i := 1) rfl
                have u2 := e1.cell (i := 2) rfl
                obtain ⟨d0, d1, d2, d3⟩ := e2.coll
                go_simp
                first | done | with_reducible rfl
              simp only [List.setIfInBounds_toArray, List.set_cons_zero, List.set_cons_succ]
              apply wpTakes_gdD (j := 4) (t := 20) (b := false) (c := false) rfl rfl rfl rfl rfl (by simp) rfl
              case hy =>
                rintro W' ⟨e1, e2⟩
                go_simp
                first | done | with_reducible rfl
              simp only [List.setIfInBounds_toArray, List.set_cons_zero, List.set_cons_succ]
              apply wpTakes_consD rfl rfl (by rfl)
              case hy =>
                rintro W' ⟨e1, e2⟩
                go_simp
                first | done | with_reducible rfl
              simp only [List.setIfInBounds_toArray, List.set_cons_zero, List.set_cons_succ]
              apply wpTakes_consD rfl rfl (by rfl)
              case hy =>
                rintro W' ⟨e1, e2⟩
                go_simp
                first | done | with_reducible rfl
              simp only [List.setIfInBounds_toArray, List.set_cons_zero, List.set_cons_succ]
              apply wpTakes_gdD (j := 9) (t := 25) (b := false) (c := false) rfl rfl rfl rfl rfl (by simp) rfl
              case hy =>
                rintro W' ⟨e1, e2⟩
                go_simp
                first | done | with_reducible rfl
              simp only [List.setIfInBounds_toArray, List.set_cons_zero, List.set_cons_succ]
              apply wpTakes_gdD (j := 9) (t := 25) (b := false) (c := false) rfl rfl rfl rfl rfl (by simp) rfl
              case hy =>
                rintro W' ⟨e1, e2⟩
                have u0 := e1.cell (i := 0) rfl
                have u1 := e1.cell (i := 1) rfl
                have u2 := e1.cell (i := 2) rfl
                obtain ⟨d0, d1, d2, d3⟩ := e2.coll
                go_simp
                first | done | with_reducible rfl
              simp only [List.setIfInBounds_toArray, List.set_cons_zero, List.set_cons_succ]
              apply wpTakes_gdD (j := 9) (t := 25) (b := false) (c := false) rfl rfl rfl rfl rfl (by simp) rfl
              case hy =>
                rintro W' ⟨e1, e2⟩
                go_simp
                first | done | with_reducible rfl
              simp only [List.setIfInBounds_toArray, List.set_cons_zero, List.set_cons_succ]
              apply wpTakes_gdD (j := 9) (t := 25) (b := false) (c := false) rfl rfl rfl rfl rfl (by simp) rfl
              case hy =>
                rintro W' ⟨e1, e2⟩
                have u0 := e1.cell (i := 0) rfl
                have u1 := e1.cell (i := 1) rfl
                have u2 := e1.cell (i := 2) rfl
                obtain ⟨d0, d1, d2, d3⟩ := e2.coll
                go_simp
                first | done | with_reducible rfl
              simp only [List.setIfInBounds_toArray, List.set_cons_zero, List.set_cons_succ]
              apply wpTakes_gdD (j := 9) (t := 25) (b := false) (c := false) rfl rfl rfl rfl rfl (by simp) rfl
              case hy =>
                rintro W' ⟨e1, e2⟩
                go_simp
                first | done | with_reducible rfl
              simp only [List.setIfInBounds_toArray, List.set_cons_zero, List.set_cons_succ]
              apply wpTakes_consD rfl rfl (by rfl)
              case hy =>
                rintro W' ⟨e1, e2⟩
                go_simp
                first | done | with_reducible rfl
              simp only [List.setIfInBounds_toArray, List.set_cons_zero, List.set_cons_succ]
              apply wpTakes_consD rfl rfl (by rfl)
              case hy =>
                rintro W' ⟨e1, e2⟩
                go_simp
                first | done | with_reducible rfl
              simp only [List.setIfInBounds_toArray, List.set_cons_zero, List.set_cons_succ]
              apply wpTakes_gdD (j := 16) (t := 32) (b := false) (c := false) rfl rfl rfl rfl rfl (by simp) rfl
              case hy =>
                rintro W' ⟨e1, e2⟩
                go_simp
                first | done | with_reducible rfl
              simp only [List.setIfInBounds_toArray, List.set_cons_zero, List.set_cons_succ]
              apply wpTakes_gdD (j := 16) (t := 32) (b := false) (c := false) rfl rfl rfl rfl rfl (by simp) rfl
              case hy =>
                rintro W' ⟨e1, e2⟩
                have u0 := e1.cell (i := 0) rfl
                have u1 := e1.cell (i := 1) rfl
                have u2 := e1.cell (i := 2) rfl
                obtain ⟨d0, d1, d2, d3⟩ := e2.coll
                go_simp
                first | done | with_reducible rfl
              simp only [List.setIfInBounds_toArray, List.set_cons_zero, List.set_cons_succ]
              apply wpTakes_gdD (j := 16) (t := 32) (b := false) (c := false) rfl rfl rfl rfl rfl (by simp) rfl
              case hy =>
                rintro W' ⟨e1, e2⟩
                go_simp
                first | done | with_reducible rfl
              simp only [List.setIfInBounds_toArray, List.set_cons_zero, List.set_cons_succ]
              apply wpTakes_gdD (j := 16) (t := 32) (b := false) (c := false) rfl rfl rfl rfl rfl (by simp) rfl
              case hy =>
                rintro W' ⟨e1, e2⟩
                have u0 := e1.cell (i := 0) rfl
                have u1 := e1.cell (i := 1) rfl
                have u2 := e1.cell (i := 2) rfl
                obtain ⟨d0, d1, d2, d3⟩ := e2.coll
                go_simp
                first | done | with_reducible rfl
              simp only [List.setIfInBounds_toArray, List.set_cons_zero, List.set_cons_succ]
              apply wpTakes_gdD (j := 16) (t := 32) (b := false) (c := false) rfl rfl rfl rfl rfl (by simp) rfl
              case hy =>
                rintro W' ⟨e1, e2⟩
                go_simp
                first | done | with_reducible rfl
              simp only [List.setIfInBounds_toArray, List.set_cons_zero, List.set_cons_succ]
              apply wpTakes_gdD (j := 16) (t := 32) (b := false) (c := false) rfl rfl rfl rfl rfl (by simp) rfl
              case hy =>
                rintro W' ⟨e1, e2⟩
                go_simp
                first | done | with_reducible rfl
              simp only [List.setIfInBounds_toArray, List.set_cons_zero, List.set_cons_succ]
              apply wpTakes_consD rfl rfl (by rfl)
              case hy =>
                rintro W' ⟨e1, e2⟩
                go_simp
                first | done | with_reducible rfl
              simp only [List.setIfInBounds_toArray, List.set_cons_zero, List.set_cons_succ]
              apply wpTakes_consD rfl rfl (by rfl)
              case hy =>
                rintro W' ⟨e1, e2⟩
                go_simp
                first | done | with_reducible rfl
              simp only [List.setIfInBounds_toArray, List.set_cons_zero, List.set_cons_succ]
              apply wpTakes_gdD (j := 24) (t := 40) (b := false) (c := false) rfl rfl rfl rfl rfl (by simp) rfl
              case hy =>
                rintro W' ⟨e1, e2⟩
                go_simp
                first | done | with_reducible rfl
              simp only [List.setIfInBounds_toArray, List.set_cons_zero, List.set_cons_succ]
              apply wpTakes_gdD (j := 24) (t := 40) (b := false) (c := false) rfl rfl rfl rfl rfl (by simp) rfl
              case hy =>
                rintro W' ⟨e1, e2⟩
                have u0 := e1.cell (i := 0) rfl
                have u1 := e1.cell (i := 1) rfl
                have u2 := e1.cell (i := 2) rfl
                obtain ⟨d0, d1, d2, d3⟩ := e2.coll
                go_simp
                first | done | with_reducible rfl
              simp only [List.setIfInBounds_toArray, List.set_cons_zero, List.set_cons_succ]
              apply wpTakes_gdD (j := 24) (t := 40) (b := false) (c := false) rfl rfl rfl rfl rfl (by simp) rfl
              case hy =>
                rintro W' ⟨e1, e2⟩
                have u0 := e1.cell (i := 0) rfl
                have u1 := e1.cell (i := 1) rfl
                have u2 := e1.cell (i := 2) rfl
                obtain ⟨d0, d1, d2, d3⟩ := e2.coll
                go_simp
                first | done | with_reducible rfl
              simp only [List.setIfInBounds_toArray, List.set_cons_zero, List.set_cons_succ]
              apply wpTakes_gdD (j := 24) (t := 40) (b := false) (c := false) rfl rfl rfl rfl rfl (by simp) rfl
              case hy =>
                rintro W' ⟨e1, e2⟩
                go_simp
                first | done | with_reducible rfl
              simp only [List.setIfInBounds_toArray, List.set_cons_zero, List.set_cons_succ]
              apply wpTakes_gdD (j := 24) (t := 40) (b := false) (c := false) rfl rfl rfl rfl rfl (by simp) rfl
              case hy =>
                rintro W' ⟨e1, e2⟩
                have u0 := e1.cell (i := 0) rfl
                have u1 := e1.cell (i := 1) rfl
                have u2 := e1.cell (i := 2) rfl
                obtain ⟨d0, d1, d2, d3⟩ := e2.coll
                go_simp
                first | done | with_reducible rfl
              simp only [List.setIfInBounds_toArray, List.set_cons_zero, List.set_cons_succ]
              apply wpTakes_gdD (j := 24) (t := 40) (b := false) (c := false) rfl rfl rfl rfl rfl (by simp) rfl
              case hy =>
                rintro W' ⟨e1, e2⟩
                go_simp
                first | done | with_reducible rfl
              simp only [List.setIfInBounds_toArray, List.set_cons_zero, List.set_cons_succ]
              apply wpTakes_gdD (j := 24) (t := 40) (b := false) (c := false) rfl rfl rfl rfl rfl (by simp) rfl
              case hy =>
                rintro W' ⟨e1, e2⟩
                have u0 := e1.cell (i := 0) rfl
                have u1 := e1.cell (i := 1) rfl
                have u2 := e1.cell (i := 2) rfl
                obtain ⟨d0, d1, d2, d3⟩ := e2.coll
                go_simp
                first | done | with_reducible rfl
              simp only [List.setIfInBounds_toArray, List.set_cons_zero, List.set_cons_succ]
              obtain ⟨lo, hlo⟩ := Int.eq_ofNat_of_zero_le (show 0 ≤ ulo by omega)
              obtain ⟨hi, hhi⟩ := Int.eq_ofNat_of_zero_le (show 0 ≤ uhi by omega)
              subst hlo hhi
              refine wpSeqR_cons rfl ?_
              gi_wp2_with (fail)
              refine (callsIn_wide.2 (HRS.out lo hi (by omega) (by omega) _ HID.out.bel)).mono ?_
              rintro e W2 ⟨z, rfl, hz, hb2⟩
              obtain ⟨a9, k9, rfl, hr9⟩ := hz.rdgs (HSM.out lo hi (by omega))
              obtain ⟨n9, hn9⟩ : ∃ n9, (rdsL x lo hi).length = n9 := ⟨_, rfl⟩
              rw [hn9] at hr9 ⊢
              have HK2 := Lib.hid ((HK7.out.below (Below.refl _ _).drew).below hb2)
              have HI2 := Lib.hid (HID.out.below hb2)
              have HSA := Lib.hid (sameP ar a9 kr k9 nr n9 rds (rdsL x lo hi) W2 ((Rdgs.mono HRA.out (Nat.le_refl _) (Below.refl _ _).drew).mono (Nat.le_refl _) hb2) hr9)
              have HB2 := Lib.hid (bstep (bstep HBA.out (Below.refl _ _).drew) hb2)
              clear hz hb2 hr9 hn9
              gi_wp2_with (fail)
              refine ⟨fun _ => ⟨HK2.out, HI2.out.b0⟩, ?_⟩
              refine wpSeqR_cons rfl ?_
              gi_wp2_with (fail)
              refine (callsIn_wide.2 HSA.out).mono ?_
              rintro e W4 ⟨rfl, hb4⟩
              have HK4 := Lib.hid (HK2.out.below hb4)
              have HI4 := Lib.hid (HI2.out.below hb4)
              have HB4 := Lib.hid (bstep HB2.out hb4)
              clear hb4
              gi_wp2_with (fail)
              refine ⟨fun _ => ⟨HK4.out, HI4.out.b0⟩, ?_⟩
              have HHR := Lib.hid (show Go.Ap.hasR x ⟨(lo : Int), (hi : Int), rds⟩ = decide (rds = rdsL x lo hi) from rfl)
              by_cases hsame : rds = rdsL x lo hi
              · have dS : decide (rds = rdsL x lo hi) = true := by simpa using hsame
                rw [dS]
                refine wpSeqR_cons rfl ?_
                gi_wp2_with (fail)
                refine ⟨fun _ => ⟨HK4.out, HI4.out.b0⟩, ?_⟩
                refine wpSeqR_cons rfl ?_
                gi_wp2_with (fail)
                refine ⟨fun _ => ⟨HK4.out, HI4.out.b0⟩, ?_⟩
                refine wpSeqR_nilN ?_
                have c7 := HK4.out.cell (i := 1) rfl
                have HCN := Lib.hid (show okUs n3 (Go.Ap.hasR x) (-1) us = okUs n3 (Go.Ap.hasR x) (hi : Int) (us.drop (k + 1)) from by
                  rw [HCS.out, HHR.out, dS, show decide (b < (lo : Int)) = true by simp; omega, show decide (0 ≤ (lo : Int)) = true by simp, show decide ((lo : Int) < (hi : Int)) = true by simp; omega, show decide ((hi : Int) ≤ (n3 : Int)) = true by simp; omega]; rfl)
                gi_wp2_with (fail)
                go_roundw
                case rel => exact ⟨k + 1, (hi : Int), by omega, rfl, by simp, HCN.out, HB4.out⟩
                case measure => simp [intOf]; omega
              · have dS : decide (rds = rdsL x lo hi) = false := by simpa using hsame
                rw [dS]
                refine wpSeqR_cons rfl ?_
                gi_wp2_with (fail)
                refine ⟨fun _ => ⟨HK4.out, HI4.out.b0⟩, ?_⟩
                refine wpSeqR_cons rfl ?_
                gi_wp2_with (fail)
                refine ⟨fun _ => ⟨HK4.out, HI4.out.b0⟩, ?_⟩
                refine wpSeqR_nilN ?_
                have HF := Lib.hid (HNO.out (by rw [HCS.out]; rw [HHR.out, dS]; simp))
                have c4 := HI4.out.b2.cell
                have f4 := HI4.out.b2.frozen
                have HBS := Lib.hid (HI4.out.b2.set (.bool true))
                gi_wp2_with (fail)
                refine ⟨.bool false, ?_, by rw [HF.out], ?_⟩
                · simp [results, Tryz.f59, go_sem, (HI4.out.b2.set (.bool false)).cell]
                · exact HI4.out.bel.setCell (p := ⟨w.heap.size + 2, 0, none⟩) (by simp) _
      -- ARMS-END
    · obtain rfl : k = n := by omega
      have HOK := Lib.hid (show okUs n3 (Go.Ap.hasR x) (-1) us = true from by rw [HCH.out, List.drop_of_length_le (by rw [HLU.out]; exact Nat.le_refl _)]; rfl)
      obtain ⟨q0, q1, q2, q3⟩ := HI.out.b0.coll
      gi_wp2_with (fail)
      refine (callsIn_wide.2 (HRU.out _)).mono ?_
      rintro e w2 ⟨rfl, hbx, hb2⟩
      have HI2 := Lib.hid (HI.out.below hb2)
      have hszw := HI.out.bel.size
      have hbl := hbx.lt
      have hsz2 := hb2.size
      have hb2s := HI.out.b2.lt
      have HS := Lib.hid (HST.out w2 wk.heap.size HI2.out.bel hbx.lt hbx.coll)
      clear hb2 hbx q0 q1 q2 q3
      gi_wp2_with (fail)
      refine wpIn_name ?_
      intro A hA
      have HA := Lib.hid hA
      refine wpIn_rangeFunc_ownH (F := Fence.wide) rfl (by omega) (gf := 81) (by rw [hA]; rfl) trivial eg
        (HS.out _ (by omega)) KeepR.trans (keepR_b (w := w2) (by omega) (by omega) (by omega)) (Below.refl _ _) (fun _ => rfl)
        (fun (pre : List {r : Nat × Nat // r ∈ runsF (comB x) n3 0}) W => (RtI w #[.string (bs x.sec), .slice a1 n1 c1, .slice a2 n2 c2, .slice a3 n3 c3] (.slice a k c) (.bool false) W ∧ w2.heap.size ≤ W.heap.size) ∧ ∀ r ∈ pre, us.any (coverB r.1.1 r.1.2) = true)
        (fun cd (_ : List {r : Nat × Nat // r ∈ runsF (comB x) n3 0}) W => (cd = .ret ∧ ∃ r : {r : Nat × Nat // r ∈ runsF (comB x) n3 0}, us.any (coverB r.1.1 r.1.2) = false) ∧ RtI w #[.string (bs x.sec), .slice a1 n1 c1, .slice a2 n2 c2, .slice a3 n3 c3] (.slice a k c) (.bool false) W)
        (fun _ _ _ _ hI hg hr => ⟨⟨RtI.keptN hI.1.1 hg (fun r he => (hr r he).2) (fun r he => by have := (hr r he).1; omega), Nat.le_trans hI.1.2 hg.size⟩, hI.2⟩)
        (fun _ _ _ _ _ hI hg hr => ⟨hI.1, RtI.keptN hI.2 hg (fun r he => (hr r he).2) (fun r he => by have := (hr r he).1; omega)⟩)
        ⟨⟨HI2.out, Nat.le_refl _⟩, fun r hr => by cases hr⟩
        (fun (r : {r : Nat × Nat // r ∈ runsF (comB x) n3 0}) a' W => ∃ B8 B9, a' = { tmps := (((A.tmps.setIfInBounds 57 (.int .i64 (r.1.1 : Int))).setIfInBounds 58 (.int .i64 (r.1.2 : Int))).setIfInBounds 8 (.pointer (some ⟨B8, 0, none⟩))).setIfInBounds 9 (.pointer (some ⟨B9, 0, none⟩)), defers := [] } ∧ Boxed W B8 3 (.int .i64 (r.1.1 : Int)) ∧ Boxed W B9 3 (.int .i64 (r.1.2 : Int)))
        (fun r a' _ X Y row h hg hr => by obtain ⟨B8, B9, e, h1, h2⟩ := h; exact ⟨B8, B9, e, boxed_k h1 hg hr, boxed_k h2 hg hr⟩) ?assign ?body ?done ?stop
      case assign =>
        rintro l pre ⟨⟨lo, hi⟩, hr⟩ W K ⟨⟨hI, hwW⟩, hcv⟩ hK
        have HK := Lib.hid hK
        have HI9 := Lib.hid hI
        have HCV := Lib.hid hcv
        clear hK hI hcv HS
        subst hA
        gi_wp2_with (fail)
        have b1 := balloc W (.cells #[.int .i64 (lo : Int)] 3)
        have b2 := balloc (W.alloc (.cells #[.int .i64 (lo : Int)] 3)) (.cells #[.int .i64 (hi : Int)] 3)
        have hbb := bstep b1 b2
        have hszx := HI9.out.bel.size
        have X8 : Boxed ((W.alloc (.cells #[.int .i64 (lo : Int)] 3)).alloc (.cells #[.int .i64 (hi : Int)] 3)) W.heap.size 3 (.int .i64 (lo : Int)) := boxed_below (Boxed.new W 3 (.int .i64 (lo : Int))) b2
        have X9 : Boxed ((W.alloc (.cells #[.int .i64 (lo : Int)] 3)).alloc (.cells #[.int .i64 (hi : Int)] 3)) (W.heap.size + 1) 3 (.int .i64 (hi : Int)) := by
          have := Boxed.new (W.alloc (.cells #[.int .i64 (lo : Int)] 3)) 3 (.int .i64 (hi : Int))
          rwa [World.size_alloc] at this
        exact HK.out _ _ ((KeepsOthers.of_grownBy (grown_of_below hbb) (by simp)).from _) (KeepR.of_below hbb (by omega) (by omega) (by omega)) ⟨⟨HI9.out.below hbb, Nat.le_trans hwW hbb.size⟩, HCV.out⟩ ⟨W.heap.size, W.heap.size + 1, rfl, X8, X9⟩
      case body =>
        rintro l pre ⟨⟨lo, hi⟩, hr⟩ a' W hlw hlr ⟨⟨hI, hwW⟩, hcv⟩ ⟨B8, B9, rfl, h8, h9⟩ hlt
        have HI9 := Lib.hid hI
        have HCV := Lib.hid hcv
        have H8 := Lib.hid h8
        have H9 := Lib.hid h9
        have HCN := Lib.hid (contPl (coverB lo hi) a k c us 88 #[.pointer (some ⟨B8, 0, none⟩), .pointer (some ⟨B9, 0, none⟩)] W (HU.out W hI.bel) eg2 (fun u _ a1 n1 k1 W' hb => right1 B8 B9 lo hi u a1 n1 k1 W' (boxed_below H8.out hb).cell (boxed_below H9.out hb).cell))
        have e0 := hI.b1.cell
        clear hI hcv h8 h9 hlr
        subst hA
        simp only [List.setIfInBounds_toArray, List.set_cons_zero, List.set_cons_succ]
        cases hcb : us.any (coverB lo hi)
        all_goals
          rw [hcb] at HCN
          have HCB := Lib.hid hcb
          clear hcb
          gi_wp2_with (fail)
        · refine (CallsIn.inRound _ (callsIn_wide.2 HCN.out)).mono ?_
          rintro e W2 ⟨rfl, hb2⟩
          have HI5 := Lib.hid (HI9.out.below hb2)
          have HG2 := Lib.hid (grown_of_below hb2)
          have c4 := HI5.out.b2.cell
          have f4 := HI5.out.b2.frozen
          clear hb2 e0
          gi_wp2_with (fail)
          exact ⟨((KeepsOthers.of_grownBy HG2.out (by simp)).trans (KeepsOthers.setCell _ _ _)).from _, ⟨rfl, ⟨⟨(lo, hi), hr⟩, HCB.out⟩⟩, HI5.out.setR _⟩
        · refine (CallsIn.inRound _ (callsIn_wide.2 HCN.out)).mono ?_
          rintro e W2 ⟨rfl, hb2⟩
          have HB2 := Lib.hid hb2
          clear hb2 e0
          gi_wp2_with (fail)
          refine ⟨(KeepsOthers.of_grownBy (grown_of_below HB2.out) (by simp)).from _, KeepR.of_below HB2.out (by have := HI9.out.bel.size; omega) (by omega) (by omega), ⟨HI9.out.below HB2.out, Nat.le_trans hwW HB2.out.size⟩, fun r hrm => ?_⟩
          rcases List.mem_append.1 hrm with h | h
          · exact HCV.out r h
          · rw [List.mem_singleton] at h; subst h; exact HCB.out
      case done =>
        rintro D ys W hD hS ⟨⟨hI, hwW⟩, hcv⟩ hK
        have HRT := Lib.hid (show rightB x us = true from by
          unfold rightB covP
          rw [HL3.out, HOK.out, Bool.true_and, List.all_eq_true]
          intro r hr
          rw [← show ys.map (·.1) = runsF (comB x) n3 0 from hS] at hr
          obtain ⟨r', hr', rfl⟩ := List.mem_map.1 hr
          exact hcv r' hr')
        have HI9 := Lib.hid hI
        have HK := Lib.hid hK
        have c4 := hI.b2.cell
        have f4 := hI.b2.frozen
        have HK' := Lib.hid ((KeepsOthers.setCell W ⟨w.heap.size + 2, 0, none⟩ (.bool true)).same D _ hK rfl)
        clear hI hcv hS hK
        subst hA
        gi_wp2_with (fail)
        refine ⟨by simp, .inl ⟨_, _, rfl, run_takeDeferred HK'.out, ?_⟩⟩
        have e1 := ((HI9.out.setR (.bool true)).b2.kept (grownBy_putObj' _ D (.deferred none)) (by have := HI9.out.b2.lt; simp; omega)).cell
        refine ⟨.bool true, by simp [results, Tryz.f59, go_sem, e1], by rw [HRT.out], (HI9.out.setR (.bool true)).bel.trans (belowK_b (w := w) (Nat.le_refl _) _ D _ _ (by omega) HK'.out rfl rfl)⟩
      case stop =>
        rintro D c pre W hD hpre ⟨⟨rfl, r, hr⟩, hI⟩ hK
        have HRT := Lib.hid (show rightB x us = false from by
          unfold rightB covP
          rw [HL3.out, HOK.out, Bool.true_and, List.all_eq_false]
          exact ⟨r.1, r.2, by simpa [coverB] using hr⟩)
        have HI9 := Lib.hid hI
        have HK := Lib.hid hK
        clear hI hpre hr hK
        subst hA
        gi_wp2_with (fail)
        refine ⟨by simp, .inl ⟨_, _, rfl, run_takeDeferred HK.out, ?_⟩⟩
        have e1 := (HI9.out.b2.kept (grownBy_putObj' _ D (.deferred none)) (by have := HI9.out.b2.lt; simp; omega)).cell
        refine ⟨.bool false, by simp [results, Tryz.f59, go_sem, e1], by rw [HRT.out], HI9.out.bel.trans (belowK_b (w := w) (Nat.le_refl _) W D _ _ (by omega) HK.out rfl rfl)⟩
end Go.Proofs.YthfppkcefnmdoaaGreatDoor
