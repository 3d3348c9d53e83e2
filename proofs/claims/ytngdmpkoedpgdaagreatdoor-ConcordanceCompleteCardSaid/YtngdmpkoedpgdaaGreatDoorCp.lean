/-
  Dictionary order (charset).
-/
import Derived.Test.YtngdmpkoedpgdaaGreatDoorPm
namespace Go.Ap
open Go Go.RowKit
theorem Lw.alloc {w w' : World} (h : Lw w w') (o : Obj) : Lw w (w'.alloc o) := h.trans ⟨0, #[o], by rw [Sort.alloc_eq_grow]; rfl⟩
theorem Lw.drew {w w' : World} (h : Lw w w') : Lw w w'.drew := h.trans ⟨1, #[], by rw [Sort.grow_empty]; rfl⟩
theorem Lw.cell {w w' : World} (h : Lw w w') {a : Addr} {v : Value} (hc : w.cell? a = some v) : w'.cell? a = some v := by
  rw [h.below.cell (World.block_lt_of_cell? w a hc)]
  exact hc
theorem plainM_le (mk : UInt8 → Bool) (s : Str) : (plainM mk s).length ≤ s.length := List.length_filter_le _ _
theorem foldS_len (s : Str) : (foldS s).length = s.length := List.length_map _
end Go.Ap
namespace Go.Proofs.YtngdmpkoedpgdaaGreatDoor
open Go.RowKit Go.Ap Go.Shelf Go.Proofs

attribute [local go_sem] Oper.semAt_some bs_toList empty_toList bs_size bs_extract bl_eq

theorem isNaN_str (s : Str) (w : World) : Calls Tryz.prog 180 #[.string (bs s)] w fun e w' => e = .returned (.bool false) ∧ w = w' := by
  go_enter Tryz.func180, Tryz.ntmps180
  go_wp2_with (fail)
  go_ret
  exact ⟨by simp, rfl⟩
set_option maxRecDepth 100000 in
set_option maxHeartbeats 2000000 in
theorem cmpStr (a b : Str) (w : World) : Calls Tryz.prog 138 #[.string (bs a), .string (bs b)] w fun e w' => e = .returned (.int .i64 (cmpS a b)) ∧ w = w' := by
  have H1 := Lib.hid (isNaN_str a)
  have H2 := Lib.hid (isNaN_str b)
  have HU := Lib.hid (show cmpS a b = if ltS a b then -1 else if ltS b a then 1 else 0 from rfl)
  rw [HU.out]
  cases h1 : ltS a b
  · have hab : (ltS b a = true → (a == b) = false) ∧ (ltS b a = false → (a == b) = true) := ⟨fun h => (by rw [beq_eq_false_iff_ne]; rintro rfl; rw [ltS_irr] at h; exact Bool.noConfusion h), fun h => (by rw [ltS_tri h1 h]; simp)⟩
    cases h2 : ltS b a
    · have e1 := hab.2 h2
      clear hab h2
      go_enter Tryz.func138, Tryz.ntmps138
      go_wp2_with (fail)
      refine (H1.out _).mono ?_
      rintro e w1 ⟨rfl, rfl⟩
      go_wp2_with (fail)
      refine (H2.out _).mono ?_
      rintro e w1 ⟨rfl, rfl⟩
      go_wp2_with (fail)
      go_ret
      exact ⟨rfl, rfl⟩
    · have e1 := hab.1 h2
      clear hab h2
      go_enter Tryz.func138, Tryz.ntmps138
      go_wp2_with (fail)
      refine (H1.out _).mono ?_
      rintro e w1 ⟨rfl, rfl⟩
      go_wp2_with (fail)
      refine (H2.out _).mono ?_
      rintro e w1 ⟨rfl, rfl⟩
      go_wp2_with (fail)
      go_ret
      exact ⟨rfl, rfl⟩
  · go_enter Tryz.func138, Tryz.ntmps138
    go_wp2_with (fail)
    refine (H1.out _).mono ?_
    rintro e w1 ⟨rfl, rfl⟩
    go_wp2_with (fail)
    refine (H2.out _).mono ?_
    rintro e w1 ⟨rfl, rfl⟩
    go_wp2_with (fail)
    go_ret
    exact ⟨rfl, rfl⟩
theorem cmp1P (s : Str) (w : World) (hs : s.length ≤ 4611686018427387903) :
    Calls Tryz.prog 136 #[.string (bs s)] w fun e w' => e = .returned (.string (bs (foldS (plainM mkB s)))) ∧ Lw w w' := by
  have H1 := Lib.hid (plainP s w hs)
  have H2 := Lib.hid (fun W => foldP (plainM mkB s) W (Nat.le_trans (plainM_le _ _) hs))
  go_enter Tryz.func136, Tryz.ntmps136
  go_wp2_with (fail)
  refine H1.out.mono ?_
  rintro e w1 ⟨rfl, hb1⟩
  go_wp2_with (fail)
  refine (H2.out _).mono ?_
  rintro e w2 ⟨rfl, hb2⟩
  go_wp2_with (fail)
  go_ret
  exact ⟨rfl, hb1.trans hb2⟩
theorem cmp2P (s : Str) (w : World) : Calls Tryz.prog 137 #[.string (bs s)] w fun e w' => e = .returned (.string (bs s)) ∧ Lw w w' := by
  go_enter Tryz.func137, Tryz.ntmps137
  go_wp2_with (fail)
  go_ret
  exact ⟨rfl, Lw.refl _⟩
set_option maxRecDepth 100000 in
set_option maxHeartbeats 4000000 in
theorem compareP (a b : Str) (w : World) (ha : a.length ≤ 4611686018427387903) (hb : b.length ≤ 4611686018427387903) :
    Calls Tryz.prog 80 #[.string (bs a), .string (bs b)] w fun e w' => e = .returned (.int .i64 (dictM mkB a b)) ∧ Lw w w' := by
  have A1 := Lib.hid (fun W => cmp1P a W ha)
  have A2 := Lib.hid (fun W => cmp1P b W hb)
  have B1 := Lib.hid (fun W => plainP a W ha)
  have B2 := Lib.hid (fun W => plainP b W hb)
  have C1 := Lib.hid (fun W => cmp2P a W)
  have C2 := Lib.hid (fun W => cmp2P b W)
  have D1 := Lib.hid (fun W => cmpStr (foldS (plainM mkB a)) (foldS (plainM mkB b)) W)
  have D2 := Lib.hid (fun W => cmpStr (plainM mkB a) (plainM mkB b) W)
  have D3 := Lib.hid (fun W => cmpStr a b W)
  have HU := Lib.hid (show dictM mkB a b = if cmpS (foldS (plainM mkB a)) (foldS (plainM mkB b)) = 0 then if cmpS (plainM mkB a) (plainM mkB b) = 0 then cmpS a b else cmpS (plainM mkB a) (plainM mkB b) else cmpS (foldS (plainM mkB a)) (foldS (plainM mkB b)) from rfl)
  obtain ⟨r1, h1⟩ : ∃ r, cmpS (foldS (plainM mkB a)) (foldS (plainM mkB b)) = r := ⟨_, rfl⟩
  obtain ⟨r2, h2⟩ : ∃ r, cmpS (plainM mkB a) (plainM mkB b) = r := ⟨_, rfl⟩
  obtain ⟨r3, h3⟩ : ∃ r, cmpS a b = r := ⟨_, rfl⟩
  rw [h1, h2, h3] at HU
  rw [h1] at D1
  rw [h2] at D2
  rw [h3] at D3
  obtain ⟨R, hR⟩ : ∃ R, dictM mkB a b = R := ⟨_, rfl⟩
  rw [hR] at HU ⊢
  clear h1 h2 h3 hR
  have HN := Lib.hid (BlkK.new w #[.func (.func 136) #[] #[], .func (.func 95) #[] #[], .func (.func 137) #[] #[]] 59)
  go_enter Tryz.func80, Tryz.ntmps80
  go_wp2_with (fail)
  go_loopw [12] (fun kv wr => ∃ k : Nat, k ≤ 3 ∧ kv = .int .i64 k ∧ BlkK wr w.heap.size #[.func (.func 136) #[] #[], .func (.func 95) #[] #[], .func (.func 137) #[] #[]] 59 ∧ Lw w wr ∧ (1 ≤ k → r1 = 0) ∧ (2 ≤ k → r2 = 0) ∧ (3 ≤ k → r3 = 0)) (fun kv _ => 3 - (intOf kv).toNat)
  case atStart => exact ⟨0, Nat.zero_le _, rfl, HN.out, (Lw.refl w).alloc _, by omega, by omega, by omega⟩
  case round =>
    obtain ⟨wi, rfl⟩ : ∃ wi : World, wi = wr := ⟨_, rfl⟩
    obtain ⟨k, hk, rfl, hbk, hl, g1, g2, g3⟩ := hrel
    have HBK := Lib.hid hbk
    have HL := Lib.hid hl
    have G1 := Lib.hid g1
    have G2 := Lib.hid g2
    have c0 : wi.cell? ⟨w.heap.size, 0, none⟩ = some (.func (.func 136) #[] #[]) := hbk.cell (i := 0) rfl
    have c1 : wi.cell? ⟨w.heap.size, 1, none⟩ = some (.func (.func 95) #[] #[]) := hbk.cell (i := 1) rfl
    have c2 : wi.cell? ⟨w.heap.size, 2, none⟩ = some (.func (.func 137) #[] #[]) := hbk.cell (i := 2) rfl
    obtain rfl | rfl | rfl | rfl : k = 0 ∨ k = 1 ∨ k = 2 ∨ k = 3 := by omega
    · clear hbk hl g1 g2 g3
      go_wp2_with (fail)
      refine (A1.out _).mono ?_
      rintro e w1 ⟨rfl, l1⟩
      have L1 := Lib.hid (HL.out.trans l1)
      have d0 := l1.cell c0
      have HB1 := Lib.hid (HBK.out.below l1.below)
      clear l1
      go_wp2_with (fail)
      refine (A2.out _).mono ?_
      rintro e w2 ⟨rfl, l2⟩
      have L2 := Lib.hid (L1.out.trans l2)
      have HB2 := Lib.hid (HB1.out.below l2.below)
      clear l2
      go_wp2_with (fail)
      refine (D1.out _).mono ?_
      rintro e w3 ⟨rfl, rfl⟩
      by_cases hr : r1 = 0
      · have HR := Lib.hid hr
        have e1 : (r1 != 0) = false := by simp [hr]
        clear hr
        go_wp2_with (fail)
        exact ⟨⟨1, by omega, by simp, HB2.out, L2.out, fun _ => HR.out, by omega, by omega⟩, by simp [intOf]⟩
      · have HR := Lib.hid hr
        have e1 : (r1 != 0) = true := by simpa using hr
        clear hr
        go_wp2_with (fail)
        go_ret
        exact ⟨ret_i (by rw [HU.out, if_neg HR.out]), L2.out⟩
    · clear hbk hl g1 g2 g3
      go_wp2_with (fail)
      refine (B1.out _).mono ?_
      rintro e w1 ⟨rfl, l1⟩
      have L1 := Lib.hid (HL.out.trans l1)
      have d1 := l1.cell c1
      have HB1 := Lib.hid (HBK.out.below l1.below)
      clear l1
      go_wp2_with (fail)
      refine (B2.out _).mono ?_
      rintro e w2 ⟨rfl, l2⟩
      have L2 := Lib.hid (L1.out.trans l2)
      have HB2 := Lib.hid (HB1.out.below l2.below)
      clear l2
      go_wp2_with (fail)
      refine (D2.out _).mono ?_
      rintro e w3 ⟨rfl, rfl⟩
      by_cases hr : r2 = 0
      · have HR := Lib.hid hr
        have e1 : (r2 != 0) = false := by simp [hr]
        clear hr
        go_wp2_with (fail)
        exact ⟨⟨2, by omega, by simp, HB2.out, L2.out, fun _ => G1.out (by omega), fun _ => HR.out, by omega⟩, by simp [intOf]⟩
      · have HR := Lib.hid hr
        have e1 : (r2 != 0) = true := by simpa using hr
        clear hr
        go_wp2_with (fail)
        go_ret
        exact ⟨ret_i (by rw [HU.out, if_pos (G1.out (by omega)), if_neg HR.out]), L2.out⟩
    · clear hbk hl g1 g2 g3
      go_wp2_with (fail)
      refine (C1.out _).mono ?_
      rintro e w1 ⟨rfl, l1⟩
      have L1 := Lib.hid (HL.out.trans l1)
      have d2 := l1.cell c2
      have HB1 := Lib.hid (HBK.out.below l1.below)
      clear l1
      go_wp2_with (fail)
      refine (C2.out _).mono ?_
      rintro e w2 ⟨rfl, l2⟩
      have L2 := Lib.hid (L1.out.trans l2)
      have HB2 := Lib.hid (HB1.out.below l2.below)
      clear l2
      go_wp2_with (fail)
      refine (D3.out _).mono ?_
      rintro e w3 ⟨rfl, rfl⟩
      by_cases hr : r3 = 0
      · have HR := Lib.hid hr
        have e1 : (r3 != 0) = false := by simp [hr]
        clear hr
        go_wp2_with (fail)
        exact ⟨⟨3, by omega, by simp, HB2.out, L2.out, fun _ => G1.out (by omega), fun _ => G2.out (by omega), fun _ => HR.out⟩, by simp [intOf]⟩
      · have HR := Lib.hid hr
        have e1 : (r3 != 0) = true := by simpa using hr
        clear hr
        go_wp2_with (fail)
        go_ret
        exact ⟨ret_i (by rw [HU.out, if_pos (G1.out (by omega)), if_pos (G2.out (by omega))]), L2.out⟩
    · have HZ := Lib.hid (show (0 : Int) = R by rw [HU.out, if_pos (g1 (by omega)), if_pos (g2 (by omega)), g3 (by omega)])
      clear hbk hl g1 g2 g3
      go_wp2_with (fail)
      go_ret
      exact ⟨ret_i HZ.out, HL.out⟩
end Go.Proofs.YtngdmpkoedpgdaaGreatDoor
