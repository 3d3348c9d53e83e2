/-
  Small letters, no marks, dictionary order (reference).
-/
import Derived.Test.YtngdmpkoedpgdaaGreatDoorQ1
import Derived.Test.YtngdmpkoedpgdaaGreatDoorNc
namespace Go.Ap
open Go Go.RowKit
/-- bytes of the call's own -/
def OwnY (e : TypeId) (w : World) (base : Nat) (v : Value) (xs : Str) : Prop := w.ownsRow base e 1 v xs.length (xs.map encB)
theorem OwnY.conv {P : Program} {w : World} {base : Nat} {v : Value} {xs : Str} {src dst e : TypeId} (h : OwnY e w base v xs) (hs : P.underlying src = some (.slice e)) (he : P.underlying e = some (.int .u8)) (hd : P.underlying dst = some .string) :
    (convert src dst v).run P w = .ok (.string (bs xs)) w := by
  rcases h.2 with ⟨rfl, h0⟩ | ⟨g, cap, cur, rfl, hbb, hg, r1, r2, r3, r4⟩
  · rw [List.length_eq_zero_iff] at h0
    subst h0
    exact run_convert_bytes_nil w src e hs he 0 0 dst hd
  · refine run_convert_bytes_back w src dst e ⟨g, 0, none⟩ cap xs hs he hd fun j hj => ?_
    exact h.cells (g := g) rfl j (encB xs[j]) (by simp [hj])
end Go.Ap
namespace Go.Proofs.YtngdmpkoedpgdaaGreatDoor
open Go.RowKit Go.Ap Go.Shelf Go.Proofs

attribute [local go_sem] Oper.semAt_some bs_toList empty_toList bs_size bs_extract bl_eq

theorem infoU8 : (Tryz.prog.info? 5).map (fun i => (i.zero, i.size, i.bytes)) = some (some (.int .u8 0), 1, 1) := by kernel_rfl
set_option maxRecDepth 100000 in
set_option maxHeartbeats 4000000 in
theorem foldR (s : Str) (w : World) (hs : s.length ≤ 65536) :
    Calls Tryz.prog 73 #[.string (bs s)] w fun e w' => e = .returned (.string (bs (foldS s))) ∧ Below w.heap.size w w' := by
  obtain ⟨i0, hi, hz0, hz1, hz2⟩ := info_parts infoU8
  go_enter Tryz.func73, Tryz.ntmps73
  go_wp2_with (fail)
  go_loopw [3, 4] (fun ov iv wr => ∃ i : Nat, i ≤ s.length ∧ iv = .int .i64 i ∧ wr.ownsRow w.heap.size 5 1 ov i ((foldS (s.take i)).map encB) ∧ Below w.heap.size w wr) (fun _ iv _ => s.length - (intOf iv).toNat)
  case atStart => exact ⟨0, Nat.zero_le _, rfl, World.ownsRow_made w #[] 0 (Nat.le_refl _) (by simp [maxLen]) rfl, balloc _ _⟩
  case round =>
    obtain ⟨i, hi0, rfl, ho, hb⟩ := hrel
    have HO := Lib.hid ho
    have HB := Lib.hid hb
    have hsz := hb.size
    by_cases hlt : i < s.length
    · have HSN := Lib.hid (show (foldS (s.take (i + 1))).map encB = (foldS (s.take i)).map encB ++ [encB (lowC s[i])] by rw [List.take_succ_eq_append_getElem hlt]; unfold foldS; rw [List.map_append, List.map_append]; rfl)
      have hix : (bs s)[i]'(by rw [bs_size]; exact hlt) = s[i] := bs_get (by rw [bs_size]; exact hlt)
      obtain ⟨c, hc⟩ : ∃ c, s[i] = c := ⟨_, rfl⟩
      rw [hc] at HSN hix
      have i1 : (i : Int) < (s.length : Int) := by omega
      have hlo := c.toNat_lt
      clear ho hb hc
      by_cases h1 : 65 ≤ c.toNat
      · by_cases h2 : c.toNat ≤ 90
        · have d1 : (65 : Int) ≤ (c.toNat : Int) := by omega
          have d2 : (c.toNat : Int) ≤ 90 := by omega
          have HW := Lib.hid (show encB (lowC c) = .int .u8 ((c.toNat : Int) + 97 - 65) by unfold encB; rw [low_up h1 h2]; congr 1; omega)
          rw [HW.out] at HSN
          clear h1 h2
          go_wp2_with (at_builtin; refine wpList_append_own _ rfl _ _ 23 rfl w.heap.size 5 i0 (.int .u8 0) 1 1 Tryz.underlying23 hi hz0 hz1 hz2 rfl (by decide) _ _ _ rfl (HO.out.alloc _) ⟨wr.heap.size, 0, none⟩ 1 1 [.int .u8 ((c.toNat : Int) + 97 - 65)] rfl rfl (cell_one_new _ _ _) (by simp [Value.oneCell']) (by unfold maxLen; omega) (by omega) (by simp; omega) ?_; intro v1 w4 hown1 hgrow1 _; have HO2 := Lib.hid hown1; have HG := Lib.hid hgrow1; clear hown1 hgrow1)
          go_roundw
          case rel => exact ⟨i + 1, by omega, by simp, by rw [HSN.out]; exact HO2.out, (HB.out.alloc hsz _).grown HG.out (by simp; omega) (fun j hj => (HO.out.lt j hj).1)⟩
          case measure => simp [intOf]; omega
        · have d1 : (65 : Int) ≤ (c.toNat : Int) := by omega
          have d2 : ¬(c.toNat : Int) ≤ 90 := by omega
          rw [low_no (fun h => h2 h.2)] at HSN
          clear h1 h2
          go_wp2_with (at_builtin; refine wpList_append_own _ rfl _ _ 23 rfl w.heap.size 5 i0 (.int .u8 0) 1 1 Tryz.underlying23 hi hz0 hz1 hz2 rfl (by decide) _ _ _ rfl (HO.out.alloc _) ⟨wr.heap.size, 0, none⟩ 1 1 [.int .u8 (c.toNat : Int)] rfl rfl (cell_one_new _ _ _) (by simp [Value.oneCell']) (by unfold maxLen; omega) (by omega) (by simp; omega) ?_; intro v1 w4 hown1 hgrow1 _; have HO2 := Lib.hid hown1; have HG := Lib.hid hgrow1; clear hown1 hgrow1)
          go_roundw
          case rel => exact ⟨i + 1, by omega, by simp, by rw [HSN.out]; exact HO2.out, (HB.out.alloc hsz _).grown HG.out (by simp; omega) (fun j hj => (HO.out.lt j hj).1)⟩
          case measure => simp [intOf]; omega
      · have d1 : ¬(65 : Int) ≤ (c.toNat : Int) := by omega
        rw [low_no (fun h => h1 h.1)] at HSN
        clear h1
        go_wp2_with (at_builtin; refine wpList_append_own _ rfl _ _ 23 rfl w.heap.size 5 i0 (.int .u8 0) 1 1 Tryz.underlying23 hi hz0 hz1 hz2 rfl (by decide) _ _ _ rfl (HO.out.alloc _) ⟨wr.heap.size, 0, none⟩ 1 1 [.int .u8 (c.toNat : Int)] rfl rfl (cell_one_new _ _ _) (by simp [Value.oneCell']) (by unfold maxLen; omega) (by omega) (by simp; omega) ?_; intro v1 w4 hown1 hgrow1 _; have HO2 := Lib.hid hown1; have HG := Lib.hid hgrow1; clear hown1 hgrow1)
        go_roundw
        case rel => exact ⟨i + 1, by omega, by simp, by rw [HSN.out]; exact HO2.out, (HB.out.alloc hsz _).grown HG.out (by simp; omega) (fun j hj => (HO.out.lt j hj).1)⟩
        case measure => simp [intOf]; omega
    · obtain rfl : i = s.length := by omega
      have hcv := OwnY.conv (P := Tryz.prog) (src := 23) (dst := 9) (show OwnY 5 wr w.heap.size u3 (foldS s) by have := ho; rw [List.take_length] at this; unfold OwnY; rw [foldS_len]; exact this) Tryz.underlying23 Tryz.underlying5 Tryz.underlying9
      clear ho hb
      go_wp2_with (fail)
      go_ret
      exact ⟨rfl, HB.out⟩
set_option maxRecDepth 100000 in
set_option maxHeartbeats 4000000 in
theorem plainR (s : Str) (w : World) (hs : s.length ≤ 65536) :
    Calls Tryz.prog 34 #[.string (bs s)] w fun e w' => e = .returned (.string (bs (plainM mkB s))) ∧ Below w.heap.size w w' := by
  obtain ⟨i0, hi, hz0, hz1, hz2⟩ := info_parts infoU8
  go_enter Tryz.func34, Tryz.ntmps34
  go_wp2_with (fail)
  go_loopw [3, 4] (fun ov iv wr => ∃ i n : Nat, i ≤ s.length ∧ n ≤ i ∧ iv = .int .i64 i ∧ n = (plainM mkB (s.take i)).length ∧ wr.ownsRow w.heap.size 5 1 ov n ((plainM mkB (s.take i)).map encB) ∧ Below w.heap.size w wr) (fun _ iv _ => s.length - (intOf iv).toNat)
  case atStart => exact ⟨0, 0, Nat.zero_le _, Nat.zero_le _, rfl, rfl, World.ownsRow_made w #[] 0 (Nat.le_refl _) (by simp [maxLen]) rfl, balloc _ _⟩
  case round =>
    obtain ⟨i, n, hi0, hn, rfl, hnl, ho, hb⟩ := hrel
    have HO := Lib.hid ho
    have HB := Lib.hid hb
    have hsz := hb.size
    have HNL := Lib.hid hnl
    clear hnl
    by_cases hlt : i < s.length
    · have HSN := Lib.hid (show plainM mkB (s.take (i + 1)) = plainM mkB (s.take i) ++ (if mkB s[i] then [] else [s[i]]) by rw [List.take_succ_eq_append_getElem hlt]; unfold plainM; rw [List.filter_append]; congr 1; cases h : mkB s[i] <;> simp [h])
      have hix : (bs s)[i]'(by rw [bs_size]; exact hlt) = s[i] := bs_get (by rw [bs_size]; exact hlt)
      obtain ⟨c, hc⟩ : ∃ c, s[i] = c := ⟨_, rfl⟩
      rw [hc] at HSN hix
      have HK := Lib.hid (fun W => kindRc c W)
      have HM := Lib.hid (show mkB c = (wk c == 2) by unfold mkB; exact (Bool.beq_eq_decide_eq _ _).symm)
      obtain ⟨kc, hkc⟩ : ∃ kc, wk c = kc := ⟨_, rfl⟩
      rw [hkc] at HK HM
      have i1 : (i : Int) < (s.length : Int) := by omega
      have hlo := c.toNat_lt
      clear ho hb hc hkc
      by_cases h2 : kc = 2
      · subst h2
        have HQ := Lib.hid (show plainM mkB (s.take (i + 1)) = plainM mkB (s.take i) by rw [HSN.out, HM.out]; simp)
        go_wp2_with (fail)
        refine (HK.out _).mono ?_
        rintro e w1 ⟨rfl, rfl⟩
        go_wp2_with (fail)
        exact ⟨⟨i + 1, n, by omega, by omega, by simp, by rw [HQ.out]; exact HNL.out, by rw [HQ.out]; exact HO.out, HB.out⟩, by simp [intOf]; omega⟩
      · have e2 : (kc == 2) = false := by rw [beq_eq_false_iff_ne]; exact h2
        have HQ := Lib.hid (show plainM mkB (s.take (i + 1)) = plainM mkB (s.take i) ++ [c] by rw [HSN.out, HM.out, e2]; simp)
        clear h2
        go_wp2_with (fail)
        refine (HK.out _).mono ?_
        rintro e w1 ⟨rfl, rfl⟩
        go_wp2_with (at_builtin; refine wpList_append_own _ rfl _ _ 23 rfl w.heap.size 5 i0 (.int .u8 0) 1 1 Tryz.underlying23 hi hz0 hz1 hz2 rfl (by decide) _ _ _ rfl (HO.out.alloc _) ⟨wr.heap.size, 0, none⟩ 1 1 [.int .u8 (c.toNat : Int)] rfl rfl (cell_one_new _ _ _) (by simp [Value.oneCell']) (by unfold maxLen; omega) (by omega) (by simp; omega) ?_; intro v1 w4 hown1 hgrow1 _; have HO2 := Lib.hid hown1; have HG := Lib.hid hgrow1; clear hown1 hgrow1)
        go_roundw
        case rel => exact ⟨i + 1, n + 1, by omega, by omega, by simp, by rw [HQ.out, List.length_append, ← HNL.out]; rfl, by rw [HQ.out, List.map_append]; exact HO2.out, (HB.out.alloc hsz _).grown HG.out (by simp; omega) (fun j hj => (HO.out.lt j hj).1)⟩
        case measure => simp [intOf]; omega
    · obtain rfl : i = s.length := by omega
      have hcv := OwnY.conv (P := Tryz.prog) (src := 23) (dst := 9) (show OwnY 5 wr w.heap.size u3 (plainM mkB s) by have := ho; rw [HNL.out, List.take_length] at this; exact this) Tryz.underlying23 Tryz.underlying5 Tryz.underlying9
      clear ho hb
      go_wp2_with (fail)
      go_ret
      exact ⟨rfl, HB.out⟩
set_option maxHeartbeats 2000000 in
theorem cmpR (a b : Str) (w : World) : Calls Tryz.prog 72 #[.string (bs a), .string (bs b)] w fun e w' => e = .returned (.int .i64 (cmpS a b)) ∧ w = w' := by
  have HU := Lib.hid (show cmpS a b = if ltS a b then -1 else if ltS b a then 1 else 0 from rfl)
  rw [HU.out]
  cases h1 : ltS a b
  · have hab : (ltS b a = true → (a == b) = false) ∧ (ltS b a = false → (a == b) = true) := ⟨fun h => (by rw [beq_eq_false_iff_ne]; rintro rfl; rw [ltS_irr] at h; exact Bool.noConfusion h), fun h => (by rw [ltS_tri h1 h]; simp)⟩
    cases h2 : ltS b a
    · have e1 := hab.2 h2
      clear hab h2
      go_enter Tryz.func72, Tryz.ntmps72
      go_wp2_with (fail)
      go_ret
      exact ⟨rfl, rfl⟩
    · have e1 := hab.1 h2
      clear hab h2
      go_enter Tryz.func72, Tryz.ntmps72
      go_wp2_with (fail)
      go_ret
      exact ⟨rfl, rfl⟩
  · go_enter Tryz.func72, Tryz.ntmps72
    go_wp2_with (fail)
    go_ret
    exact ⟨rfl, rfl⟩
set_option maxRecDepth 100000 in
set_option maxHeartbeats 4000000 in
theorem compareR (a b : Str) (w : World) (ha : a.length ≤ 65536) (hb : b.length ≤ 65536) :
    Calls Tryz.prog 18 #[.string (bs a), .string (bs b)] w fun e w' => e = .returned (.int .i64 (dictM mkB a b)) ∧ Below w.heap.size w w' := by
  have A1 := Lib.hid (fun W => plainR a W ha)
  have A2 := Lib.hid (fun W => plainR b W hb)
  have B1 := Lib.hid (fun W => foldR (plainM mkB a) W (Nat.le_trans (plainM_le _ _) ha))
  have B2 := Lib.hid (fun W => foldR (plainM mkB b) W (Nat.le_trans (plainM_le _ _) hb))
  have D1 := Lib.hid (fun W => cmpR (foldS (plainM mkB a)) (foldS (plainM mkB b)) W)
  have D2 := Lib.hid (fun W => cmpR (plainM mkB a) (plainM mkB b) W)
  have D3 := Lib.hid (fun W => cmpR a b W)
  have HU := Lib.hid (show dictM mkB a b = if cmpS (foldS (plainM mkB a)) (foldS (plainM mkB b)) = 0 then if cmpS (plainM mkB a) (plainM mkB b) = 0 then cmpS a b else cmpS (plainM mkB a) (plainM mkB b) else cmpS (foldS (plainM mkB a)) (foldS (plainM mkB b)) from rfl)
  obtain ⟨r1, h1⟩ : ∃ r, cmpS (foldS (plainM mkB a)) (foldS (plainM mkB b)) = r := ⟨_, rfl⟩
  obtain ⟨r2, h2⟩ : ∃ r, cmpS (plainM mkB a) (plainM mkB b) = r := ⟨_, rfl⟩
  obtain ⟨r3, h3⟩ : ∃ r, cmpS a b = r := ⟨_, rfl⟩
  rw [h1, h2, h3] at HU
  rw [h1] at D1
  rw [h2] at D2
  rw [h3] at D3
  obtain ⟨R, hR⟩ : ∃ R, dictM mkB a b = R := ⟨_, rfl⟩
  rw [hR] at HU ⊢
  clear h1 h2 h3 hR
  by_cases q1 : r1 = 0
  · have Q1 := Lib.hid q1
    have e1 : (r1 != 0) = false := by simp [q1]
    clear q1
    by_cases q2 : r2 = 0
    · have Q2 := Lib.hid q2
      have e2 : (r2 != 0) = false := by simp [q2]
      clear q2
      go_enter Tryz.func18, Tryz.ntmps18
      go_wp2_with (fail)
      refine (A1.out _).mono ?_
      rintro e w1 ⟨rfl, hb1⟩
      have L1 := Lib.hid hb1
      clear hb1
      go_wp2_with (fail)
      refine (B1.out _).mono ?_
      rintro e w1 ⟨rfl, hb1⟩
      have L2 := Lib.hid hb1
      clear hb1
      go_wp2_with (fail)
      refine (A2.out _).mono ?_
      rintro e w1 ⟨rfl, hb1⟩
      have L3 := Lib.hid hb1
      clear hb1
      go_wp2_with (fail)
      refine (B2.out _).mono ?_
      rintro e w1 ⟨rfl, hb1⟩
      have L4 := Lib.hid hb1
      clear hb1
      go_wp2_with (fail)
      refine (D1.out _).mono ?_
      rintro e w1 ⟨rfl, rfl⟩
      go_wp2_with (fail)
      refine (A1.out _).mono ?_
      rintro e w1 ⟨rfl, hb1⟩
      have L5 := Lib.hid hb1
      clear hb1
      go_wp2_with (fail)
      refine (A2.out _).mono ?_
      rintro e w1 ⟨rfl, hb1⟩
      have L6 := Lib.hid hb1
      clear hb1
      go_wp2_with (fail)
      refine (D2.out _).mono ?_
      rintro e w1 ⟨rfl, rfl⟩
      go_wp2_with (fail)
      refine (D3.out _).mono ?_
      rintro e w8 ⟨rfl, rfl⟩
      go_wp2_with (fail)
      go_ret
      exact ⟨ret_i (by rw [HU.out, if_pos Q1.out, if_pos Q2.out]), bstep (bstep (bstep (bstep (bstep L1.out L2.out) L3.out) L4.out) L5.out) L6.out⟩
    · have Q2 := Lib.hid q2
      have e2 : (r2 != 0) = true := by simpa using q2
      clear q2
      go_enter Tryz.func18, Tryz.ntmps18
      go_wp2_with (fail)
      refine (A1.out _).mono ?_
      rintro e w1 ⟨rfl, hb1⟩
      have L1 := Lib.hid hb1
      clear hb1
      go_wp2_with (fail)
      refine (B1.out _).mono ?_
      rintro e w1 ⟨rfl, hb1⟩
      have L2 := Lib.hid hb1
      clear hb1
      go_wp2_with (fail)
      refine (A2.out _).mono ?_
      rintro e w1 ⟨rfl, hb1⟩
      have L3 := Lib.hid hb1
      clear hb1
      go_wp2_with (fail)
      refine (B2.out _).mono ?_
      rintro e w1 ⟨rfl, hb1⟩
      have L4 := Lib.hid hb1
      clear hb1
      go_wp2_with (fail)
      refine (D1.out _).mono ?_
      rintro e w1 ⟨rfl, rfl⟩
      go_wp2_with (fail)
      refine (A1.out _).mono ?_
      rintro e w1 ⟨rfl, hb1⟩
      have L5 := Lib.hid hb1
      clear hb1
      go_wp2_with (fail)
      refine (A2.out _).mono ?_
      rintro e w1 ⟨rfl, hb1⟩
      have L6 := Lib.hid hb1
      clear hb1
      go_wp2_with (fail)
      refine (D2.out _).mono ?_
      rintro e w1 ⟨rfl, rfl⟩
      go_wp2_with (fail)
      go_ret
      exact ⟨ret_i (by rw [HU.out, if_pos Q1.out, if_neg Q2.out]), bstep (bstep (bstep (bstep (bstep L1.out L2.out) L3.out) L4.out) L5.out) L6.out⟩
  · have Q1 := Lib.hid q1
    have e1 : (r1 != 0) = true := by simpa using q1
    clear q1
    go_enter Tryz.func18, Tryz.ntmps18
    go_wp2_with (fail)
    refine (A1.out _).mono ?_
    rintro e w1 ⟨rfl, hb1⟩
    have L1 := Lib.hid hb1
    clear hb1
    go_wp2_with (fail)
    refine (B1.out _).mono ?_
    rintro e w1 ⟨rfl, hb1⟩
    have L2 := Lib.hid hb1
    clear hb1
    go_wp2_with (fail)
    refine (A2.out _).mono ?_
    rintro e w1 ⟨rfl, hb1⟩
    have L3 := Lib.hid hb1
    clear hb1
    go_wp2_with (fail)
    refine (B2.out _).mono ?_
    rintro e w1 ⟨rfl, hb1⟩
    have L4 := Lib.hid hb1
    clear hb1
    go_wp2_with (fail)
    refine (D1.out _).mono ?_
    rintro e w1 ⟨rfl, rfl⟩
    go_wp2_with (fail)
    go_ret
    exact ⟨ret_i (by rw [HU.out, if_neg Q1.out]), bstep (bstep (bstep L1.out L2.out) L3.out) L4.out⟩
end Go.Proofs.YtngdmpkoedpgdaaGreatDoor
