/-
  VariationOrder: the law.
-/
import Derived.Test.YthfppkcefnmdoaaGreatDoorRo
import Derived.Test.YthfppkcefnmdoaaGreatDoorAw
import Derived.Test.YthfppkcefnmdoaaGreatDoorGr
import Derived.Test.YthfppkcefnmdoaaGreatDoorRc
import Derived.Test.YthfppkcefnmdoaaGreatDoorL3
import Derived.Test.YthfppkcefnmdoaaGreatDoorShelf
import Derived.Sort.OwnSorted
import Derived.Lib.SlKeysI
namespace Go.Proofs.YthfppkcefnmdoaaGreatDoor
open Go.RowKit Go.Ap Go.Shelf Go.Proofs Go.Sort

attribute [local go_sem] Oper.semAt_some bs_toList empty_toList bs_size bs_extract
theorem sortOwn (base : Nat) (v : Value) (xs : List Int) (w : World) (hw : base ≤ w.heap.size) (ho : OwnI 3 w base v xs) (hl : xs.length ≤ 1000000) :
    ∃ a c, v = .slice a xs.length c ∧ Calls Tryz.prog 46 #[.slice a xs.length c] w fun e w' => e = .returned (.tuple #[]) ∧ OwnI 3 w' base v (Go.Ap.sortI xs) ∧ Below base w w' := by
  rcases Nat.eq_zero_or_pos xs.length with h0 | h0
  · have hx : xs = [] := List.eq_nil_of_length_eq_zero h0
    subst hx
    obtain ⟨a, c, rfl, _⟩ := ho.ints (by simp)
    refine ⟨a, c, rfl, (Tryz.slices_Sort_int_none a c w).mono ?_⟩
    rintro e w' ⟨rfl, rfl⟩
    exact ⟨rfl, by simpa [Go.Ap.sortI] using ho, Below.refl _ _⟩
  · rcases ho.1.2 with ⟨_, hz⟩ | ⟨gb, cap, cur, rfl, hbase, hgb, r1, r2, r3, r4⟩
    · omega
    · have hH : Go.Sort.Holds (Value.int .i64) w gb 0 xs.toArray := holds_of_block_i hgb (by simpa using r4)
      have hgl : gb < w.heap.size := (Array.getElem?_eq_some_iff.1 hgb).1
      refine ⟨_, cap, rfl, (Tryz.slices_Sort_int gb 0 cap xs w hH hgl (by omega)).mono ?_⟩
      rintro e w' ⟨rfl, nn, os, rfl⟩
      have hp := Go.Ap.sortI_perm xs
      have hs := ownsRow_sorted_i (w := w) (n := nn) (os := os) (ts := Go.Ap.sortI xs) (ss := xs) (hp.length_eq) hbase hgb r1 r2 r3
      refine ⟨rfl, ⟨?_, fun x hx => ho.2 x (hp.mem_iff.1 hx)⟩, (Below.refl _ _).grown (grownBy_sorted_i _) hw fun r he => by cases he; exact hbase⟩
      rw [hp.length_eq]
      exact hs
/-- the words of a reading are the given ones -/
theorem same45 (ar : Option Addr) (nr kr : Nat) (ws : List Str) (B : Nat) (W0 : World) (hr : StrsL W0 ar nr ws) (r : Rdg) (a1 : Option Addr) (n1 k1 : Nat) (a2 : Option Addr) (n2 k2 : Nat) (W : World) (hb : Below W0.heap.size W0 W) (hc : W.cell? ⟨B, 0, none⟩ = some (.slice ar nr kr)) (h1 : StrsL W a1 n1 r.1) :
    Calls Tryz.prog 45 (#[.agg #[.slice a1 n1 k1, .slice a2 n2 k2]] ++ #[.pointer (some ⟨B, 0, none⟩)]) W fun e w' => e = .returned (.bool (decide (r.1 = ws))) ∧ Below W.heap.size W w' := by
  have hb1 := balloc W (.cells #[.slice a1 n1 k1, .slice a2 n2 k2] 39)
  have HB1 := Lib.hid hb1
  have HE := Lib.hid (eqStrs a1 ar k1 kr n1 nr r.1 ws _ (StrsL.mono h1 (Nat.le_refl _) hb1) (StrsL.mono hr (Nat.le_refl _) (bstep hb hb1)))
  have c0 := cell_keep hb1 hc
  simp only [List.append_toArray, List.cons_append, List.nil_append]
  clear hb1 h1 hr hb hc
  go_enter Tryz.func45, Tryz.ntmps45
  go_wp2_with (fail)
  refine HE.out.mono ?_
  rintro e w2 ⟨rfl, q, rfl⟩
  go_wp2_with (fail)
  go_ret
  exact ⟨rfl, bstep HB1.out (bdrewN _ q)⟩
/-- the order while it is filled -/
def fillL (n j : Nat) : List Int := ordL (fun k => k) j ++ List.replicate (n - j) 0
theorem fillL_zero (n : Nat) : fillL n 0 = List.replicate n 0 := by simp [fillL, ordL]
theorem fillL_len {n j : Nat} (h : j ≤ n) : (fillL n j).length = n := by simp [fillL, ordL_len]; omega
theorem fillL_end (n : Nat) : fillL n n = ordL (fun k => k) n := by simp [fillL]
theorem fillL_succ {n j : Nat} (h : j < n) : (fillL n j).set j (j : Int) = fillL n (j + 1) := by
  unfold fillL
  rw [List.set_append_right _ _ (by rw [ordL_len]; exact Nat.le_refl _), ordL_len, Nat.sub_self]
  obtain ⟨d, hd⟩ : ∃ d, n - j = d + 1 := ⟨n - j - 1, by omega⟩
  rw [hd, List.replicate_succ, List.set_cons_zero, show n - (j + 1) = d by omega]
  simp [ordL, List.range_succ]
theorem ord_swap (n a b : Nat) : ((ordL (fun k => k) n).set a (b : Int)).set b (a : Int) = ordL (sw a b) n := by
  apply List.ext_getElem
  · simp [ordL]
  · intro k h1 h2
    have hk : k < n := by simpa [ordL] using h2
    simp only [List.getElem_set, ordL, List.getElem_map, List.getElem_range, sw]
    by_cases h3 : k = b
    · rw [if_pos h3.symm, if_pos h3]
    · rw [if_neg (fun e => h3 e.symm), if_neg h3]
      by_cases h4 : k = a
      · rw [if_pos h4.symm, if_pos h4]
      · rw [if_neg (fun e => h4 e.symm), if_neg h4]
theorem ints_of_arr {W : World} {B : Nat} {xs : List Int} (h : Arr W B 3 xs) (hn : xs.length ≤ 4611686018427387903) (hw : ∀ x ∈ xs, I64 x) : Ints W (some ⟨B, 0, none⟩) xs.length xs :=
  ⟨rfl, hn, fun k x hk => ⟨B, 0, _, rfl, by
    have hl := (List.getElem?_eq_some_iff.1 hk).1
    have := h.cell hl
    rw [Nat.zero_add, this, nth_eq hl]
    congr 2
    exact (List.getElem?_eq_some_iff.1 hk).2, rfl, hw x (List.mem_of_getElem? hk)⟩⟩
set_option maxRecDepth 100000 in
set_option maxHeartbeats 16000000 in
theorem law10 (x : Coll) (a1 : Option Addr) (n1 c1 : Nat) (a2 : Option Addr) (n2 c2 : Nat) (a3 : Option Addr) (n3 c3 : Nat) (z y : Int) (w : World) (h : CollM w a1 a2 a3 n1 n2 n3 x) (hc1 : n1 ≤ c1) (hz : 0 ≤ z ∧ z ≤ 255) (hy : 0 ≤ y ∧ y ≤ 255) (hev : EV w) :
    Calls Tryz.prog 10 #[.agg #[.string (bs x.sec), .slice a1 n1 c1, .slice a2 n2 c2, .slice a3 n3 c3], .int .u8 z, .int .u8 y] w fun e w' => e = .returned (.bool true) ∧ Below w.heap.size w w' := by
  obtain ⟨i9, hi9, hy0', hy1', hy2'⟩ := info_parts infoInt
  have hl1 := h.sigla.len
  have hl3 := h.columns.len
  have hs1 := h.sigla.small
  have hs3 := h.columns.small
  have HGR := Lib.hid (fun W (hb : Below w.heap.size w W) => greatR x a1 n1 c1 a2 n2 c2 a3 n3 c3 W (h.mono (Nat.le_refl _) hb))
  have HCK := Lib.hid (fun W (hb : Below w.heap.size w W) => collR x a1 n1 c1 a2 n2 c2 a3 n3 c3 W (h.mono (Nat.le_refl _) hb))
  have HAW := Lib.hid (fun W (hb : Below w.heap.size w W) => awakeP W (hev.mono (Nat.le_refl _) hb))
  have HB4 := Lib.hid (balloc w (.cells #[.string (bs x.sec), .slice a1 n1 c1, .slice a2 n2 c2, .slice a3 n3 c3] 26))
  have HBX := Lib.hid (BoxC.new w x.sec a1 n1 c1 a2 n2 c2 a3 n3 c3)
  have eg := enters_of Tryz.func45 (by kernel_rfl) rfl
  obtain ⟨hz0, hz1⟩ := hz
  obtain ⟨hy0, hy1⟩ := hy
  unfold collV at HGR HCK
  by_cases hok : collC x = 0
  · have hv := val_of hok
    have hle := hv.le
    have hp := hv.pos
    have HRE := Lib.hid (fun f (hf : Inv x.sigla.length f) W (hb : Below w.heap.size w W) ao co (hco : n1 ≤ co) (ho : Ints W ao n1 (ordL f n1)) (h24 : x.columns.length ≤ 1048576) => reorderP x a1 n1 c1 a2 n2 c2 a3 n3 c3 ao co f W (h.mono (Nat.le_refl _) hb) hc1 (hev.mono (Nat.le_refl _) hb) hok hf hco ho h24)
    have HUN := Lib.hid (fun W (hb : Below w.heap.size w W) (h24 : x.columns.length ≤ 1048576) => callsIn_wide.1 (unitsP x a1 n1 c1 a2 n2 c2 a3 n3 c3 W (h.mono (Nat.le_refl _) hb) hc1 (hev.mono (Nat.le_refl _) hb) h24 hok))
    have HUY := Lib.hid (fun f (hf : Inv x.sigla.length f) W (hb : Below w.heap.size w W) b1 k1 b2 k2 b3 k3 (hm : CollM W b1 b2 b3 n1 n1 n3 (reoC x f)) (hk : n1 ≤ k1) (h24 : x.columns.length ≤ 1048576) => callsIn_wide.1 (unitsP (reoC x f) b1 n1 k1 b2 n1 k2 b3 n3 k3 W hm hk (hev.mono (Nat.le_refl _) hb) (by show (x.columns.map _).length ≤ _; rw [List.length_map]; exact h24) (reo_coll hok hf)))
    have HRU := Lib.hid (fun f (hf : Inv x.sigla.length f) => reo_units hv hf)
    have HSV := Lib.hid (fun f (hf : Inv x.sigla.length f) => (val_of (reo_coll hok hf)).le)
    have e0 : ((n1 : Int) == 0) = false := by rw [beq_eq_false_iff_ne]; omega
    have hn1 : 0 < (n1 : Int) := by omega
    rw [hok] at HCK
    rw [hl1] at HRE HUY HRU HSV
    unfold collV at HUN HRE HUY
    have hmk : ∀ w, (Instr.makeSlice 37 (.int .i64 n1) (.int .i64 n1)).run Tryz.prog w = .ok (.slice (some ⟨w.heap.size, 0, none⟩) n1 n1) (w.alloc (.cells (Array.replicate n1 (.int .i64 0)) 3)) := fun w => by
      have h := run_make_row (P := Tryz.prog) 37 3 i9 (.int .i64 0) Tryz.underlying37 hi9 hy0' hy1' rfl .i64 .i64 n1 (by rw [hy2']; omega) (by omega) w
      rw [made_ints, show ((List.replicate n1 (0 : Int)).map (Value.int .i64)).toArray = Array.replicate n1 (.int .i64 0) by simp] at h
      exact h
    clear h hv hok hev
    go_enter Tryz.func10, Tryz.ntmps10
    go_wp2_with (fail)
    refine (HGR.out _ HB4.out).mono ?_
    rintro e wa ⟨⟨b, rfl, hb24⟩, hba⟩
    have HBA := Lib.hid (bstep HB4.out hba)
    have HBXa := Lib.hid (HBX.out.below hba)
    clear hba
    cases b
    · have h24 := hb24 rfl
      obtain ⟨k0, k1, k2, k3⟩ := HBXa.out
      clear hb24
      go_wp2_with (fail)
      refine (HCK.out _ HBA.out).mono ?_
      rintro e wb ⟨rfl, hbb⟩
      have HBB := Lib.hid (bstep HBA.out hbb)
      have HBXb := Lib.hid (HBXa.out.below hbb)
      clear hbb k0 k1 k2 k3
      obtain ⟨k0, k1, k2, k3⟩ := HBXb.out
      go_wp2_with (fail)
      obtain ⟨B, hB⟩ : ∃ B, wb.heap.size = B := ⟨_, rfl⟩
      have HAR0 := Lib.hid (show Arr (wb.alloc (.cells (Array.replicate n1 (.int .i64 0)) 3)) B 3 (fillL n1 0) by
        rw [fillL_zero, Arr, show ((List.replicate n1 (0 : Int)).map (Value.int .i64)).toArray = Array.replicate n1 (.int .i64 0) by simp]
        exact heap_fresh hB.symm)
      have HBK0 := Lib.hid (show Below B wb (wb.alloc (.cells (Array.replicate n1 (.int .i64 0)) 3)) by rw [← hB]; exact balloc _ _)
      rw [hB]
      have HSB := Lib.hid hB
      clear hB hmk k0 k1 k2 k3
      go_loopw [46] (fun jv wr => ∃ j : Nat, j ≤ n1 ∧ jv = .int .i64 j ∧ Below B wb wr ∧ Arr wr B 3 (fillL n1 j)) (fun jv _ => n1 - (intOf jv).toNat)
      case atStart => exact ⟨0, Nat.zero_le _, rfl, HBK0.out, HAR0.out⟩
      case round =>
        obtain ⟨wj, rfl⟩ : ∃ wj : World, wj = wr := ⟨_, rfl⟩
        obtain ⟨j, hj, rfl, hbj, harj⟩ := hrel
        have HBJ := Lib.hid hbj
        have HARJ := Lib.hid harj
        clear hbj harj
        by_cases hjn : j < n1
        · have hfs := HARJ.out.free j
          have hcs := HARJ.out.cell (k := j) (by rw [fillL_len hj]; exact hjn)
          have HAS := Lib.hid (show Arr (wj.setCell ⟨B, j, none⟩ (.int .i64 j)) B 3 (fillL n1 (j + 1)) by have := HARJ.out.set j j; rwa [fillL_succ hjn] at this)
          have HBS := Lib.hid (show Below B wb (wj.setCell ⟨B, j, none⟩ (.int .i64 j)) from HBJ.out.setCell (by simp) _)
          have i1 : (j : Int) < (n1 : Int) := by omega
          go_wp2_with (fail)
          exact ⟨⟨j + 1, by omega, by simp, HBS.out, HAS.out⟩, by simp [intOf]; omega⟩
        · obtain rfl : n1 = j := by omega
          have HORD := Lib.hid (show Arr wj B 3 (ordL (fun k => k) n1) by have := HARJ.out; rwa [fillL_end] at this)
          obtain ⟨a, ha⟩ := Int.eq_ofNat_of_zero_le (Int.emod_nonneg z (show (n1 : Int) ≠ 0 by omega))
          obtain ⟨b, hbq⟩ := Int.eq_ofNat_of_zero_le (Int.emod_nonneg y (show (n1 : Int) ≠ 0 by omega))
          have han : a < n1 := by have := Int.emod_lt_of_pos z hn1; omega
          have hbn : b < n1 := by have := Int.emod_lt_of_pos y hn1; omega
          have j1 : (a : Int) < (n1 : Int) := by omega
          have j2 : (b : Int) < (n1 : Int) := by omega
          have ca := HORD.out.cell (k := a) (by rw [ordL_len]; exact han)
          have cb := HORD.out.cell (k := b) (by rw [ordL_len]; exact hbn)
          rw [ordL_nth han] at ca
          rw [ordL_nth hbn] at cb
          have fa := HORD.out.free a
          have fb := HORD.out.free b
          go_wp2_with (fail)
          go_quiet (fail)
          go_wp2_with (fail)
          rw [ha, hbq]
          obtain ⟨wd, hwd⟩ : ∃ wd, wj.drewN nq = wd := ⟨_, rfl⟩
          have HAD := Lib.hid (show Arr wd B 3 (ordL (fun k => k) n1) by rw [← hwd]; exact HORD.out)
          have HBD := Lib.hid (show Below B wb wd by rw [← hwd]; exact HBJ.out.trans ((bdrewN wj nq).mono (by rw [← HSB.out]; have := HBJ.out.size; rw [HSB.out] at this ⊢; exact this)))
          rw [hwd]
          clear ca cb fa fb ha hbq hwd
          have ca := HAD.out.cell (k := a) (by rw [ordL_len]; exact han)
          have cb := HAD.out.cell (k := b) (by rw [ordL_len]; exact hbn)
          rw [ordL_nth han] at ca
          rw [ordL_nth hbn] at cb
          have fa := HAD.out.free a
          have fb := HAD.out.free b
          have gb : (wd.setCell ⟨B, a, none⟩ (.int .i64 b)).cell? ⟨B, b, none⟩ = some (.int .i64 b) := by
            by_cases e : a = b
            · subst e; exact World.cell?_setCell_same _ _ _ ca
            · exact (World.cell?_setCell_other _ _ _ _ (by simp)).trans cb
          have gf : (wd.setCell ⟨B, a, none⟩ (.int .i64 b)).frozen? ⟨B, b, none⟩ = false := (HAD.out.set a b).free b
          have HB9 := Lib.hid ((HBD.out.setCell (p := ⟨B, a, none⟩) (by simp) (.int .i64 b)).setCell (p := ⟨B, b, none⟩) (by simp) (.int .i64 a))
          have HA9 := Lib.hid ((HAD.out.set a b).set b a)
          rw [ord_swap] at HA9
          go_region
          clear ca cb fa fb gb gf
          obtain ⟨f, hf⟩ : ∃ f, sw a b = f := ⟨_, rfl⟩
          have HINV := Lib.hid (show Inv n1 f by rw [← hf]; exact sw_inv han hbn)
          rw [hf] at HA9
          obtain ⟨w9, hw9⟩ : ∃ w9, ((wd.setCell ⟨B, a, none⟩ (.int .i64 b)).setCell ⟨B, b, none⟩ (.int .i64 a)).drew = w9 := ⟨_, rfl⟩
          have HA9' := Lib.hid (show Arr w9 B 3 (ordL f n1) by rw [← hw9]; exact HA9.out)
          have HBW9 := Lib.hid (show Below w.heap.size w w9 by
            rw [← hw9]
            refine bstep HBB.out ?_
            rw [HSB.out]
            exact HB9.out.trans ((bdrewN _ 1).mono (by have := HB9.out.size; rw [HSB.out] at this; exact this)))
          rw [hw9]
          have HO9 := Lib.hid (show Ints w9 (some ⟨B, 0, none⟩) n1 (ordL f n1) by
            have := ints_of_arr HA9'.out (by rw [ordL_len]; exact hs1) (fun v hv => by
              obtain ⟨k, hk, rfl⟩ := List.mem_map.1 hv
              have := HINV.out.lt k (List.mem_range.1 hk)
              exact ⟨by omega, by omega⟩)
            rwa [ordL_len] at this)
          have HBX9 := Lib.hid (HBXb.out.below (show Below wb.heap.size wb w9 by
            rw [← hw9, HSB.out]
            exact HB9.out.trans ((bdrewN _ 1).mono (by have := HB9.out.size; rw [HSB.out] at this; exact this))))
          clear hf hw9 han hbn j1 j2 HA9 HB9 HAD HBD HORD HARJ HBJ HBK0 HAR0 HBX HBXa HBXb HGR HCK
          obtain ⟨k0, k1, k2, k3⟩ := HBX9.out
          go_wp2_with (fail)
          refine (HRE.out f HINV.out w9 HBW9.out _ _ (Nat.le_refl _) HO9.out (by omega)).mono ?_
          rintro e w6 ⟨b1, q1, b2, q2, b3, q3, rfl, hm, hk, hb6⟩
          have HM := Lib.hid hm
          have HB6 := Lib.hid (bstep HBW9.out hb6)
          have HX6 := Lib.hid (HBX9.out.below hb6)
          have HO6 := Lib.hid (Ints.mono HO9.out (Nat.le_refl _) hb6)
          clear hm hb6 k0 k1 k2 k3
          -- the box of the other collation
          obtain ⟨W7, hW7⟩ : ∃ W7, w6.alloc (.cells #[.string (bs x.sec), .slice b1 n1 q1, .slice b2 n1 q2, .slice b3 n3 q3] 26) = W7 := ⟨_, rfl⟩
          have hb7 : Below w6.heap.size w6 W7 := by rw [← hW7]; exact balloc _ _
          have HY7 := Lib.hid (show BoxC W7 w6.heap.size x.sec b1 n1 q1 b2 n1 q2 b3 n3 q3 by rw [← hW7]; exact BoxC.new _ _ _ _ _ _ _ _ _ _ _)
          have HX7 := Lib.hid (HX6.out.below hb7)
          have HM7 := Lib.hid (HM.out.mono (Nat.le_refl _) hb7)
          have HB7 := Lib.hid (bstep HB6.out hb7)
          have HO7 := Lib.hid (Ints.mono HO6.out (Nat.le_refl _) hb7)
          have HW7 := Lib.hid hW7
          obtain ⟨Y, hY⟩ : ∃ Y, w6.heap.size = Y := ⟨_, rfl⟩
          have HYY := Lib.hid hY
          rw [hY] at HY7
          obtain ⟨k0, k1, k2, k3⟩ := HX6.out.below (balloc w6 (.cells #[.string (bs x.sec), .slice b1 n1 q1, .slice b2 n1 q2, .slice b3 n3 q3] 26))
          clear hW7 hb7 hY
          go_wp2_with (fail)
          rw [HW7.out, HYY.out]
          clear k0 k1 k2 k3
          refine (HUN.out _ HB7.out (by omega)).mono ?_
          rintro e w8 ⟨v, rfl, hov, hb8⟩
          have hnu := units_len x
          obtain ⟨a9, k9, rfl, hP9⟩ := hov.plcs hb8 (by omega) (units_small hle (by omega))
          have HB8 := Lib.hid (bstep HB7.out hb8)
          have HX8 := Lib.hid (HX7.out.below hb8)
          have HY8 := Lib.hid (HY7.out.below hb8)
          have HM8 := Lib.hid (HM7.out.mono (Nat.le_refl _) hb8)
          have HO8 := Lib.hid (Ints.mono HO7.out (Nat.le_refl _) hb8)
          have HUX := Lib.hid (HRU.out f HINV.out)
          have HSY := Lib.hid (HSV.out f HINV.out)
          obtain ⟨us, hus⟩ : ∃ us, unitsL x = us := ⟨_, rfl⟩
          rw [hus] at hP9 hnu HUX ⊢
          obtain ⟨n9, hn9⟩ : ∃ n9, us.length = n9 := ⟨_, rfl⟩
          rw [hn9] at hP9 hnu HUX ⊢
          have HP9 := Lib.hid hP9
          clear hov hb8 hus hn9 hP9 HUN HRE HRU HSV
          obtain ⟨k0, k1, k2, k3⟩ := HY8.out
          go_wp2_with (fail)
          refine (HUY.out f HINV.out _ HB8.out _ _ _ _ _ _ HM8.out hk (by omega)).mono ?_
          rintro e w9' ⟨v, rfl, hov, hb9⟩
          have hcl : (reoC x f).columns.length ≤ 1048576 := by show (x.columns.map _).length ≤ _; rw [List.length_map]; omega
          have hnv := HUX.out.1
          obtain ⟨a8, k8, rfl, hP8⟩ := hov.plcs hb9 (by omega) (units_small HSY.out hcl)
          have HB9 := Lib.hid (bstep HB8.out hb9)
          have HP9' := Lib.hid (Plcs.mono HP9.out (Nat.le_refl _) hb9)
          have HO9' := Lib.hid (Ints.mono HO8.out (Nat.le_refl _) hb9)
          have HSQ := Lib.hid (show ∀ v ∈ unitsL (reoC x f), ∀ q ∈ v.rds, q.2.length ≤ 32 from fun v hv q hq => by
            obtain ⟨k, hk⟩ := List.getElem?_of_mem hv
            obtain ⟨lo, hi, _, _, rfl⟩ := unit_at hk
            exact Nat.le_trans (rdsN_src (reoC x f) lo hi _ q hq) HSY.out)
          obtain ⟨vs, hvs⟩ : ∃ vs, unitsL (reoC x f) = vs := ⟨_, rfl⟩
          rw [hvs] at hP8 hnv HUX HSQ ⊢
          rw [hnv] at hP8 ⊢
          have HP8 := Lib.hid hP8
          have HUV := Lib.hid HUX.out.2
          have HOC := Lib.hid (show ∀ k, k < n1 → w9'.cell? ⟨B, k, none⟩ = some (.int .i64 ((f k : Nat) : Int)) from fun k hk => by
            obtain ⟨b, off, e, hc⟩ := HO9'.out.at (show 0 < n1 by omega)
            cases e
            have := hc k hk
            rwa [ordL_nth hk, Nat.zero_add] at this)
          clear hov hb9 hcl hnv hvs hP8 HUX HUY HX6 HX7 HX8 HY7 HY8 HM HM7 HM8 k0 k1 k2 k3 HW7 HO6 HO7 HO8 HO9 HP9
          go_wp2_with (fail)
          go_loopw [113] (fun kv wr => ∃ k : Nat, k ≤ n9 ∧ kv = .int .i64 k ∧ Below w9'.heap.size w9' wr) (fun kv _ => n9 - (intOf kv).toNat)
          case atStart => exact ⟨0, Nat.zero_le _, rfl, Below.refl _ _⟩
          case round =>
            obtain ⟨wk, rfl⟩ : ∃ wk : World, wk = wr := ⟨_, rfl⟩
            obtain ⟨k, hk', rfl, hbk⟩ := hrel
            have HBK := Lib.hid hbk
            by_cases hkn : k < n9
            · obtain ⟨u, bu, ou, hu, rfl, ⟨ar, nr, kr, g0, g1, g2, hRd, _, _, _⟩⟩ := (Plcs.mono HP9'.out (Nat.le_refl _) hbk).at hkn
              obtain ⟨v, hv, el, eh, en, hR⟩ := HUV.out k u hu
              obtain ⟨v', bv, ov, hv', rfl, ⟨av, nv, kv, p0, p1, p2, hRv, _, _, _⟩⟩ := (Plcs.mono HP8.out (Nat.le_refl _) hbk).at hkn
              rw [hv] at hv'
              cases hv'
              have hnn : nv = nr := by rw [← hRv.len, ← hRd.len, en]
              subst hnn
              rw [el] at p0
              rw [eh] at p1
              obtain ⟨lo, hlo⟩ : ∃ lo, u.lo = lo := ⟨_, rfl⟩
              obtain ⟨hi, hhi⟩ : ∃ hi, u.hi = hi := ⟨_, rfl⟩
              rw [hlo] at g0 p0
              rw [hhi] at g1 p1
              have HRR := Lib.hid hR
              have HSV := Lib.hid (HSQ.out v (List.mem_of_getElem? hv))
              have hnr := hRd.small
              obtain ⟨W1, hW1⟩ : ∃ W1, wk.alloc (.cells #[.int .i64 lo, .int .i64 hi, .slice ar nv kr] 36) = W1 := ⟨_, rfl⟩
              have b1 : Below wk.heap.size wk W1 := by rw [← hW1]; exact balloc _ _
              obtain ⟨WA, hWA⟩ : ∃ WA, W1.alloc (.cells #[.int .i64 lo, .int .i64 hi, .slice av nv kv] 36) = WA := ⟨_, rfl⟩
              have b2 : Below W1.heap.size W1 WA := by rw [← hWA]; exact balloc _ _
              have b12 := bstep b1 b2
              obtain ⟨X, hX⟩ : ∃ X, wk.heap.size = X := ⟨_, rfl⟩
              have hX1 : W1.heap.size = X + 1 := by rw [← hW1, World.size_alloc, hX]
              have H60 := Lib.hid (show WA.cell? ⟨X, 0, none⟩ = some (.int .i64 lo) from cell_keep b2 (by rw [← hW1]; exact cell_fresh hX.symm rfl))
              have H61 := Lib.hid (show WA.cell? ⟨X, 1, none⟩ = some (.int .i64 hi) from cell_keep b2 (by rw [← hW1]; exact cell_fresh hX.symm rfl))
              have H62 := Lib.hid (show WA.cell? ⟨X, 2, none⟩ = some (.slice ar nv kr) from cell_keep b2 (by rw [← hW1]; exact cell_fresh hX.symm rfl))
              have H70 := Lib.hid (show WA.cell? ⟨X + 1, 0, none⟩ = some (.int .i64 lo) by rw [← hWA]; exact cell_fresh hX1.symm rfl)
              have H71 := Lib.hid (show WA.cell? ⟨X + 1, 1, none⟩ = some (.int .i64 hi) by rw [← hWA]; exact cell_fresh hX1.symm rfl)
              have H72 := Lib.hid (show WA.cell? ⟨X + 1, 2, none⟩ = some (.slice av nv kv) by rw [← hWA]; exact cell_fresh hX1.symm rfl)
              have HRA := Lib.hid (Rdgs.mono hRd (Nat.le_refl _) b12)
              have HRV := Lib.hid (Rdgs.mono hRv (Nat.le_refl _) b12)
              have HBA := Lib.hid (bstep hbk b12)
              have HWA := Lib.hid hWA
              have HW1 := Lib.hid hW1
              have HX := Lib.hid hX
              have i1 : (k : Int) < (n9 : Int) := by omega
              have pp0 := cell_keep (balloc wk (.cells #[.int .i64 lo, .int .i64 hi, .slice ar nv kr] 36)) p0
              have pp1 := cell_keep (balloc wk (.cells #[.int .i64 lo, .int .i64 hi, .slice ar nv kr] 36)) p1
              have pp2 := cell_keep (balloc wk (.cells #[.int .i64 lo, .int .i64 hi, .slice ar nv kr] 36)) p2
              clear hbk hu hv hR hRd hRv p0 p1 p2 hlo hhi el eh en hW1 hWA b1 b2 b12 hX hX1
              go_wp2_with (fail)
              rw [HW1.out, HWA.out, HX.out]
              clear g0 g1 g2 pp0 pp1 pp2
              go_loopw [146] (fun jv wr => ∃ j : Nat, j ≤ nv ∧ jv = .int .i64 j ∧ Below WA.heap.size WA wr) (fun jv _ => nv - (intOf jv).toNat)
              case atStart => exact ⟨0, Nat.zero_le _, rfl, Below.refl _ _⟩
              case round =>
                obtain ⟨wj, rfl⟩ : ∃ wj : World, wj = wr := ⟨_, rfl⟩
                obtain ⟨j, hj, rfl, hbj⟩ := hrel
                have HBJ := Lib.hid hbj
                by_cases hjn : j < nv
                · obtain ⟨r, b5, o5, hr, rfl, ⟨a5, n5, k5, a6, n6, k6, q0, s5, q1, s6⟩⟩ := HRA.out.at hjn
                  obtain ⟨jj, q, hj1, hq, hsrc, hold⟩ := HRR.out r (List.mem_of_getElem? hr)
                  have hjj : jj < nv := by rw [← HRV.out.len]; exact (List.getElem?_eq_some_iff.1 hq).1
                  obtain ⟨q', b7, o7, hq', rfl, ⟨a7, n7, k7, a8', n8, k8', t0, _, t1, s8⟩⟩ := HRV.out.at hjj
                  rw [hq] at hq'
                  cases hq'
                  have HIX := Lib.hid (fun W (hb : Below WA.heap.size WA W) (B5 : Nat) (hB5 : W.cell? ⟨B5, 0, none⟩ = some (.slice a5 n5 k5)) => idxRd (fun q : Rdg => decide (q.1 = r.1)) (some ⟨b7, o7, none⟩) nv kv v.rds 45 #[.pointer (some ⟨B5, 0, none⟩)] W (Rdgs.mono HRV.out (Nat.le_refl _) hb) eg (fun q' _ a1 n1 k1 a2 n2 k2 W' hb' h1 _ => same45 a5 n5 k5 r.1 B5 WA s5 q' a1 n1 k1 a2 n2 k2 W' (bstep hb hb') (cell_keep hb' hB5) h1))
                  rw [hj1] at HIX
                  have y0 := cell_keep hbj q0
                  have y1 := cell_keep hbj q1
                  have z1 := cell_keep (bstep hbj (balloc wj (.cells #[.slice a5 n5 k5, .slice a6 n6 k6] 39))) H72.out
                  have HS6 := Lib.hid s6
                  have HS8 := Lib.hid s8
                  have hs8 := s8.small
                  have hl8 := s8.len
                  have HSRC := Lib.hid hsrc
                  have hq32 := HSV.out q (List.mem_of_getElem? hq)
                  have HOLD := Lib.hid hold
                  have HT1 := Lib.hid t1
                  have i2 : (j : Int) < (nv : Int) := by omega
                  have i3 : (jj : Int) < (nv : Int) := by omega
                  have i4 : decide ((jj : Int) < 0) = false := by simp
                  clear hbj hr hj1 hq hsrc hold q0 q1 s5 s6 t0 t1 s8
                  go_wp2_with (fail)
                  have hb5 := balloc wj (.cells #[.slice a5 n5 k5, .slice a6 n6 k6] 39)
                  refine (HIX.out _ (bstep HBJ.out hb5) wj.heap.size (cell_fresh rfl rfl)).mono ?_
                  rintro e w5 ⟨rfl, hbx⟩
                  have HB5 := Lib.hid (bstep hb5 hbx)
                  have HBW5 := Lib.hid (bstep HBJ.out (bstep hb5 hbx))
                  have HR5 := Lib.hid (cell_keep hbx (show (wj.alloc (.cells #[.slice a5 n5 k5, .slice a6 n6 k6] 39)).cell? ⟨wj.heap.size, 1, none⟩ = some (.slice a6 n6 k6) from cell_fresh rfl rfl))
                  obtain ⟨X5, hX5⟩ : ∃ X5, wj.heap.size = X5 := ⟨_, rfl⟩
                  rw [hX5] at HR5 ⊢
                  have HX5 := Lib.hid hX5
                  clear y0 y1 z1 hb5 hbx hX5 HIX
                  have z1 := cell_keep HBW5.out H72.out
                  have z2 := cell_keep HBW5.out HT1.out
                  go_wp2_with (fail)
                  clear z1 z2
                  obtain ⟨B5, hB5⟩ : ∃ B5, w5.heap.size = B5 := ⟨_, rfl⟩
                  have HB5' := Lib.hid hB5
                  clear hB5
                  go_loopw [23, 163] (fun ov tv wt => ∃ t : Nat, t ≤ n8 ∧ tv = .int .i64 t ∧ OwnI 3 wt B5 ov (oldL f (q.2.take t)) ∧ Below B5 w5 wt) (fun _ tv _ => n8 - (intOf tv).toNat)
                  case atStart => exact ⟨0, Nat.zero_le _, rfl, ⟨World.ownsRow_nil _ _ _ _, by simp [oldL]⟩, Below.refl _ _⟩
                  case round =>
                    obtain ⟨wt, rfl⟩ : ∃ wt : World, wt = wr := ⟨_, rfl⟩
                    obtain ⟨t, ht, rfl, ho, hbt⟩ := hrel
                    have HO := Lib.hid ho
                    have HBT := Lib.hid hbt
                    have hbt' : Below w5.heap.size w5 wt := by rw [HB5'.out]; exact hbt
                    have HBT' := Lib.hid hbt'
                    have hszt : B5 ≤ wt.heap.size := by have := hbt'.size; rw [HB5'.out] at this; exact this
                    clear ho hbt
                    by_cases htn : t < n8
                    · obtain ⟨zz, b8, o8, vz, hz, rfl, hcz, hvz, _⟩ := Sl.at HS8.out htn
                      subst hvz
                      obtain ⟨z', rfl, hzn⟩ := HSRC.out zz (List.mem_of_getElem? hz)
                      have c8 := cell_keep (bstep HBW5.out hbt') hcz
                      have cz := cell_keep (bstep (bstep HBA.out HBW5.out) hbt') (HOC.out z' hzn)
                      have HS := Lib.hid (show oldL f (q.2.take (t + 1)) = oldL f (q.2.take t) ++ [((f z' : Nat) : Int)] by
                        rw [List.take_add_one, hz]
                        simp [oldL])
                      have hfz := HINV.out.lt z' hzn
                      obtain ⟨fz, hfz2⟩ : ∃ m, f z' = m := ⟨_, rfl⟩
                      rw [hfz2] at cz HS hfz
                      have hql : (oldL f (q.2.take t)).length = t := by simp [oldL]; omega
                      have HOW := Lib.hid (show wt.ownsRow B5 3 1 _ t ((oldL f (q.2.take t)).map (Value.int .i64)) by have := HO.out.1; rwa [hql] at this)
                      have HQL := Lib.hid hql
                      have d2 : decide ((z' : Int) < 0) = false := by simp
                      have d3 : decide ((n1 : Int) ≤ (z' : Int)) = false := by simp; omega
                      have d3' : decide (n1 ≤ z') = false := by simp; omega
                      have d4 : (z' : Int) < (n1 : Int) := by omega
                      have d5 : (t : Int) < (n8 : Int) := by omega
                      clear hz hcz hzn hfz2 hql hbt'
                      go_wp2_with (at_builtin; refine wpList_append_own _ rfl _ _ 37 rfl B5 3 i9 (.int .i64 0) 1 8 Tryz.underlying37 hi9 hy0' hy1' hy2' rfl (by decide) _ _ _ rfl (HOW.out.alloc _) ⟨wt.heap.size, 0, none⟩ 1 1 [.int .i64 fz] rfl rfl (cell_one_new _ _ _) (by simp [Value.oneCell']) (by unfold maxLen; omega) (by omega) (by simp; omega) ?_; intro v1 w4 hown1 hgrow1 _; have HO3 := Lib.hid hown1; have HG := Lib.hid hgrow1; clear hown1 hgrow1)
                      obtain ⟨j1, j2⟩ := OwnI.pushed (x := (fz : Int)) HO.out ⟨by omega, by omega⟩ hszt (by rw [HQL.out]; exact HO3.out) HG.out
                      go_roundw
                      case rel => exact ⟨t + 1, by omega, by simp, by rw [HS.out]; exact j1, HBT.out.trans j2⟩
                      case measure => simp [intOf]; omega
                    · obtain rfl : n8 = t := by omega
                      have hql : (oldL f (q.2.take n8)).length = n8 := by simp [oldL]; omega
                      obtain ⟨ao, co, rfl, hso⟩ := sortOwn B5 _ _ wt hszt HO.out (by omega)
                      rw [hql] at hso ⊢
                      rw [show q.2.take n8 = q.2 from List.take_of_length_le (by omega), HOLD.out] at hso
                      have HSO := Lib.hid hso
                      have hl6 := HS6.out.len
                      have hlr : r.2.length = n8 := by rw [← HOLD.out, (sortI_perm _).length_eq]; simp [oldL]; omega
                      clear hso hql hbt'
                      go_wp2_with (fail)
                      refine HSO.out.mono ?_
                      rintro e ws ⟨rfl, hos, hbs⟩
                      have hbs' : Below w5.heap.size w5 ws := by rw [HB5'.out]; exact HBT.out.trans hbs
                      have HBS := Lib.hid hbs'
                      obtain ⟨ao', co', he, hin⟩ := hos.ints (by omega)
                      rw [hlr] at he hin
                      cases he
                      have HEQ := Lib.hid (eqInts ao a6 co k6 n8 n6 r.2 r.2 ws hin (Ints.mono HS6.out (Nat.le_refl _) (bstep HBW5.out hbs')))
                      rw [decide_eq_true rfl] at HEQ
                      have c6 := cell_keep hbs' HR5.out
                      clear hos hbs hbs' hin
                      go_wp2_with (fail)
                      refine HEQ.out.mono ?_
                      rintro e wy ⟨rfl, qy, rfl⟩
                      go_wp2_with (fail)
                      go_roundw
                      case rel => exact ⟨j + 1, by omega, by simp, bstep HBW5.out (bstep HBS.out (bdrewN _ _))⟩
                      case measure => simp [intOf]; omega
                · obtain rfl : nv = j := by omega
                  clear hbj
                  go_wp2_with (fail)
                  go_roundw
                  case rel => exact ⟨k + 1, by omega, by simp, bstep HBA.out HBJ.out⟩
                  case measure => simp [intOf]; omega
            · obtain rfl : n9 = k := by omega
              clear hbk
              go_wp2_with (fail)
              refine (HAW.out _ (bstep HB9.out HBK.out)).mono ?_
              rintro e wz ⟨rfl, hbz⟩
              go_wp2_with (fail)
              go_ret
              exact ⟨rfl, bstep (bstep HB9.out HBK.out) hbz⟩
    · clear hb24 HUN HRE HUY
      go_wp2_with (fail)
      refine (HAW.out _ HBA.out).mono ?_
      rintro e wb ⟨rfl, hbb⟩
      go_wp2_with (fail)
      go_ret
      exact ⟨rfl, bstep HBA.out hbb⟩
  · have dn : (collC x != 0) = true := by simpa using hok
    obtain ⟨cc, hcc⟩ : ∃ cc, collC x = cc := ⟨_, rfl⟩
    rw [hcc] at HCK dn
    clear h hok hev hcc
    go_enter Tryz.func10, Tryz.ntmps10
    go_wp2_with (fail)
    refine (HGR.out _ HB4.out).mono ?_
    rintro e wa ⟨⟨b, rfl, hb24⟩, hba⟩
    have HBA := Lib.hid (bstep HB4.out hba)
    have HBXa := Lib.hid (HBX.out.below hba)
    clear hba hb24
    cases b
    · obtain ⟨k0, k1, k2, k3⟩ := HBXa.out
      go_wp2_with (fail)
      refine (HCK.out _ HBA.out).mono ?_
      rintro e wb ⟨rfl, hbb⟩
      have HBB := Lib.hid (bstep HBA.out hbb)
      clear hbb k0 k1 k2 k3
      go_wp2_with (fail)
      refine (HAW.out _ HBB.out).mono ?_
      rintro e wc ⟨rfl, hbc⟩
      go_wp2_with (fail)
      go_ret
      exact ⟨rfl, bstep HBB.out hbc⟩
    · go_wp2_with (fail)
      refine (HAW.out _ HBA.out).mono ?_
      rintro e wb ⟨rfl, hbb⟩
      go_wp2_with (fail)
      go_ret
      exact ⟨rfl, bstep HBA.out hbb⟩
end Go.Proofs.YthfppkcefnmdoaaGreatDoor
