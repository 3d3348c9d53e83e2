/-
  The reference: the longest increasing subsequence.
-/
import Derived.Test.YtbahddjbncinbaaGreatDoorTi
namespace Go.Proofs.YtbahddjbncinbaaGreatDoor
open Go.RowKit Go.Ap Go.Shelf Go.Proofs

attribute [local go_sem] Oper.semAt_some bs_toList empty_toList bs_size bs_extract
theorem nth_ones {n k : Nat} (h : k < n) : nth (List.replicate n (1 : Int)) k = 1 := by simp [nth, h]
set_option maxRecDepth 100000 in
set_option maxHeartbeats 8000000 in
theorem heaviestR (l : List Int) (a : Option Addr) (n c : Nat) (a1 : Option Addr) (c1 : Nat) (w : World) (h : Ints w a n l) (h1 : Ints w a1 n (List.replicate n 1)) (hn : n ≤ 1048576) :
    Calls Tryz.prog 130 #[.slice a n c, .slice a1 n c1] w fun e w' => e = .returned (.slice (some ⟨w.heap.size, 0, none⟩) n n) ∧ Arr w' w.heap.size 3 (sumsL l 0) ∧ Below w.heap.size w w' := by
  obtain ⟨i9, hi9, hy0, hy1, hy2⟩ := info_parts infoInt
  have hl := h.len
  have HX := Lib.hid h
  have HY := Lib.hid h1
  have hmk : ∀ w, (Instr.makeSlice 29 (.int .i64 n) (.int .i64 n)).run Tryz.prog w = .ok (.slice (some ⟨w.heap.size, 0, none⟩) n n) (w.alloc (.cells (Array.replicate n (.int .i64 0)) 3)) := fun w => by
    have h := run_make_row (P := Tryz.prog) 29 3 i9 (.int .i64 0) Tryz.underlying29 hi9 hy0 hy1 rfl .i64 .i64 n (by rw [hy2]; omega) (by omega) w
    rw [made_ints, show ((List.replicate n (0 : Int)).map (Value.int .i64)).toArray = Array.replicate n (.int .i64 0) by simp] at h
    exact h
  obtain ⟨S, hS⟩ : ∃ S, w.heap.size = S := ⟨_, rfl⟩
  have HA0 := Lib.hid (show Arr (w.alloc (.cells (Array.replicate n (.int .i64 0)) 3)) S 3 (sumsL l n) by
    rw [← hl, sumsL_start, hl, Arr, show ((List.replicate n (0 : Int)).map (Value.int .i64)).toArray = Array.replicate n (.int .i64 0) by simp]
    exact heap_fresh hS.symm)
  have HB0 := Lib.hid (balloc w (.cells (Array.replicate n (.int .i64 0)) 3))
  have HSS := Lib.hid hS
  clear h h1 hS
  go_enter Tryz.func130, Tryz.ntmps130
  go_wp2_with (fail)
  rw [HSS.out]
  clear hmk
  go_loopw [6] (fun iv wr => ∃ k : Nat, k ≤ n ∧ iv = .int .i64 ((k : Int) - 1) ∧ Arr wr S 3 (sumsL l k) ∧ Below w.heap.size w wr) (fun iv _ => (intOf iv + 1).toNat)
  case atStart => exact ⟨n, Nat.le_refl _, rfl, HA0.out, HB0.out⟩
  case round =>
    obtain ⟨wo, rfl⟩ : ∃ wo : World, wo = wr := ⟨_, rfl⟩
    obtain ⟨k, hk, rfl, ha, hb⟩ := hrel
    have HA := Lib.hid ha
    have HB := Lib.hid hb
    cases k with
    | zero =>
      have e1 : (((0 : Nat) : Int) - 1) = -1 := rfl
      rw [e1]
      clear ha hb
      go_wp2_with (fail)
      go_ret
      exact ⟨by rw [HSS.out]; rfl, by rw [HSS.out]; exact HA.out, HB.out⟩
    | succ i =>
      have e1 : (((i + 1 : Nat) : Int) - 1) = (i : Int) := by omega
      rw [e1]
      obtain ⟨bl, ol, rfl, hcl⟩ := HX.out.at (show 0 < n by omega)
      obtain ⟨bw, ow, rfl, hcw⟩ := HY.out.at (show 0 < n by omega)
      have HLC := Lib.hid (fun q j (hj : j < n) => show (wo.drewN q).cell? ⟨bl, ol + j, none⟩ = some (.int .i64 (nth l j)) from by have h9 := cell_keep hb (hcl j hj); exact h9)
      have HSC := Lib.hid (fun q j (hj : i < j) (hj2 : j < n) => show (wo.drewN q).cell? ⟨S, j, none⟩ = some (.int .i64 ((1 + aftF l j : Nat) : Int)) from by
        have := ha.cell (k := j) (by rw [sumsL_len]; omega)
        rw [sumsL_nth (by omega), if_pos (by omega)] at this
        exact this)
      have cw0 := hcw i (by omega)
      rw [nth_ones (by omega)] at cw0
      have HWC := Lib.hid (fun q => show (wo.drewN q).cell? ⟨bw, ow + i, none⟩ = some (.int .i64 1) from by have h9 := cell_keep hb cw0; exact h9)
      have hal := aftF_le l i (by omega)
      clear ha hb hcl hcw cw0
      go_wp2_with (fail)
      go_loopw [7, 8] (fun mv kv wr => ∃ k m : Nat, i + 1 ≤ k ∧ k ≤ n ∧ kv = .int .i64 k ∧ mv = .int .i64 m ∧ m ≤ n ∧ mxF (nth l i) (l.drop k) ((sumF l).drop k) m = aftF l i ∧ ∃ q, wr = wo.drewN q) (fun _ kv _ => n - (intOf kv).toNat)
      case atStart => exact ⟨i + 1, 0, Nat.le_refl _, by omega, by simp, rfl, Nat.zero_le _, rfl, 0, rfl⟩
      case round =>
        obtain ⟨wi, rfl⟩ : ∃ wi : World, wi = wr := ⟨_, rfl⟩
        obtain ⟨k, m, hk1, hk2, rfl, rfl, hm, hx, q, hq⟩ := hrel
        have HXX := Lib.hid hx
        have HQ := Lib.hid hq
        clear hx
        by_cases hkn : k < n
        · have HS := Lib.hid (mxF_step (l := l) (k := k) (by omega) (nth l i) m)
          have c2 : wi.cell? ⟨bl, ol + k, none⟩ = some (.int .i64 (nth l k)) := by rw [hq]; exact HLC.out q k hkn
          have c3 : wi.cell? ⟨bl, ol + i, none⟩ = some (.int .i64 (nth l i)) := by rw [hq]; exact HLC.out q i (by omega)
          have c5 : wi.cell? ⟨S, k, none⟩ = some (.int .i64 ((1 + aftF l k : Nat) : Int)) := by rw [hq]; exact HSC.out q k (by omega) hkn
          have HC5 := Lib.hid (fun nq => show (wi.drewN nq).cell? ⟨S, k, none⟩ = some (.int .i64 ((1 + aftF l k : Nat) : Int)) from c5)
          have hak : 1 + aftF l k ≤ n := by have := aftF_le l k (by omega); omega
          obtain ⟨sv, hsv⟩ : ∃ sv, 1 + aftF l k = sv := ⟨_, rfl⟩
          rw [hsv] at c5 HC5 hak HS
          have i1 : (k : Int) < (n : Int) := by omega
          have i2 : (i : Int) < (n : Int) := by omega
          obtain ⟨xk, hxk⟩ : ∃ xk, nth l k = xk := ⟨_, rfl⟩
          obtain ⟨xi, hxi⟩ : ∃ xi, nth l i = xi := ⟨_, rfl⟩
          rw [hxk] at c2 HS
          rw [hxi] at c3 HS HXX
          have HXI := Lib.hid hxi
          clear hxk hxi hq hsv
          by_cases hlt : xi < xk
          · have d1 : decide (xi < xk) = true := by simpa using hlt
            rw [if_pos hlt] at HS
            by_cases hsm : m < sv
            · have d2 : decide ((m : Int) < (sv : Int)) = true := by simp; omega
              have d2' : decide (m < sv) = true := by simp; omega
              rw [Nat.max_eq_right (by omega)] at HS
              clear hlt hsm
              go_wp2_with (fail)
              go_quiet (fail)
              have c6 := HC5.out nq
              go_wp2_with (fail)
              go_roundw
              case rel => exact ⟨k + 1, sv, by omega, by omega, by simp, rfl, by omega, by rw [HXI.out, ← HXX.out, HS.out], q + nq, by rw [HQ.out, World.drewN_drewN]⟩
              case measure => simp [intOf]; omega
            · have d2 : decide ((m : Int) < (sv : Int)) = false := by simp; omega
              have d2' : decide (m < sv) = false := by simp; omega
              rw [Nat.max_eq_left (by omega)] at HS
              clear hlt hsm
              go_wp2_with (fail)
              go_quiet (fail)
              go_wp2_with (fail)
              go_roundw
              case rel => exact ⟨k + 1, m, by omega, by omega, by simp, rfl, by omega, by rw [HXI.out, ← HXX.out, HS.out], q + nq, by rw [HQ.out, World.drewN_drewN]⟩
              case measure => simp [intOf]; omega
          · have d1 : decide (xi < xk) = false := by simpa using hlt
            rw [if_neg hlt] at HS
            clear hlt
            go_wp2_with (fail)
            go_quiet (fail)
            go_wp2_with (fail)
            go_roundw
            case rel => exact ⟨k + 1, m, by omega, by omega, by simp, rfl, hm, by rw [HXI.out, ← HXX.out, HS.out], q + nq, by rw [HQ.out, World.drewN_drewN]⟩
            case measure => simp [intOf]; omega
        · obtain rfl : n = k := by omega
          have hme : m = aftF l i := by rw [← HXX.out, mxF_end (by omega)]
          have cw : wi.cell? ⟨bw, ow + i, none⟩ = some (.int .i64 1) := by rw [hq]; exact HWC.out q
          have har : Arr wi S 3 (sumsL l (i + 1)) := by rw [hq]; exact HA.out
          have cs := har.cell (k := i) (by rw [sumsL_len]; omega)
          have fs := har.free i
          have HAS := Lib.hid (show Arr (wi.setCell ⟨S, i, none⟩ (.int .i64 (1 + (m : Int)))) S 3 (sumsL l i) by
            have := har.set i (1 + (m : Int))
            rw [show (1 + (m : Int)) = ((1 + aftF l i : Nat) : Int) by rw [hme]; omega, sumsL_set] at this
            rw [show (1 + (m : Int)) = ((1 + aftF l i : Nat) : Int) by rw [hme]; omega]
            exact this)
          have HBS := Lib.hid (show Below w.heap.size w (wi.setCell ⟨S, i, none⟩ (.int .i64 (1 + (m : Int)))) from by
            have : Below w.heap.size w wi := by rw [hq]; exact bstep HB.out (bdrewN _ _)
            exact this.setCell (p := ⟨S, i, none⟩) (by simp [HSS.out]) _)
          have i2 : (i : Int) < (n : Int) := by omega
          clear hq har hme
          go_wp2_with (fail)
          go_roundw
          case rel => exact ⟨i, by omega, rfl, HAS.out, HBS.out⟩
          case measure => simp [intOf]
/-- the greatest so far, and what is still to come -/
theorem top_step {l : List Int} {i m : Nat} (h : i < l.length) (hm : max m (topI l i) = topI l 0) : max (max m (1 + aftF l i)) (topI l (i + 1)) = topI l 0 := by
  rw [← hm, topI_step h]
  omega
set_option maxRecDepth 100000 in
set_option maxHeartbeats 8000000 in
theorem firstR (l : List Int) (a : Option Addr) (n c : Nat) (a1 : Option Addr) (c1 : Nat) (w : World) (h : Ints w a n l) (h1 : Ints w a1 n (List.replicate n 1)) (hn : n ≤ 1048576) :
    Calls Tryz.prog 110 #[.slice a n c, .slice a1 n c1] w fun e w' => ∃ v x, e = .returned (.tuple #[v, .int .i64 x]) ∧ OwnI 3 w' w.heap.size v (castL (incF l)) ∧ Below w.heap.size w w' := by
  obtain ⟨i9, hi9, hy0, hy1, hy2⟩ := info_parts infoInt
  have hl := h.len
  have HX := Lib.hid h
  have HY := Lib.hid h1
  have HHV := Lib.hid (heaviestR l a n c a1 c1 w h h1 hn)
  have HXL := Lib.hid (show ∀ j, j < n → ∃ b o b2 o2, a = some ⟨b, o, none⟩ ∧ a1 = some ⟨b2, o2, none⟩ from fun j hj => by obtain ⟨b, o, e, _⟩ := h.at (show 0 < n by omega); obtain ⟨b2, o2, e2, _⟩ := h1.at (show 0 < n by omega); exact ⟨b, o, b2, o2, e, e2⟩)
  obtain ⟨S, hS⟩ : ∃ S, w.heap.size = S := ⟨_, rfl⟩
  rw [hS] at HHV
  have HSS := Lib.hid hS
  clear h h1 hS
  go_enter Tryz.func110, Tryz.ntmps110
  go_wp2_with (fail)
  refine HHV.out.mono ?_
  rintro e wh ⟨rfl, hah, hbh⟩
  have HAH := Lib.hid hah
  have HBH := Lib.hid hbh
  clear hah hbh HHV
  go_wp2_with (fail)
  go_loopw [7, 8] (fun mv iv wr => ∃ i m : Nat, i ≤ n ∧ iv = .int .i64 i ∧ mv = .int .i64 m ∧ m ≤ n ∧ max m (topI l i) = topI l 0 ∧ wr = wh) (fun _ iv _ => n - (intOf iv).toNat)
  case atStart => exact ⟨0, 0, Nat.zero_le _, rfl, rfl, Nat.zero_le _, by omega, rfl⟩
  case round =>
    obtain ⟨i, m, hi, rfl, rfl, hm, hx, rfl⟩ := hrel
    have HXX := Lib.hid hx
    clear hx
    by_cases hin : i < n
    · have cs := HAH.out.cell (k := i) (by rw [sumsL_len]; omega)
      rw [sumsL_nth (by omega), if_pos (Nat.zero_le _)] at cs
      have hak : 1 + aftF l i ≤ n := by have := aftF_le l i (by omega); omega
      have HST := Lib.hid (top_step (i := i) (m := m) (show i < l.length by omega) HXX.out)
      obtain ⟨sv, hsv⟩ : ∃ sv, 1 + aftF l i = sv := ⟨_, rfl⟩
      rw [hsv] at cs hak HST
      have i1 : (i : Int) < (n : Int) := by omega
      clear hsv
      by_cases hsm : m < sv
      · have d2 : decide ((m : Int) < (sv : Int)) = true := by simp; omega
        have d2' : decide (m < sv) = true := by simp; omega
        rw [Nat.max_eq_right (show m ≤ sv by omega)] at HST
        clear hsm
        go_wp2_with (fail)
        go_roundw
        case rel => exact ⟨i + 1, sv, by omega, by simp, rfl, by omega, HST.out, trivial⟩
        case measure => simp [intOf]; omega
      · have d2 : decide ((m : Int) < (sv : Int)) = false := by simp; omega
        have d2' : decide (m < sv) = false := by simp; omega
        rw [Nat.max_eq_left (show sv ≤ m by omega)] at HST
        clear hsm
        go_wp2_with (fail)
        go_roundw
        case rel => exact ⟨i + 1, m, by omega, by simp, rfl, by omega, HST.out, trivial⟩
        case measure => simp [intOf]; omega
    · obtain rfl : n = i := by omega
      have hmt : m = topI l 0 := by
        have := HXX.out
        rw [← hl, topI_end] at this
        omega
      have HMT := Lib.hid hmt
      clear hmt
      obtain ⟨wh, rfl⟩ : ∃ wh : World, wh = wr := ⟨_, rfl⟩
      have HBW := Lib.hid (show Below w.heap.size w wh from by have := HBH.out; rw [← HSS.out] at this; exact this)
      have HOE := Lib.hid (show OwnI 3 (wh.alloc (.cells #[] 3)) wh.heap.size (.slice (some ⟨wh.heap.size, 0, none⟩) 0 0) [] from OwnI.empty wh (Nat.le_refl _))
      have HBE := Lib.hid (balloc wh (.cells #[] 3))
      go_wp2_with (fail)
      rw [HMT.out]
      go_loopw [9, 10, 11] (fun ov lv iv wr => ∃ (i left : Nat) (pre : List Nat), i ≤ n ∧ iv = .int .i64 i ∧ lv = .int .i64 left ∧ PickS l i left pre ∧ OwnI 3 wr wh.heap.size ov (castL pre) ∧ Below wh.heap.size wh wr) (fun _ _ iv _ => n - (intOf iv).toNat)
      case atStart => exact ⟨0, topI l 0, [], Nat.zero_le _, rfl, rfl, PickS.start l, HOE.out, HBE.out⟩
      case round =>
        obtain ⟨wi, rfl⟩ : ∃ wi : World, wi = wr := ⟨_, rfl⟩
        obtain ⟨i, left, pre, hi, rfl, rfl, hp, ho, hb⟩ := hrel
        have HP := Lib.hid hp
        have HO := Lib.hid ho
        have HB2 := Lib.hid hb
        have hle := hp.left
        have hfew := hp.few
        have hszi := hb.size
        obtain ⟨av, kv, rfl, hI⟩ := ho.ints (by rw [castL_len]; omega)
        have HI := Lib.hid hI
        obtain ⟨np, hnp⟩ : ∃ np, pre.length = np := ⟨_, rfl⟩
        rw [castL_len, hnp] at HI HO ⊢
        have HNP := Lib.hid hnp
        rw [hnp] at hfew
        clear hp ho hI hnp
        by_cases hin : i < n
        · by_cases hl0 : left = 0
          · subst hl0
            have HE := Lib.hid (show pre = incF l from HP.out.fin (.inr rfl))
            have i1 : (i : Int) < (n : Int) := by omega
            clear hb
            go_wp2_with (fail)
            go_ret2
            exact ⟨_, _, rfl, by rw [← HE.out]; exact (show OwnI 3 wi wh.heap.size (.slice av np kv) (castL pre) from HO.out).mono HBW.out.size, bstep HBW.out HB2.out⟩
          · obtain ⟨bl, ol, bw, ow, rfl, rfl⟩ := HXL.out i hin
            have hbw2 : Below w.heap.size w wi := bstep HBW.out hb
            have HLC := Lib.hid (show ∀ j, j < n → wi.cell? ⟨bl, ol + j, none⟩ = some (.int .i64 (nth l j)) from fun j hj => by
              obtain ⟨b, o, e, hc⟩ := HX.out.at (show 0 < n by omega)
              cases e
              exact cell_keep hbw2 (hc j hj))
            have cl := HLC.out i hin
            have cw : wh.cell? ⟨bw, ow + i, none⟩ = some (.int .i64 1) := by
              obtain ⟨b, o, e, hc⟩ := HY.out.at (show 0 < n by omega)
              cases e
              have := cell_keep HBW.out (hc i hin)
              rw [nth_ones hin] at this
              exact this
            have HWC := Lib.hid cw
            have cs := (HAH.out.kept hb).cell (k := i) (by rw [sumsL_len]; omega)
            rw [sumsL_nth (by omega), if_pos (Nat.zero_le _)] at cs
            have hal : 1 + aftF l i ≤ n := by have := aftF_le l i (by omega); omega
            have HSK := Lib.hid (fun h => HP.out.skip (i := i) (by omega) hl0 h)
            have HTK := Lib.hid (fun h => HP.out.take (i := i) (by omega) hl0 h)
            obtain ⟨sv, hsv⟩ : ∃ sv, 1 + aftF l i = sv := ⟨_, rfl⟩
            obtain ⟨xi, hxi⟩ : ∃ xi, nth l i = xi := ⟨_, rfl⟩
            rw [hsv] at cs HSK HTK hal
            rw [hxi] at cl HSK HTK
            have i1 : (i : Int) < (n : Int) := by omega
            have dl : decide (0 < (left : Int)) = true := by simp; omega
            have dl' : decide (0 < left) = true := by simp; omega
            clear hb hsv hxi cw hbw2
            cases np with
            | zero =>
              have hpn : pre = [] := List.eq_nil_of_length_eq_zero HNP.out
              by_cases h1 : sv = left
              · have hsl : (sv : Int) = (left : Int) := by omega
                rw [hsl] at cs
                have d1 : ((left : Int) == (left : Int)) = true := by simp
                have HS := Lib.hid (HTK.out h1 fun k hk => by rw [hpn] at hk; cases hk)
                clear hsl h1 hpn
                have HO9 := Lib.hid (show OwnI 3 wi wh.heap.size (.slice av 0 kv) (castL pre) from HO.out)
                have HROW := Lib.hid (fun q => show ((wi.drewN q).alloc (.cells #[.int .i64 (i : Int)] 3)).ownsRow wh.heap.size 3 1 (.slice av 0 kv) (0) ((castL pre).map (Value.int .i64)) from by
                  have := (HO9.out.1.alloc (.cells #[.int .i64 (i : Int)] 3))
                  rw [castL_len, HNP.out] at this
                  exact this)
                go_wp2_with (fail)
                go_quiet (fail)
                have hszq : wh.heap.size ≤ (wi.drewN nq).heap.size := hszi
                have HRQ := Lib.hid (HROW.out nq)
                have HOQ := Lib.hid (show OwnI 3 (wi.drewN nq) wh.heap.size (.slice av 0 kv) (castL pre) from HO9.out.below (bdrewN _ _))
                have HBQ := Lib.hid (HB2.out.trans ((bdrewN wi nq).mono hszi))
                clear cl cs
                generalize wi.drewN nq = wq at *
                go_wp2_with (at_builtin; refine wpList_append_own _ rfl _ _ 29 rfl wh.heap.size 3 i9 (.int .i64 0) 1 8 Tryz.underlying29 hi9 hy0 hy1 hy2 rfl (by decide) _ _ _ rfl HRQ.out ⟨wq.heap.size, 0, none⟩ 1 1 [.int .i64 (i : Int)] rfl rfl (cell_one_new _ _ _) (by simp [Value.oneCell']) (by unfold maxLen; omega) (by first | omega | (simp; omega)) (by first | omega | (simp; omega)) ?_; intro v1 w4 hown1 hgrow1 _; obtain ⟨j1, j2⟩ := OwnI.pushed (x := (i : Int)) HOQ.out ⟨by omega, by omega⟩ hszq (by rw [castL_len, HNP.out]; exact hown1) hgrow1; have hcw2 := cell_keep (HBQ.out.trans j2) HWC.out; have HJ1 := Lib.hid j1; have HJ2 := Lib.hid j2; clear hown1 hgrow1 j1 j2)
                go_roundw
                case rel => exact ⟨i + 1, left - 1, pre ++ [i], by omega, by simp, by congr 1; omega, HS.out, by simpa [castL] using HJ1.out, HBQ.out.trans HJ2.out⟩
                case measure => simp [intOf]; omega
              · have d1 : ((sv : Int) == (left : Int)) = false := by rw [beq_eq_false_iff_ne]; omega
                have HS := Lib.hid (HSK.out fun h => h1 h.1)
                clear h1 hpn
                go_wp2_with (fail)
                go_quiet (fail)
                go_wp2_with (fail)
                go_roundw
                case rel => exact ⟨i + 1, left, pre, by omega, by simp, rfl, HS.out, (show OwnI 3 wi wh.heap.size (.slice av 0 kv) (castL pre) from HO.out).below (bdrewN _ _), HB2.out.trans ((bdrewN wi _).mono hszi)⟩
                case measure => simp [intOf]; omega
            | succ m =>
              obtain ⟨bo, oo, rfl, hco⟩ := HI.out.at (show 0 < m + 1 by omega)
              have hml : m < pre.length := by rw [HNP.out]; omega
              have hgl : pre.getLast? = some pre[m] := by rw [List.getLast?_eq_getElem?, HNP.out, Nat.add_sub_cancel, List.getElem?_eq_getElem hml]
              have hqn : pre[m] < n := by rw [← hl]; exact HP.out.lt _ (List.getElem_mem hml)
              have co := hco m (by omega)
              have hnq : nth (castL pre) m = ((pre[m] : Nat) : Int) := by simp [castL, nth, hml]
              rw [hnq] at co
              obtain ⟨q, hq⟩ : ∃ q, pre[m] = q := ⟨_, rfl⟩
              rw [hq] at hgl hqn co
              have clq := HLC.out q hqn
              have i2 : (q : Int) < (n : Int) := by omega
              have i3 : (m : Int) < ((m + 1 : Nat) : Int) := by omega
              have i4 : (m : Int) < (m : Int) + 1 := by omega
              have hw1 : IntKind.i64.wrap ((m : Int) + 1 - 1) = (m : Int) := by rw [show (m : Int) + 1 - 1 = (m : Int) by omega]; exact Go.IntWalk.i64_in _ (by omega)
              have hw2 : IntKind.i64.wrap (m : Int) = (m : Int) := Go.IntWalk.i64_in _ (by omega)
              by_cases hgt : nth l q < xi
              · by_cases h1 : sv = left
                · have hsl : (sv : Int) = (left : Int) := by omega
                  rw [hsl] at cs
                  have d1 : ((left : Int) == (left : Int)) = true := by simp
                  have HS := Lib.hid (HTK.out h1 fun k hk => by rw [hgl] at hk; cases hk; exact hgt)
                  obtain ⟨xq, hxq⟩ : ∃ xq, nth l q = xq := ⟨_, rfl⟩
                  rw [hxq] at clq hgt
                  have d2 : decide (xq < xi) = true := by simpa using hgt
                  clear h1 hsl hco hml hgl hnq hq hgt hxq
                  have HO9 := Lib.hid (show OwnI 3 wi wh.heap.size (.slice (some ⟨bo, oo, none⟩) (m + 1) kv) (castL pre) from HO.out)
                  have HROW := Lib.hid (fun q => show ((wi.drewN q).alloc (.cells #[.int .i64 (i : Int)] 3)).ownsRow wh.heap.size 3 1 (.slice (some ⟨bo, oo, none⟩) (m + 1) kv) ((m + 1)) ((castL pre).map (Value.int .i64)) from by
                    have := (HO9.out.1.alloc (.cells #[.int .i64 (i : Int)] 3))
                    rw [castL_len, HNP.out] at this
                    exact this)
                  go_wp2_with (fail)
                  go_quiet (fail)
                  have hszq : wh.heap.size ≤ (wi.drewN nq).heap.size := hszi
                  have HRQ := Lib.hid (HROW.out nq)
                  have HOQ := Lib.hid (show OwnI 3 (wi.drewN nq) wh.heap.size (.slice (some ⟨bo, oo, none⟩) (m + 1) kv) (castL pre) from HO9.out.below (bdrewN _ _))
                  have HBQ := Lib.hid (HB2.out.trans ((bdrewN wi nq).mono hszi))
                  clear cl cs
                  generalize wi.drewN nq = wq at *
                  go_wp2_with (at_builtin; refine wpList_append_own _ rfl _ _ 29 rfl wh.heap.size 3 i9 (.int .i64 0) 1 8 Tryz.underlying29 hi9 hy0 hy1 hy2 rfl (by decide) _ _ _ rfl HRQ.out ⟨wq.heap.size, 0, none⟩ 1 1 [.int .i64 (i : Int)] rfl rfl (cell_one_new _ _ _) (by simp [Value.oneCell']) (by unfold maxLen; omega) (by first | omega | (simp; omega)) (by first | omega | (simp; omega)) ?_; intro v1 w4 hown1 hgrow1 _; obtain ⟨j1, j2⟩ := OwnI.pushed (x := (i : Int)) HOQ.out ⟨by omega, by omega⟩ hszq (by rw [castL_len, HNP.out]; exact hown1) hgrow1; have hcw2 := cell_keep (HBQ.out.trans j2) HWC.out; have HJ1 := Lib.hid j1; have HJ2 := Lib.hid j2; clear hown1 hgrow1 j1 j2)
                  go_roundw
                  case rel => exact ⟨i + 1, left - 1, pre ++ [i], by omega, by simp, by congr 1; omega, HS.out, by simpa [castL] using HJ1.out, HBQ.out.trans HJ2.out⟩
                  case measure => simp [intOf]; omega
                · have d1 : ((sv : Int) == (left : Int)) = false := by rw [beq_eq_false_iff_ne]; omega
                  have HS := Lib.hid (HSK.out fun h => h1 h.1)
                  obtain ⟨xq, hxq⟩ : ∃ xq, nth l q = xq := ⟨_, rfl⟩
                  rw [hxq] at clq hgt
                  have d2 : decide (xq < xi) = true := by simpa using hgt
                  clear h1 hco hml hgl hnq hq hgt hxq
                  go_wp2_with (fail)
                  go_quiet (fail)
                  go_wp2_with (fail)
                  go_roundw
                  case rel => exact ⟨i + 1, left, pre, by omega, by simp, rfl, HS.out, (show OwnI 3 wi wh.heap.size (.slice (some ⟨bo, oo, none⟩) (m + 1) kv) (castL pre) from HO.out).below (bdrewN _ _), HB2.out.trans ((bdrewN wi _).mono hszi)⟩
                  case measure => simp [intOf]; omega
              · have HS := Lib.hid (HSK.out fun h => hgt (h.2 q hgl))
                obtain ⟨xq, hxq⟩ : ∃ xq, nth l q = xq := ⟨_, rfl⟩
                rw [hxq] at clq hgt
                have d2 : decide (xq < xi) = false := by simpa using hgt
                clear hco hml hgl hnq hq hgt hxq
                go_wp2_with (fail)
                go_quiet (fail)
                go_wp2_with (fail)
                go_roundw
                case rel => exact ⟨i + 1, left, pre, by omega, by simp, rfl, HS.out, (show OwnI 3 wi wh.heap.size (.slice (some ⟨bo, oo, none⟩) (m + 1) kv) (castL pre) from HO.out).below (bdrewN _ _), HB2.out.trans ((bdrewN wi _).mono hszi)⟩
                case measure => simp [intOf]; omega
        · obtain rfl : n = i := by omega
          have HE := Lib.hid (show pre = incF l from HP.out.fin (.inl (by omega)))
          clear hb
          go_wp2_with (fail)
          go_ret2
          exact ⟨_, _, rfl, by rw [← HE.out]; exact (show OwnI 3 wi wh.heap.size (.slice av np kv) (castL pre) from HO.out).mono HBW.out.size, bstep HBW.out HB2.out⟩
end Go.Proofs.YtbahddjbncinbaaGreatDoor
