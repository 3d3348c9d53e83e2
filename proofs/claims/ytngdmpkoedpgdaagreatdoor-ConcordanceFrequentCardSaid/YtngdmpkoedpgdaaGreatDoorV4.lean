/-
  The law of frequent words.
-/
import Derived.Test.YtngdmpkoedpgdaaGreatDoorFr5
import Derived.Test.YtngdmpkoedpgdaaGreatDoorAw5
import Derived.Test.YtngdmpkoedpgdaaGreatDoorPn
namespace Go.Ap
open Go Go.RowKit
theorem freqL_len (l : List Post) (k : Nat) : (freqL l (k : Int)).length = min k (wordsF l).length := by
  unfold freqL
  rw [List.length_take, freqS_len, Int.toNat_natCast]
theorem freqL_adj {l : List Post} {k i : Nat} {a b : Str} (ha : (freqL l (k : Int))[i]? = some a) (hb : (freqL l (k : Int))[i + 1]? = some b) : freqM (cntW l) a b < 0 := by
  unfold freqL at ha hb
  obtain ⟨h1, rfl⟩ := List.getElem?_eq_some_iff.1 ha
  obtain ⟨h2, rfl⟩ := List.getElem?_eq_some_iff.1 hb
  rw [List.length_take] at h1 h2
  rw [List.getElem_take, List.getElem_take]
  exact List.pairwise_iff_getElem.1 (freq_is l).asc i (i + 1) (by omega) (by omega) (by omega)
theorem freqL_rest {l : List Post} {k i : Nat} {a s : Str} (hl : (freqL l (k : Int)).length = i + 1) (ha : (freqL l (k : Int))[i]? = some a) (hs : s ∈ wordsF l) (hn : s ∉ freqL l (k : Int)) : cntW l s ≤ cntW l a := by
  obtain ⟨q, hq, hqs⟩ := List.getElem_of_mem (freqS_mem.2 hs)
  unfold freqL at hl ha hn
  rw [Int.toNat_natCast] at hl ha hn
  obtain ⟨h1, rfl⟩ := List.getElem?_eq_some_iff.1 ha
  rw [List.length_take] at h1 hl
  have hge : ¬q < k := fun h => hn (by rw [← hqs]; exact List.mem_take_iff_getElem.2 ⟨q, by omega, rfl⟩)
  rw [List.getElem_take]
  have := List.pairwise_iff_getElem.1 (freq_is l).asc i q (by omega) hq (by omega)
  rw [hqs] at this
  rcases freq_neg this with h | ⟨h, _⟩ <;> omega
end Go.Ap
namespace Go.Proofs.YtngdmpkoedpgdaaGreatDoor
open Go.RowKit Go.Ap Go.Shelf Go.Proofs

attribute [local go_sem] Oper.semAt_some bs_toList empty_toList bs_size bs_extract
theorem contS (r : List Str) (x : Str) (a : Option Addr) (n c : Nat) (w : World) (h : StrsL w a n r) :
    Calls Tryz.prog 23 #[.slice a n c, .string (bs x)] w fun e w' => e = .returned (.bool (decide (x ∈ r))) ∧ w' = w := by
  have hl := h.len
  have hsm := h.small
  rcases Nat.eq_zero_or_pos n with h0 | h0
  · subst h0
    obtain rfl : r = [] := List.eq_nil_of_length_eq_zero hl
    exact Tryz.slices_Contains_string_empty a c (bs x) w
  · obtain ⟨b, off, rfl, hc⟩ := h.at h0
    have H := Tryz.slices_Contains_string b off n c (r.map bs) (bs x) w (by simp [hl]) (by omega) (fun j hj => by
      rw [List.length_map] at hj
      rw [hc j r[j] (List.getElem?_eq_getElem hj)]
      simp [List.getD, List.getElem?_map, List.getElem?_eq_getElem hj])
    refine H.mono ?_
    rintro e w' ⟨rfl, rfl⟩
    refine ⟨?_, rfl⟩
    congr 2
    rw [List.take_of_length_le (by simp [hl])]
    rw [Bool.eq_iff_iff, Lib.containsS_iff, decide_eq_true_eq, List.mem_map]
    constructor
    · rintro ⟨y, hy, he⟩
      rw [← bs_inj he]
      exact hy
    · intro hx
      exact ⟨x, hx, rfl⟩
set_option maxRecDepth 100000 in
set_option maxHeartbeats 4000000 in
theorem great21 (l : List Post) (a : Option Addr) (n c : Nat) (w : World) (h : Posts w a n l) :
    Calls Tryz.prog 21 #[.slice a n c] w fun e w' => (∃ b, e = .returned (.bool b) ∧ (b = false → n ≤ 12 ∧ ∀ p ∈ l, p.1.1.length ≤ 70 ∧ p.1.2.length ≤ 30 ∧ p.2.length ≤ 12)) ∧ w = w' := by
  have HX := Lib.hid h
  have HLN := Lib.hid h.len
  have hsm := h.small
  clear h
  by_cases h12 : n ≤ 12
  · have d1 : decide ((n : Int) ≤ 12) = true := decide_eq_true (by omega)
    have d1' : decide (n ≤ 12) = true := decide_eq_true h12
    have d2 : decide ((12 : Int) < (n : Int)) = false := decide_eq_false (by omega)
    have H12 := Lib.hid h12
    go_enter Tryz.func21, Tryz.ntmps21
    go_wp2_with (fail)
    go_loopw [3] (fun iv wr => ∃ i : Nat, i ≤ n ∧ iv = .int .i64 i ∧ wr = w ∧ ∀ j p, j < i → l[j]? = some p → p.1.1.length ≤ 70 ∧ p.1.2.length ≤ 30 ∧ p.2.length ≤ 12) (fun iv _ => n - (intOf iv).toNat)
    case atStart => exact ⟨0, Nat.zero_le _, rfl, rfl, fun j p hj => by omega⟩
    case round =>
      obtain ⟨i, hile, rfl, rfl, hok⟩ := hrel
      have HOK := Lib.hid hok
      clear hok
      by_cases hin : i < n
      · obtain ⟨p, b, off, hp, rfl, a3, k3, c0, c1, c2, hps⟩ := HX.out.at hin
        have hq0 := hps.word
        have hq1 := hps.sec
        have hq2 := hps.lines.small
        obtain ⟨⟨wd, sc⟩, ls⟩ := p
        simp only at c0 c1 c2 hq0 hq1 hq2
        have HP := Lib.hid hp
        obtain ⟨k, hk⟩ : ∃ k, ls.length = k := ⟨_, rfl⟩
        rw [hk] at c2 hq2
        have HK := Lib.hid hk
        have i1 : (i : Int) < (n : Int) := by omega
        have i0' : (0 : Int) ≤ (i : Int) := by omega
        clear hp hps hk
        by_cases g0 : 70 < wd.length
        · have e0 : decide ((70 : Int) < (wd.length : Int)) = true := decide_eq_true (by omega)
          clear g0
          go_wp2_with (fail)
          go_ret
          exact ⟨⟨true, rfl, fun h => by cases h⟩, rfl⟩
        · have e0 : decide ((70 : Int) < (wd.length : Int)) = false := decide_eq_false (by omega)
          by_cases g1 : 30 < sc.length
          · have e1 : decide ((30 : Int) < (sc.length : Int)) = true := decide_eq_true (by omega)
            clear g0 g1
            go_wp2_with (fail)
            go_ret
            exact ⟨⟨true, rfl, fun h => by cases h⟩, rfl⟩
          · have e1 : decide ((30 : Int) < (sc.length : Int)) = false := decide_eq_false (by omega)
            by_cases g2 : 12 < k
            · have e2 : decide ((12 : Int) < (k : Int)) = true := decide_eq_true (by omega)
              clear g0 g1 g2
              go_wp2_with (fail)
              go_ret
              exact ⟨⟨true, rfl, fun h => by cases h⟩, rfl⟩
            · have e2 : decide ((12 : Int) < (k : Int)) = false := decide_eq_false (by omega)
              have HG := Lib.hid (show wd.length ≤ 70 ∧ sc.length ≤ 30 ∧ k ≤ 12 by omega)
              clear g0 g1 g2
              go_wp2_with (fail)
              exact ⟨⟨i + 1, by omega, by simp, by first | rfl | trivial, fun j p hj hp => by
                by_cases hji : j = i
                · subst hji
                  rw [HP.out] at hp
                  cases hp
                  have := HG.out
                  have := HK.out
                  simp only
                  omega
                · exact HOK.out j p (by omega) hp⟩, by simp [intOf]; omega⟩
      · obtain rfl : n = i := by omega
        go_wp2_with (fail)
        go_ret
        refine ⟨⟨false, rfl, fun _ => ⟨H12.out, fun p hp => ?_⟩⟩, rfl⟩
        obtain ⟨j, hj⟩ := List.getElem?_of_mem hp
        exact HOK.out j p (by have := (List.getElem?_eq_some_iff.1 hj).1; have := HLN.out; omega) hj
  · have d1 : decide ((n : Int) ≤ 12) = false := decide_eq_false (by omega)
    have d1' : decide (n ≤ 12) = false := decide_eq_false h12
    have d2 : decide ((12 : Int) < (n : Int)) = true := decide_eq_true (by omega)
    have d3 : decide ((0 : Int) < (n : Int)) = true := decide_eq_true (by omega)
    have d3' : decide (0 < n) = true := decide_eq_true (by omega)
    go_enter Tryz.func21, Tryz.ntmps21
    go_wp2_with (fail)
    go_loopw [3] (fun iv wr => iv = .int .i64 0 ∧ wr = w) (fun iv _ => n - (intOf iv).toNat)
    case atStart => exact ⟨rfl, rfl⟩
    case round =>
      obtain ⟨rfl, rfl⟩ := hrel
      go_wp2_with (fail)
      go_ret
      exact ⟨⟨true, rfl, fun h => by cases h⟩, rfl⟩
set_option maxRecDepth 100000 in
set_option maxHeartbeats 8000000 in
theorem law4 (a : Option Addr) (n c : Nat) (l : List Post) (z : Int) (w : World) (h : Posts w a n l) (hz : 0 ≤ z ∧ z ≤ 255) (ht : ET w) :
    Calls Tryz.prog 4 #[.slice a n c, .int .u8 z] w fun e w' => e = .returned (.bool true) ∧ Below w.heap.size w w' := by
  have HA := Lib.hid (fun W (hb : Below w.heap.size w W) => awake13 W (ht.mono (Nat.le_refl _) hb))
  have HGR := Lib.hid (great21 l a n c w h)
  obtain ⟨p, rfl⟩ := Int.eq_ofNat_of_zero_le hz.1
  obtain ⟨k, hk⟩ : ∃ k, p % 14 = k := ⟨_, rfl⟩
  have r1 : Int.tmod (p : Int) 14 = (k : Int) := by rw [← hk]; exact (Int.ofNat_tmod p 14).symm
  have hk14 : k < 14 := by omega
  have HX := Lib.hid h
  have HLN := Lib.hid h.len
  have hsm := h.small
  have HBX := Lib.hid (Below.refl w.heap.size w)
  clear h ht
  go_enter Tryz.func4, Tryz.ntmps4
  go_wp2_with (fail)
  refine HGR.out.mono ?_
  rintro e W0 ⟨⟨gb, rfl, hgb⟩, rfl⟩
  cases gb
  rotate_left
  · clear hgb
    go_wp2_with (fail)
    refine (HA.out _ HBX.out).mono ?_
    rintro e W9 ⟨rfl, hb9⟩
    have HBX := Lib.hid (bstep HBX.out hb9)
    clear hb9
    go_wp2_with (fail)
    go_ret
    exact ⟨rfl, HBX.out⟩
  obtain ⟨hn12, hsz⟩ := hgb rfl
  have HN12 := Lib.hid hn12
  have HFQ := Lib.hid (frequentP l (k : Int) a n c w HX.out hn12)
  have HFC := Lib.hid (show freqC l (k : Int) = if indexB l = false then 1 else 0 by
    unfold freqC
    rw [if_neg (show ¬((k : Int) < 0 ∨ 4096 < (k : Int)) by omega)])
  rw [HFC.out] at HFQ
  clear hgb hsz
  cases hv : indexB l
  · rw [hv] at HFQ
    simp only [if_true] at HFQ
    clear hv
    go_wp2_with (fail)
    refine HFQ.out.mono ?_
    rintro e W4 ⟨u, rfl, _, hu, hb4⟩
    obtain rfl := hu (by decide)
    have HBX := Lib.hid (bstep HBX.out hb4)
    clear hb4 hu
    go_wp2_with (fail)
    refine (HA.out _ HBX.out).mono ?_
    rintro e W9 ⟨rfl, hb9⟩
    have HBX := Lib.hid (bstep HBX.out hb9)
    clear hb9
    go_wp2_with (fail)
    go_ret
    exact ⟨rfl, HBX.out⟩
  rw [hv] at HFQ
  simp only [Bool.true_eq_false, if_false] at HFQ
  have HVAL := Lib.hid (indexB_valid hv).2
  clear hv
  go_wp2_with (fail)
  refine HFQ.out.mono ?_
  rintro e W4 ⟨u, rfl, hg, _, hb4⟩
  obtain ⟨ar, cr, rfl, hr⟩ := hg rfl
  have HBX := Lib.hid (bstep HBX.out hb4)
  have HX4 := Lib.hid (HX.out.mono (Nat.le_refl _) hb4)
  have HR4 := Lib.hid hr
  have hjl := freqL_len l k
  obtain ⟨r, hrr⟩ : ∃ r, freqL l (k : Int) = r := ⟨_, rfl⟩
  rw [hrr] at HR4 hjl
  rw [hrr]
  obtain ⟨j, hj⟩ : ∃ j, r.length = j := ⟨_, rfl⟩
  rw [hj] at HR4 hjl
  rw [hj]
  have HJ := Lib.hid hj
  have HRR := Lib.hid hrr
  obtain ⟨m, hm⟩ : ∃ m, (wordsF l).length = m := ⟨_, rfl⟩
  rw [hm] at hjl
  have HML := Lib.hid hm
  have hmin : ∀ (ts : Array TypeId) (t : TypeId) (W : World), (Builtin.min_ ts t #[.int .i64 (k : Int), .int .i64 (m : Int)]).run Tryz.prog W = .ok (.int .i64 (j : Int)) W := fun ts t W => by
    simp [Builtin.min_, Builtin.min2]
    split <;> omega
  have hj12 : j ≤ 13 := by omega
  obtain ⟨bm, hbm⟩ : ∃ b, W4.heap.size = b := ⟨_, rfl⟩
  have HBM := Lib.hid hbm
  have HM0 := Lib.hid (show MapH tSI (W4.alloc (.map #[] 0)) bm 0 (cntV (l.take 0)) by
    rw [← hbm]
    exact (MapH.made W4).ext fun s => by simp [cntV, wordsF])
  have HB40 := Lib.hid (show Below bm W4 (W4.alloc (.map #[] 0)) by rw [← hbm]; exact balloc _ _)
  have hmm := @run_makeMap Tryz.prog
  clear hg hr hb4 hrr hj hm hjl hbm
  go_wp2_with (fail)
  rw [HBM.out]
  clear hmm
  go_loopw [38] (fun iv wr => ∃ i : Nat, i ≤ n ∧ iv = .int .i64 i ∧ MapH tSI wr bm i (cntV (l.take i)) ∧ Below bm W4 wr) (fun iv _ => n - (intOf iv).toNat)
  case atStart => exact ⟨0, Nat.zero_le _, rfl, HM0.out, HB40.out⟩
  case round =>
    obtain ⟨wi, rfl⟩ : ∃ wi : World, wi = wr := ⟨_, rfl⟩
    obtain ⟨i, hile, rfl, hM, hb⟩ := hrel
    have HM := Lib.hid hM
    have HB := Lib.hid hb
    have HSZ := Lib.hid (show bm ≤ wi.heap.size by have := hb.size; have := HBM.out; omega)
    by_cases hin : i < n
    · obtain ⟨p, b, off, hp, rfl, a3, k3, c0, c1, c2, hps⟩ := (HX4.out.mono (Nat.le_of_eq HBM.out) hb).at hin
      have hval := HVAL.out p (List.mem_of_getElem? hp)
      obtain ⟨v1, _, v3, _⟩ := validB_parts hval
      have hwl := isWordB_64 v1
      have HTS := Lib.hid (take_snoc hp)
      have hcs := cntV_snoc (l.take i) p
      have hcb : cntW (l.take i) p.1.1 ≤ 12 * 4096 := by
        have e1 := cntW_le (l.take i) p.1.1
        have : ∀ m : List Post, (∀ p ∈ m, validB p = true) → countL m ≤ 4096 * m.length := fun m => by
          induction m with
          | nil => intro _; simp [countL]
          | cons q s ih =>
            intro hm
            have h1 := (validB_parts (hm q (List.mem_cons_self ..))).2.2.1
            have h2 := ih fun q hq => hm q (List.mem_cons_of_mem _ hq)
            unfold countL at h2 ⊢
            simp only [List.map_cons, List.sum_cons, List.length_cons]
            omega
        have e2 := this (l.take i) fun q hq => HVAL.out q (List.mem_of_mem_take hq)
        have := HN12.out
        rw [List.length_take] at e2
        omega
      obtain ⟨⟨wd, sc⟩, ls⟩ := p
      simp only at c0 c1 c2 hwl hcs hcb v3
      rw [← HTS.out] at hcs
      obtain ⟨q, hq⟩ : ∃ k, ls.length = k := ⟨_, rfl⟩
      obtain ⟨cn, hcn⟩ : ∃ k, cntW (l.take i) wd = k := ⟨_, rfl⟩
      rw [hq] at c2 hcs v3
      rw [hcn] at hcs hcb
      have HWL := Lib.hid (show wd.length ≤ maxLen by unfold maxLen; omega)
      have HCS := Lib.hid hcs
      have i1 : (i : Int) < (n : Int) := by omega
      have hw1 : IntKind.i64.wrap ((cn : Int) + (q : Int)) = (cn : Int) + (q : Int) := IntWalk.i64_in _ (by omega)
      obtain ⟨X1, hX1⟩ : ∃ X, wi.heap.size = X := ⟨_, rfl⟩
      have hA1 := balloc wi (.cells #[.string (bs wd), .string (bs sc), .slice a3 q k3] 37)
      have K1 := BlkK.new wi #[.string (bs wd), .string (bs sc), .slice a3 q k3] 37
      have hBA1 := hb.alloc HSZ.out (.cells #[.string (bs wd), .string (bs sc), .slice a3 q k3] 37)
      obtain ⟨W1, hW1⟩ : ∃ W, wi.alloc (.cells #[.string (bs wd), .string (bs sc), .slice a3 q k3] 37) = W := ⟨_, rfl⟩
      rw [hX1] at K1
      rw [hW1] at hA1 K1 hBA1
      have HM1 := Lib.hid (hM.below hA1)
      have HB1 := Lib.hid hBA1
      have HS1 := Lib.hid (show bm ≤ W1.heap.size by have := hBA1.size; have := HBM.out; omega)
      have f0 := K1.cell (i := 0) (u := .string (bs wd)) rfl
      have f2 := K1.cell (i := 2) (u := .slice a3 q k3) rfl
      have hl1 : (Instr.lookup 45 (.map (some bm)) (.string (bs wd)) false).run Tryz.prog W1 = .ok (.int .i64 (cn : Nat)) W1 := by
        rw [← hcn]
        exact lookSI HM1.out (cntV_get (l.take i)) HWL.out
      obtain ⟨w4, hup, hM4, hg4⟩ := HM1.out.store (s := wd) (by unfold maxLen; omega) HWL.out (.int .i64 ((cn : Int) + (q : Int)))
      replace hup : (Instr.mapUpdate 45 (.map (some bm)) (.string (bs wd)) (.int .i64 ((cn : Int) + (q : Int)))).run Tryz.prog W1 = .ok () w4 := hup
      have HM4 := Lib.hid (show MapH tSI w4 bm (i + 1) (cntV (l.take (i + 1))) by rw [HCS.out]; exact hM4)
      have HB4 := Lib.hid (HB1.out.grown hg4 HS1.out fun j hj => by cases hj; exact Nat.le_refl _)
      clear hp hps hval v1 v3 hwl hM hb hcs hcb hq hcn hA1 K1 hBA1 hM4 hg4
      go_wp2_with (fail)
      go_roundw
      case rel => exact ⟨i + 1, by omega, by simp, HM4.out, HB4.out⟩
      case measure => simp [intOf]; omega
    · obtain rfl : n = i := by omega
      have HT := Lib.hid (show l.take n = l from List.take_of_length_le (Nat.le_of_eq HLN.out))
      rw [HT.out] at hM
      have HMW := Lib.hid hM
      have HWS := Lib.hid (show ∀ s ∈ wordsF l, s.length ≤ 64 from fun s hs => by
        obtain ⟨p, hp, rfl⟩ := wordsF_mem.1 hs
        exact isWordB_64 (validB_parts (HVAL.out p hp)).1)
      have hct : ∀ ty, (Builtin.len_ #[45] ty #[.map (some bm)]).run Tryz.prog wi = .ok (.int .i64 (m : Nat)) wi := fun ty => by
        have := MapH.count hM (ks := wordsF l) (wordsF_nodup l) (fun s _ => by
          unfold cntV
          by_cases hs : s ∈ wordsF l
          · simp [hs]
          · simp [hs]) (fun s hs => by have := HWS.out s hs; show s.length ≤ maxLen; unfold maxLen; omega) ty
        rw [HML.out] at this
        exact this
      clear hM hb
      go_wp2_with (fail)
      clear hct hmin
      go_loopw [60] (fun iv wr => ∃ i : Nat, i ≤ j ∧ iv = .int .i64 i ∧ Below bm W4 wr ∧ MapH tSI wr bm n (cntV l)) (fun iv _ => j - (intOf iv).toNat)
      case atStart => exact ⟨0, Nat.zero_le _, rfl, HB.out, HMW.out⟩
      case round =>
        clear HM HB HMW
        obtain ⟨wj, rfl⟩ : ∃ wj : World, wj = wr := ⟨_, rfl⟩
        obtain ⟨i, hile, rfl, hb, hM⟩ := hrel
        have HB := Lib.hid hb
        have HM := Lib.hid hM
        have HZ := Lib.hid (show bm ≤ wj.heap.size by have := hb.size; have := HBM.out; omega)
        have HRJ := Lib.hid (HR4.out.mono (Nat.le_of_eq HBM.out) hb)
        by_cases hij : i < j
        · obtain ⟨x, b, off, v, hx, rfl, hcv, rfl, _⟩ := Sl.at HRJ.out hij
          unfold sv at hcv
          have hxw : x ∈ wordsF l := by
            have := List.mem_of_getElem? hx
            rw [← HRR.out] at this
            exact freqS_mem.1 (List.mem_of_mem_take this)
          have hxl := HWS.out x hxw
          have hpos : 0 < cntW l x := (cntW_pos fun q hq => by
            have := HVAL.out q hq
            intro e
            rw [validB_0 (by rw [e]; rfl)] at this
            cases this).2 hxw
          obtain ⟨fx, hfx⟩ : ∃ k, cntW l x = k := ⟨_, rfl⟩
          rw [hfx] at hpos
          have q0 : ((fx : Int) == 0) = false := by rw [beq_eq_false_iff_ne]; omega
          have q0' : (fx == 0) = false := by rw [beq_eq_false_iff_ne]; omega
          have HL0 := Lib.hid (show ∀ W', Below wj.heap.size wj W' → (Instr.lookup 45 (.map (some bm)) (.string (bs x)) false).run Tryz.prog W' = .ok (.int .i64 (fx : Nat)) W' from fun W' hb' => by
            rw [← hfx]
            exact lookSI (HM.out.below hb') (cntV_get l) (by unfold maxLen; omega))
          have i1 : (i : Int) < (j : Int) := by omega
          rcases i with _ | q
          · rw [Nat.add_zero] at hcv
            have HCW := Lib.hid hcv
            clear hb hM hx hxw hxl hpos hfx
            go_wp2_with (fail)
            clear hcv
            refine (wpIn_wide (n := 20)).1 ?_
            refine wpIn_region_planN (fun W' => Below wj.heap.size wj W') (.take 0 <| .take 1 <| .take 2 <| .take 3 <| .take 4 <| .take 5 <| .take 6 <| .take 7 <| .take 8 <| .take 9 <| .take 10 <| .take 11 <| .take 12 <| .take 13 <| .take 14 <| .take 15 <| .take 16 <| .take 17 <| .take 18 <| .take 19 <| .take 20 <| .take 21 <| .take 22 <| .take 23 <| .take 24 <| .take 25 <| .take 26 <| .take 27 <| .take 28 <| .take 29 <| .take 30 <| .take 31 <| .take 32 <| .take 33 <| .take 34 <| .take 35 <| .take 36 <| .take 37 <| .take 38 <| .take 39 <| .take 40 <| .take 41 <| .take 42 <| .take 43 .fin) (fun _ => trivial) (by kernel_rfl) (by kernel_rfl) (show Below _ wj _ from bdrewN _ 1) ?_
            have HSX := Lib.hid (show Below wj.heap.size wj wj.drew from bdrewN _ 1)
            apply plan_take rfl rfl (by rfl)
            case hy =>
              rintro W' hb'
              clear hb'
              go_simp
              first | done | with_reducible rfl
            simp only [List.setIfInBounds_toArray, List.set_cons_zero, List.set_cons_succ]
            apply plan_take rfl rfl (by rfl)
            case hy =>
              rintro W' hb'
              clear hb'
              go_simp
              first | done | with_reducible rfl
            simp only [List.setIfInBounds_toArray, List.set_cons_zero, List.set_cons_succ]
            apply plan_take rfl rfl (by rfl)
            case hy =>
              rintro W' hb'
              have l0 := HL0.out W' hb'
              clear hb'
              go_simp
              first | done | with_reducible rfl
            simp only [List.setIfInBounds_toArray, List.set_cons_zero, List.set_cons_succ]
            apply plan_take rfl rfl (by rfl)
            case hy =>
              rintro W' hb'
              clear hb'
              go_simp
              first | done | with_reducible rfl
            simp only [List.setIfInBounds_toArray, List.set_cons_zero, List.set_cons_succ]
            apply plan_take rfl rfl (by rfl)
            case hy =>
              rintro W' hb'
              clear hb'
              go_simp
              first | done | with_reducible rfl
            simp only [List.setIfInBounds_toArray, List.set_cons_zero, List.set_cons_succ]
            apply plan_gd (j := 4) (t := 69) (b := false) (c := false) rfl rfl rfl rfl rfl (by simp) rfl
            case hy =>
              rintro W' hb'
              clear hb'
              go_simp
              first | done | with_reducible rfl
            simp only [List.setIfInBounds_toArray, List.set_cons_zero, List.set_cons_succ]
            apply plan_gd (j := 4) (t := 69) (b := false) (c := false) rfl rfl rfl rfl rfl (by simp) rfl
            case hy =>
              rintro W' hb'
              clear hb'
              go_simp
              first | done | with_reducible rfl
            simp only [List.setIfInBounds_toArray, List.set_cons_zero, List.set_cons_succ]
            apply plan_gd (j := 4) (t := 69) (b := false) (c := false) rfl rfl rfl rfl rfl (by simp) rfl
            case hy =>
              rintro W' hb'
              clear hb'
              go_simp
              first | done | with_reducible rfl
            simp only [List.setIfInBounds_toArray, List.set_cons_zero, List.set_cons_succ]
            apply plan_no (j := 7) (t := 72) (b := false) (c := true) rfl rfl rfl rfl rfl (by simp) rfl
            simp only [List.setIfInBounds_toArray, List.set_cons_zero, List.set_cons_succ]
            apply plan_no (j := 7) (t := 72) (b := false) (c := true) rfl rfl rfl rfl rfl (by simp) rfl
            simp only [List.setIfInBounds_toArray, List.set_cons_zero, List.set_cons_succ]
            apply plan_no (j := 7) (t := 72) (b := false) (c := true) rfl rfl rfl rfl rfl (by simp) rfl
            simp only [List.setIfInBounds_toArray, List.set_cons_zero, List.set_cons_succ]
            apply plan_no (j := 7) (t := 72) (b := false) (c := true) rfl rfl rfl rfl rfl (by simp) rfl
            simp only [List.setIfInBounds_toArray, List.set_cons_zero, List.set_cons_succ]
            apply plan_no (j := 7) (t := 72) (b := false) (c := true) rfl rfl rfl rfl rfl (by simp) rfl
            simp only [List.setIfInBounds_toArray, List.set_cons_zero, List.set_cons_succ]
            apply plan_no (j := 7) (t := 72) (b := false) (c := true) rfl rfl rfl rfl rfl (by simp) rfl
            simp only [List.setIfInBounds_toArray, List.set_cons_zero, List.set_cons_succ]
            apply plan_no (j := 7) (t := 72) (b := false) (c := true) rfl rfl rfl rfl rfl (by simp) rfl
            simp only [List.setIfInBounds_toArray, List.set_cons_zero, List.set_cons_succ]
            apply plan_no (j := 7) (t := 72) (b := false) (c := true) rfl rfl rfl rfl rfl (by simp) rfl
            simp only [List.setIfInBounds_toArray, List.set_cons_zero, List.set_cons_succ]
            apply plan_no (j := 7) (t := 72) (b := false) (c := true) rfl rfl rfl rfl rfl (by simp) rfl
            simp only [List.setIfInBounds_toArray, List.set_cons_zero, List.set_cons_succ]
            apply plan_no (j := 7) (t := 72) (b := false) (c := true) rfl rfl rfl rfl rfl (by simp) rfl
            simp only [List.setIfInBounds_toArray, List.set_cons_zero, List.set_cons_succ]
            apply plan_no (j := 7) (t := 72) (b := false) (c := true) rfl rfl rfl rfl rfl (by simp) rfl
            simp only [List.setIfInBounds_toArray, List.set_cons_zero, List.set_cons_succ]
            apply plan_no (j := 7) (t := 72) (b := false) (c := true) rfl rfl rfl rfl rfl (by simp) rfl
            simp only [List.setIfInBounds_toArray, List.set_cons_zero, List.set_cons_succ]
            apply plan_un (j := 19) (t := 84) rfl rfl rfl rfl rfl (by simp)
            simp only [List.setIfInBounds_toArray, List.set_cons_zero, List.set_cons_succ]
            apply plan_un (j := 19) (t := 84) rfl rfl rfl rfl rfl (by simp)
            simp only [List.setIfInBounds_toArray, List.set_cons_zero, List.set_cons_succ]
            apply plan_un (j := 19) (t := 84) rfl rfl rfl rfl rfl (by simp)
            simp only [List.setIfInBounds_toArray, List.set_cons_zero, List.set_cons_succ]
            apply plan_un (j := 19) (t := 84) rfl rfl rfl rfl rfl (by simp)
            simp only [List.setIfInBounds_toArray, List.set_cons_zero, List.set_cons_succ]
            apply plan_un (j := 19) (t := 84) rfl rfl rfl rfl rfl (by simp)
            simp only [List.setIfInBounds_toArray, List.set_cons_zero, List.set_cons_succ]
            apply plan_un (j := 19) (t := 84) rfl rfl rfl rfl rfl (by simp)
            simp only [List.setIfInBounds_toArray, List.set_cons_zero, List.set_cons_succ]
            apply plan_un (j := 19) (t := 84) rfl rfl rfl rfl rfl (by simp)
            simp only [List.setIfInBounds_toArray, List.set_cons_zero, List.set_cons_succ]
            apply plan_un (j := 19) (t := 84) rfl rfl rfl rfl rfl (by simp)
            simp only [List.setIfInBounds_toArray, List.set_cons_zero, List.set_cons_succ]
            apply plan_un (j := 19) (t := 84) rfl rfl rfl rfl rfl (by simp)
            simp only [List.setIfInBounds_toArray, List.set_cons_zero, List.set_cons_succ]
            apply plan_un (j := 19) (t := 84) rfl rfl rfl rfl rfl (by simp)
            simp only [List.setIfInBounds_toArray, List.set_cons_zero, List.set_cons_succ]
            apply plan_un (j := 19) (t := 84) rfl rfl rfl rfl rfl (by simp)
            simp only [List.setIfInBounds_toArray, List.set_cons_zero, List.set_cons_succ]
            apply plan_un (j := 19) (t := 84) rfl rfl rfl rfl rfl (by simp)
            simp only [List.setIfInBounds_toArray, List.set_cons_zero, List.set_cons_succ]
            apply plan_un (j := 31) (t := 96) rfl rfl rfl rfl rfl (by simp)
            simp only [List.setIfInBounds_toArray, List.set_cons_zero, List.set_cons_succ]
            apply plan_un (j := 31) (t := 96) rfl rfl rfl rfl rfl (by simp)
            simp only [List.setIfInBounds_toArray, List.set_cons_zero, List.set_cons_succ]
            apply plan_un (j := 31) (t := 96) rfl rfl rfl rfl rfl (by simp)
            simp only [List.setIfInBounds_toArray, List.set_cons_zero, List.set_cons_succ]
            apply plan_un (j := 31) (t := 96) rfl rfl rfl rfl rfl (by simp)
            simp only [List.setIfInBounds_toArray, List.set_cons_zero, List.set_cons_succ]
            apply plan_un (j := 31) (t := 96) rfl rfl rfl rfl rfl (by simp)
            simp only [List.setIfInBounds_toArray, List.set_cons_zero, List.set_cons_succ]
            apply plan_un (j := 31) (t := 96) rfl rfl rfl rfl rfl (by simp)
            simp only [List.setIfInBounds_toArray, List.set_cons_zero, List.set_cons_succ]
            apply plan_un (j := 31) (t := 96) rfl rfl rfl rfl rfl (by simp)
            simp only [List.setIfInBounds_toArray, List.set_cons_zero, List.set_cons_succ]
            apply plan_un (j := 31) (t := 96) rfl rfl rfl rfl rfl (by simp)
            simp only [List.setIfInBounds_toArray, List.set_cons_zero, List.set_cons_succ]
            apply plan_un (j := 19) (t := 84) rfl rfl rfl rfl rfl (by simp)
            simp only [List.setIfInBounds_toArray, List.set_cons_zero, List.set_cons_succ]
            apply plan_no (j := 7) (t := 72) (b := false) (c := true) rfl rfl rfl rfl rfl (by simp) rfl
            simp only [List.setIfInBounds_toArray, List.set_cons_zero, List.set_cons_succ]
            apply plan_gd (j := 4) (t := 69) (b := false) (c := false) rfl rfl rfl rfl rfl (by simp) rfl
            case hy =>
              rintro W' hb'
              clear hb'
              go_simp
              first | done | with_reducible rfl
            simp only [List.setIfInBounds_toArray, List.set_cons_zero, List.set_cons_succ]
            apply plan_take rfl rfl (by rfl)
            case hy =>
              rintro W' hb'
              clear hb'
              go_simp
              first | done | with_reducible rfl
            simp only [List.setIfInBounds_toArray, List.set_cons_zero, List.set_cons_succ]
            refine plan_fin ?_
            gi_wp2_with (fail)
            go_wp2_with (fail)
            go_roundw
            case rel => exact ⟨0 + 1, by omega, by simp, HB.out.trans (HSX.out.mono HZ.out), HM.out.below HSX.out⟩
            case measure => simp [intOf]; omega
          · have HCW := Lib.hid hcv
            obtain ⟨y, b', off', v', hy, he', hcy, rfl, _⟩ := Sl.at HRJ.out (show q < j by omega)
            cases he'
            unfold sv at hcy
            have HCV := Lib.hid hcy
            have hyw : y ∈ wordsF l := by
              have := List.mem_of_getElem? hy
              rw [← HRR.out] at this
              exact freqS_mem.1 (List.mem_of_mem_take this)
            have hyl := HWS.out y hyw
            have hadj := freq_neg (freqL_adj (l := l) (k := k) (by rw [HRR.out]; exact hy) (by rw [HRR.out]; exact hx))
            obtain ⟨fy, hfy⟩ : ∃ k, cntW l y = k := ⟨_, rfl⟩
            rw [hfx, hfy] at hadj
            have HL1 := Lib.hid (show ∀ W', Below wj.heap.size wj W' → (Instr.lookup 45 (.map (some bm)) (.string (bs y)) false).run Tryz.prog W' = .ok (.int .i64 (fy : Nat)) W' from fun W' hb' => by
              rw [← hfy]
              exact lookSI (HM.out.below hb') (cntV_get l) (by unfold maxLen; omega))
            obtain ⟨cm, hcm⟩ : ∃ cm, dictM mkB y x = cm := ⟨_, rfl⟩
            have HCM := Lib.hid (fun W (_ : Below wj.heap.size wj W) => by have := compareR y x W (by omega) (by omega); rwa [hcm] at this)
            rw [hcm] at hadj
            have g1 : decide ((0 : Int) < (q : Int) + 1) = true := by rw [decide_eq_true_eq]; omega
            have hjm : (q : Int) ≤ 4611686018427387903 := by omega
            have v1 : IntKind.i64.wrap (q : Int) = (q : Int) := IntWalk.i64_in _ (by omega)
            have v2 : (q : Int) < (j : Int) := by omega
            have v3 : (0 : Int) ≤ (q : Int) := by omega
            rcases hadj with hlt | ⟨heq, hneg⟩
            · have q1 : decide ((fy : Int) < (fx : Int)) = false := decide_eq_false (by omega)
              have q1' : decide (fy < fx) = false := decide_eq_false (by omega)
              have q2 : ((fy : Int) == (fx : Int)) = false := by rw [beq_eq_false_iff_ne]; omega
              have q2' : (fy == fx) = false := by rw [beq_eq_false_iff_ne]; omega
              clear hb hM hx hxw hxl hpos hfx hy hcy hyw hyl hfy hcm hlt
              go_wp2_with (fail)
              clear hcv
              refine (wpIn_wide (n := 20)).1 ?_
              refine wpIn_region_planN (fun W' => Below wj.heap.size wj W') (.take 0 <| .take 1 <| .take 2 <| .take 3 <| .take 4 <| .take 5 <| .take 6 <| .take 7 <| .take 8 <| .take 9 <| .take 10 <| .take 11 <| .take 12 <| .take 13 <| .take 14 <| .take 15 <| .take 16 <| .take 17 <| .take 18 <| .take 19 <| .take 20 <| .take 21 <| .take 22 <| .take 23 <| .take 24 <| .take 25 <| .take 26 <| .take 27 <| .take 28 <| .take 29 <| .take 30 <| .take 31 <| .take 32 <| .take 33 <| .take 34 <| .take 35 <| .take 36 <| .take 37 <| .take 38 <| .take 39 <| .take 40 <| .take 41 <| .take 42 <| .take 43 .fin) (fun _ => trivial) (by kernel_rfl) (by kernel_rfl) (show Below _ wj _ from bdrewN _ 1) ?_
              have HSX := Lib.hid (show Below wj.heap.size wj wj.drew from bdrewN _ 1)
              apply plan_take rfl rfl (by rfl)
              case hy =>
                rintro W' hb'
                clear hb'
                go_simp
                first | done | with_reducible rfl
              simp only [List.setIfInBounds_toArray, List.set_cons_zero, List.set_cons_succ]
              apply plan_take rfl rfl (by rfl)
              case hy =>
                rintro W' hb'
                clear hb'
                go_simp
                first | done | with_reducible rfl
              simp only [List.setIfInBounds_toArray, List.set_cons_zero, List.set_cons_succ]
              apply plan_take rfl rfl (by rfl)
              case hy =>
                rintro W' hb'
                have l0 := HL0.out W' hb'
                have l1 := HL1.out W' hb'
                clear hb'
                go_simp
                first | done | with_reducible rfl
              simp only [List.setIfInBounds_toArray, List.set_cons_zero, List.set_cons_succ]
              apply plan_take rfl rfl (by rfl)
              case hy =>
                rintro W' hb'
                clear hb'
                go_simp
                first | done | with_reducible rfl
              simp only [List.setIfInBounds_toArray, List.set_cons_zero, List.set_cons_succ]
              apply plan_take rfl rfl (by rfl)
              case hy =>
                rintro W' hb'
                clear hb'
                go_simp
                first | done | with_reducible rfl
              simp only [List.setIfInBounds_toArray, List.set_cons_zero, List.set_cons_succ]
              apply plan_gd (j := 4) (t := 69) (b := false) (c := false) rfl rfl rfl rfl rfl (by simp) rfl
              case hy =>
                rintro W' hb'
                clear hb'
                go_simp
                first | done | with_reducible rfl
              simp only [List.setIfInBounds_toArray, List.set_cons_zero, List.set_cons_succ]
              apply plan_gd (j := 4) (t := 69) (b := false) (c := false) rfl rfl rfl rfl rfl (by simp) rfl
              case hy =>
                rintro W' hb'
                clear hb'
                go_simp
                first | done | with_reducible rfl
              simp only [List.setIfInBounds_toArray, List.set_cons_zero, List.set_cons_succ]
              apply plan_gd (j := 4) (t := 69) (b := false) (c := false) rfl rfl rfl rfl rfl (by simp) rfl
              case hy =>
                rintro W' hb'
                clear hb'
                go_simp
                first | done | with_reducible rfl
              simp only [List.setIfInBounds_toArray, List.set_cons_zero, List.set_cons_succ]
              apply plan_gd (j := 7) (t := 72) (b := true) (c := true) rfl rfl rfl rfl rfl (by simp) rfl
              case hy =>
                rintro W' hb'
                clear hb'
                go_simp
                first | done | with_reducible rfl
              simp only [List.setIfInBounds_toArray, List.set_cons_zero, List.set_cons_succ]
              apply plan_gd (j := 7) (t := 72) (b := true) (c := true) rfl rfl rfl rfl rfl (by simp) rfl
              case hy =>
                rintro W' hb'
                clear hb'
                go_simp
                first | done | with_reducible rfl
              simp only [List.setIfInBounds_toArray, List.set_cons_zero, List.set_cons_succ]
              apply plan_gd (j := 7) (t := 72) (b := true) (c := true) rfl rfl rfl rfl rfl (by simp) rfl
              case hy =>
                rintro W' hb'
                clear hb'
                go_simp
                first | done | with_reducible rfl
              simp only [List.setIfInBounds_toArray, List.set_cons_zero, List.set_cons_succ]
              apply plan_gd (j := 7) (t := 72) (b := true) (c := true) rfl rfl rfl rfl rfl (by simp) rfl
              case hy =>
                rintro W' hb'
                clear hb'
                go_simp
                first | done | with_reducible rfl
              simp only [List.setIfInBounds_toArray, List.set_cons_zero, List.set_cons_succ]
              apply plan_gd (j := 7) (t := 72) (b := true) (c := true) rfl rfl rfl rfl rfl (by simp) rfl
              case hy =>
                rintro W' hb'
                clear hb'
                go_simp
                first | done | with_reducible rfl
              simp only [List.setIfInBounds_toArray, List.set_cons_zero, List.set_cons_succ]
              apply plan_gd (j := 7) (t := 72) (b := true) (c := true) rfl rfl rfl rfl rfl (by simp) rfl
              case hy =>
                rintro W' hb'
                have e0 := cell_keep hb' HCW.out
                have e1 := cell_keep hb' HCV.out
                clear hb'
                go_simp
                first | done | with_reducible rfl
              simp only [List.setIfInBounds_toArray, List.set_cons_zero, List.set_cons_succ]
              apply plan_gd (j := 7) (t := 72) (b := true) (c := true) rfl rfl rfl rfl rfl (by simp) rfl
              case hy =>
                rintro W' hb'
                have l0 := HL0.out W' hb'
                have l1 := HL1.out W' hb'
                clear hb'
                go_simp
                first | done | with_reducible rfl
              simp only [List.setIfInBounds_toArray, List.set_cons_zero, List.set_cons_succ]
              apply plan_gd (j := 7) (t := 72) (b := true) (c := true) rfl rfl rfl rfl rfl (by simp) rfl
              case hy =>
                rintro W' hb'
                clear hb'
                go_simp
                first | done | with_reducible rfl
              simp only [List.setIfInBounds_toArray, List.set_cons_zero, List.set_cons_succ]
              apply plan_gd (j := 7) (t := 72) (b := true) (c := true) rfl rfl rfl rfl rfl (by simp) rfl
              case hy =>
                rintro W' hb'
                clear hb'
                go_simp
                first | done | with_reducible rfl
              simp only [List.setIfInBounds_toArray, List.set_cons_zero, List.set_cons_succ]
              apply plan_gd (j := 7) (t := 72) (b := true) (c := true) rfl rfl rfl rfl rfl (by simp) rfl
              case hy =>
                rintro W' hb'
                have l0 := HL0.out W' hb'
                have l1 := HL1.out W' hb'
                clear hb'
                go_simp
                first | done | with_reducible rfl
              simp only [List.setIfInBounds_toArray, List.set_cons_zero, List.set_cons_succ]
              apply plan_gd (j := 7) (t := 72) (b := true) (c := true) rfl rfl rfl rfl rfl (by simp) rfl
              case hy =>
                rintro W' hb'
                clear hb'
                go_simp
                first | done | with_reducible rfl
              simp only [List.setIfInBounds_toArray, List.set_cons_zero, List.set_cons_succ]
              apply plan_gd (j := 7) (t := 72) (b := true) (c := true) rfl rfl rfl rfl rfl (by simp) rfl
              case hy =>
                rintro W' hb'
                clear hb'
                go_simp
                first | done | with_reducible rfl
              simp only [List.setIfInBounds_toArray, List.set_cons_zero, List.set_cons_succ]
              apply plan_gd (j := 19) (t := 84) (b := false) (c := false) rfl rfl rfl rfl rfl (by simp) rfl
              case hy =>
                rintro W' hb'
                clear hb'
                go_simp
                first | done | with_reducible rfl
              simp only [List.setIfInBounds_toArray, List.set_cons_zero, List.set_cons_succ]
              apply plan_gd (j := 19) (t := 84) (b := false) (c := false) rfl rfl rfl rfl rfl (by simp) rfl
              case hy =>
                rintro W' hb'
                clear hb'
                go_simp
                first | done | with_reducible rfl
              simp only [List.setIfInBounds_toArray, List.set_cons_zero, List.set_cons_succ]
              apply plan_gd (j := 19) (t := 84) (b := false) (c := false) rfl rfl rfl rfl rfl (by simp) rfl
              case hy =>
                rintro W' hb'
                clear hb'
                go_simp
                first | done | with_reducible rfl
              simp only [List.setIfInBounds_toArray, List.set_cons_zero, List.set_cons_succ]
              apply plan_gd (j := 19) (t := 84) (b := false) (c := false) rfl rfl rfl rfl rfl (by simp) rfl
              case hy =>
                rintro W' hb'
                clear hb'
                go_simp
                first | done | with_reducible rfl
              simp only [List.setIfInBounds_toArray, List.set_cons_zero, List.set_cons_succ]
              apply plan_gd (j := 19) (t := 84) (b := false) (c := false) rfl rfl rfl rfl rfl (by simp) rfl
              case hy =>
                rintro W' hb'
                clear hb'
                go_simp
                first | done | with_reducible rfl
              simp only [List.setIfInBounds_toArray, List.set_cons_zero, List.set_cons_succ]
              apply plan_gd (j := 19) (t := 84) (b := false) (c := false) rfl rfl rfl rfl rfl (by simp) rfl
              case hy =>
                rintro W' hb'
                have e0 := cell_keep hb' HCW.out
                have e1 := cell_keep hb' HCV.out
                clear hb'
                go_simp
                first | done | with_reducible rfl
              simp only [List.setIfInBounds_toArray, List.set_cons_zero, List.set_cons_succ]
              apply plan_gd (j := 19) (t := 84) (b := false) (c := false) rfl rfl rfl rfl rfl (by simp) rfl
              case hy =>
                rintro W' hb'
                have l0 := HL0.out W' hb'
                have l1 := HL1.out W' hb'
                clear hb'
                go_simp
                first | done | with_reducible rfl
              simp only [List.setIfInBounds_toArray, List.set_cons_zero, List.set_cons_succ]
              apply plan_gd (j := 19) (t := 84) (b := false) (c := false) rfl rfl rfl rfl rfl (by simp) rfl
              case hy =>
                rintro W' hb'
                clear hb'
                go_simp
                first | done | with_reducible rfl
              simp only [List.setIfInBounds_toArray, List.set_cons_zero, List.set_cons_succ]
              apply plan_gd (j := 19) (t := 84) (b := false) (c := false) rfl rfl rfl rfl rfl (by simp) rfl
              case hy =>
                rintro W' hb'
                clear hb'
                go_simp
                first | done | with_reducible rfl
              simp only [List.setIfInBounds_toArray, List.set_cons_zero, List.set_cons_succ]
              apply plan_gd (j := 19) (t := 84) (b := false) (c := false) rfl rfl rfl rfl rfl (by simp) rfl
              case hy =>
                rintro W' hb'
                have l0 := HL0.out W' hb'
                have l1 := HL1.out W' hb'
                clear hb'
                go_simp
                first | done | with_reducible rfl
              simp only [List.setIfInBounds_toArray, List.set_cons_zero, List.set_cons_succ]
              apply plan_gd (j := 19) (t := 84) (b := false) (c := false) rfl rfl rfl rfl rfl (by simp) rfl
              case hy =>
                rintro W' hb'
                clear hb'
                go_simp
                first | done | with_reducible rfl
              simp only [List.setIfInBounds_toArray, List.set_cons_zero, List.set_cons_succ]
              apply plan_gd (j := 19) (t := 84) (b := false) (c := false) rfl rfl rfl rfl rfl (by simp) rfl
              case hy =>
                rintro W' hb'
                clear hb'
                go_simp
                first | done | with_reducible rfl
              simp only [List.setIfInBounds_toArray, List.set_cons_zero, List.set_cons_succ]
              apply plan_no (j := 31) (t := 96) (b := false) (c := true) rfl rfl rfl rfl rfl (by simp) rfl
              simp only [List.setIfInBounds_toArray, List.set_cons_zero, List.set_cons_succ]
              apply plan_no (j := 31) (t := 96) (b := false) (c := true) rfl rfl rfl rfl rfl (by simp) rfl
              simp only [List.setIfInBounds_toArray, List.set_cons_zero, List.set_cons_succ]
              apply plan_no (j := 31) (t := 96) (b := false) (c := true) rfl rfl rfl rfl rfl (by simp) rfl
              simp only [List.setIfInBounds_toArray, List.set_cons_zero, List.set_cons_succ]
              apply plan_no (j := 31) (t := 96) (b := false) (c := true) rfl rfl rfl rfl rfl (by simp) rfl
              simp only [List.setIfInBounds_toArray, List.set_cons_zero, List.set_cons_succ]
              apply plan_no (j := 31) (t := 96) (b := false) (c := true) rfl rfl rfl rfl rfl (by simp) rfl
              simp only [List.setIfInBounds_toArray, List.set_cons_zero, List.set_cons_succ]
              apply plan_no (j := 31) (t := 96) (b := false) (c := true) rfl rfl rfl rfl rfl (by simp) rfl
              simp only [List.setIfInBounds_toArray, List.set_cons_zero, List.set_cons_succ]
              apply plan_no (j := 31) (t := 96) (b := false) (c := true) rfl rfl rfl rfl rfl (by simp) rfl
              simp only [List.setIfInBounds_toArray, List.set_cons_zero, List.set_cons_succ]
              apply plan_no (j := 31) (t := 96) (b := false) (c := true) rfl rfl rfl rfl rfl (by simp) rfl
              simp only [List.setIfInBounds_toArray, List.set_cons_zero, List.set_cons_succ]
              apply plan_gd (j := 19) (t := 84) (b := false) (c := false) rfl rfl rfl rfl rfl (by simp) rfl
              case hy =>
                rintro W' hb'
                clear hb'
                go_simp
                first | done | with_reducible rfl
              simp only [List.setIfInBounds_toArray, List.set_cons_zero, List.set_cons_succ]
              apply plan_gd (j := 7) (t := 72) (b := true) (c := true) rfl rfl rfl rfl rfl (by simp) rfl
              case hy =>
                rintro W' hb'
                clear hb'
                go_simp
                first | done | with_reducible rfl
              simp only [List.setIfInBounds_toArray, List.set_cons_zero, List.set_cons_succ]
              apply plan_gd (j := 4) (t := 69) (b := false) (c := false) rfl rfl rfl rfl rfl (by simp) rfl
              case hy =>
                rintro W' hb'
                clear hb'
                go_simp
                first | done | with_reducible rfl
              simp only [List.setIfInBounds_toArray, List.set_cons_zero, List.set_cons_succ]
              apply plan_take rfl rfl (by rfl)
              case hy =>
                rintro W' hb'
                clear hb'
                go_simp
                first | done | with_reducible rfl
              simp only [List.setIfInBounds_toArray, List.set_cons_zero, List.set_cons_succ]
              refine plan_fin ?_
              gi_wp2_with (fail)
              go_wp2_with (fail)
              go_roundw
              case rel => exact ⟨q + 1 + 1, by omega, by simp, HB.out.trans (HSX.out.mono HZ.out), HM.out.below HSX.out⟩
              case measure => simp [intOf]; omega
            · obtain rfl : fx = fy := heq
              have q3 : decide (0 ≤ cm) = false := decide_eq_false (by omega)
              have q4 : decide (fx < fx) = false := decide_eq_false (by omega)
              have q4' : decide ((fx : Int) < (fx : Int)) = false := decide_eq_false (by omega)
              clear hb hM hx hxw hxl hpos hfx hy hcy hyw hyl hfy hcm hneg
              go_wp2_with (fail)
              clear hcv
              refine (wpIn_wide (n := 20)).1 ?_
              refine wpIn_region_planN (fun W' => Below wj.heap.size wj W') (.take 0 <| .take 1 <| .take 2 <| .take 3 <| .take 4 <| .take 5 <| .take 6 <| .take 7 <| .take 8 <| .take 9 <| .take 10 <| .take 11 <| .take 12 <| .take 13 <| .take 14 <| .take 15 <| .take 16 <| .take 17 <| .take 18 <| .take 19 <| .take 20 <| .take 21 <| .take 22 <| .take 23 <| .take 24 <| .take 25 <| .take 26 <| .take 27 <| .take 28 <| .take 29 <| .take 30 <| .take 31 <| .take 32 <| .take 33 <| .take 34 <| .take 35 <| .take 36 <| .take 37 <| .one 38 <| .take 39 <| .take 40 <| .take 41 <| .take 42 <| .take 43 .fin) (fun _ => trivial) (by kernel_rfl) (by kernel_rfl) (show Below _ wj _ from bdrewN _ 1) ?_
              have HSX := Lib.hid (show Below wj.heap.size wj wj.drew from bdrewN _ 1)
              apply plan_take rfl rfl (by rfl)
              case hy =>
                rintro W' hb'
                clear hb'
                go_simp
                first | done | with_reducible rfl
              simp only [List.setIfInBounds_toArray, List.set_cons_zero, List.set_cons_succ]
              apply plan_take rfl rfl (by rfl)
              case hy =>
                rintro W' hb'
                clear hb'
                go_simp
                first | done | with_reducible rfl
              simp only [List.setIfInBounds_toArray, List.set_cons_zero, List.set_cons_succ]
              apply plan_take rfl rfl (by rfl)
              case hy =>
                rintro W' hb'
                have l0 := HL0.out W' hb'
                have l1 := HL1.out W' hb'
                clear hb'
                go_simp
                first | done | with_reducible rfl
              simp only [List.setIfInBounds_toArray, List.set_cons_zero, List.set_cons_succ]
              apply plan_take rfl rfl (by rfl)
              case hy =>
                rintro W' hb'
                clear hb'
                go_simp
                first | done | with_reducible rfl
              simp only [List.setIfInBounds_toArray, List.set_cons_zero, List.set_cons_succ]
              apply plan_take rfl rfl (by rfl)
              case hy =>
                rintro W' hb'
                clear hb'
                go_simp
                first | done | with_reducible rfl
              simp only [List.setIfInBounds_toArray, List.set_cons_zero, List.set_cons_succ]
              apply plan_gd (j := 4) (t := 69) (b := false) (c := false) rfl rfl rfl rfl rfl (by simp) rfl
              case hy =>
                rintro W' hb'
                clear hb'
                go_simp
                first | done | with_reducible rfl
              simp only [List.setIfInBounds_toArray, List.set_cons_zero, List.set_cons_succ]
              apply plan_gd (j := 4) (t := 69) (b := false) (c := false) rfl rfl rfl rfl rfl (by simp) rfl
              case hy =>
                rintro W' hb'
                clear hb'
                go_simp
                first | done | with_reducible rfl
              simp only [List.setIfInBounds_toArray, List.set_cons_zero, List.set_cons_succ]
              apply plan_gd (j := 4) (t := 69) (b := false) (c := false) rfl rfl rfl rfl rfl (by simp) rfl
              case hy =>
                rintro W' hb'
                clear hb'
                go_simp
                first | done | with_reducible rfl
              simp only [List.setIfInBounds_toArray, List.set_cons_zero, List.set_cons_succ]
              apply plan_gd (j := 7) (t := 72) (b := true) (c := true) rfl rfl rfl rfl rfl (by simp) rfl
              case hy =>
                rintro W' hb'
                clear hb'
                go_simp
                first | done | with_reducible rfl
              simp only [List.setIfInBounds_toArray, List.set_cons_zero, List.set_cons_succ]
              apply plan_gd (j := 7) (t := 72) (b := true) (c := true) rfl rfl rfl rfl rfl (by simp) rfl
              case hy =>
                rintro W' hb'
                clear hb'
                go_simp
                first | done | with_reducible rfl
              simp only [List.setIfInBounds_toArray, List.set_cons_zero, List.set_cons_succ]
              apply plan_gd (j := 7) (t := 72) (b := true) (c := true) rfl rfl rfl rfl rfl (by simp) rfl
              case hy =>
                rintro W' hb'
                clear hb'
                go_simp
                first | done | with_reducible rfl
              simp only [List.setIfInBounds_toArray, List.set_cons_zero, List.set_cons_succ]
              apply plan_gd (j := 7) (t := 72) (b := true) (c := true) rfl rfl rfl rfl rfl (by simp) rfl
              case hy =>
                rintro W' hb'
                clear hb'
                go_simp
                first | done | with_reducible rfl
              simp only [List.setIfInBounds_toArray, List.set_cons_zero, List.set_cons_succ]
              apply plan_gd (j := 7) (t := 72) (b := true) (c := true) rfl rfl rfl rfl rfl (by simp) rfl
              case hy =>
                rintro W' hb'
                clear hb'
                go_simp
                first | done | with_reducible rfl
              simp only [List.setIfInBounds_toArray, List.set_cons_zero, List.set_cons_succ]
              apply plan_gd (j := 7) (t := 72) (b := true) (c := true) rfl rfl rfl rfl rfl (by simp) rfl
              case hy =>
                rintro W' hb'
                have e0 := cell_keep hb' HCW.out
                have e1 := cell_keep hb' HCV.out
                clear hb'
                go_simp
                first | done | with_reducible rfl
              simp only [List.setIfInBounds_toArray, List.set_cons_zero, List.set_cons_succ]
              apply plan_gd (j := 7) (t := 72) (b := true) (c := true) rfl rfl rfl rfl rfl (by simp) rfl
              case hy =>
                rintro W' hb'
                have l0 := HL0.out W' hb'
                have l1 := HL1.out W' hb'
                clear hb'
                go_simp
                first | done | with_reducible rfl
              simp only [List.setIfInBounds_toArray, List.set_cons_zero, List.set_cons_succ]
              apply plan_gd (j := 7) (t := 72) (b := true) (c := true) rfl rfl rfl rfl rfl (by simp) rfl
              case hy =>
                rintro W' hb'
                clear hb'
                go_simp
                first | done | with_reducible rfl
              simp only [List.setIfInBounds_toArray, List.set_cons_zero, List.set_cons_succ]
              apply plan_gd (j := 7) (t := 72) (b := true) (c := true) rfl rfl rfl rfl rfl (by simp) rfl
              case hy =>
                rintro W' hb'
                clear hb'
                go_simp
                first | done | with_reducible rfl
              simp only [List.setIfInBounds_toArray, List.set_cons_zero, List.set_cons_succ]
              apply plan_gd (j := 7) (t := 72) (b := true) (c := true) rfl rfl rfl rfl rfl (by simp) rfl
              case hy =>
                rintro W' hb'
                have l0 := HL0.out W' hb'
                have l1 := HL1.out W' hb'
                clear hb'
                go_simp
                first | done | with_reducible rfl
              simp only [List.setIfInBounds_toArray, List.set_cons_zero, List.set_cons_succ]
              apply plan_gd (j := 7) (t := 72) (b := true) (c := true) rfl rfl rfl rfl rfl (by simp) rfl
              case hy =>
                rintro W' hb'
                clear hb'
                go_simp
                first | done | with_reducible rfl
              simp only [List.setIfInBounds_toArray, List.set_cons_zero, List.set_cons_succ]
              apply plan_gd (j := 7) (t := 72) (b := true) (c := true) rfl rfl rfl rfl rfl (by simp) rfl
              case hy =>
                rintro W' hb'
                clear hb'
                go_simp
                first | done | with_reducible rfl
              simp only [List.setIfInBounds_toArray, List.set_cons_zero, List.set_cons_succ]
              apply plan_gd (j := 19) (t := 84) (b := false) (c := false) rfl rfl rfl rfl rfl (by simp) rfl
              case hy =>
                rintro W' hb'
                clear hb'
                go_simp
                first | done | with_reducible rfl
              simp only [List.setIfInBounds_toArray, List.set_cons_zero, List.set_cons_succ]
              apply plan_gd (j := 19) (t := 84) (b := false) (c := false) rfl rfl rfl rfl rfl (by simp) rfl
              case hy =>
                rintro W' hb'
                clear hb'
                go_simp
                first | done | with_reducible rfl
              simp only [List.setIfInBounds_toArray, List.set_cons_zero, List.set_cons_succ]
              apply plan_gd (j := 19) (t := 84) (b := false) (c := false) rfl rfl rfl rfl rfl (by simp) rfl
              case hy =>
                rintro W' hb'
                clear hb'
                go_simp
                first | done | with_reducible rfl
              simp only [List.setIfInBounds_toArray, List.set_cons_zero, List.set_cons_succ]
              apply plan_gd (j := 19) (t := 84) (b := false) (c := false) rfl rfl rfl rfl rfl (by simp) rfl
              case hy =>
                rintro W' hb'
                clear hb'
                go_simp
                first | done | with_reducible rfl
              simp only [List.setIfInBounds_toArray, List.set_cons_zero, List.set_cons_succ]
              apply plan_gd (j := 19) (t := 84) (b := false) (c := false) rfl rfl rfl rfl rfl (by simp) rfl
              case hy =>
                rintro W' hb'
                clear hb'
                go_simp
                first | done | with_reducible rfl
              simp only [List.setIfInBounds_toArray, List.set_cons_zero, List.set_cons_succ]
              apply plan_gd (j := 19) (t := 84) (b := false) (c := false) rfl rfl rfl rfl rfl (by simp) rfl
              case hy =>
                rintro W' hb'
                have e0 := cell_keep hb' HCW.out
                have e1 := cell_keep hb' HCV.out
                clear hb'
                go_simp
                first | done | with_reducible rfl
              simp only [List.setIfInBounds_toArray, List.set_cons_zero, List.set_cons_succ]
              apply plan_gd (j := 19) (t := 84) (b := false) (c := false) rfl rfl rfl rfl rfl (by simp) rfl
              case hy =>
                rintro W' hb'
                have l0 := HL0.out W' hb'
                have l1 := HL1.out W' hb'
                clear hb'
                go_simp
                first | done | with_reducible rfl
              simp only [List.setIfInBounds_toArray, List.set_cons_zero, List.set_cons_succ]
              apply plan_gd (j := 19) (t := 84) (b := false) (c := false) rfl rfl rfl rfl rfl (by simp) rfl
              case hy =>
                rintro W' hb'
                clear hb'
                go_simp
                first | done | with_reducible rfl
              simp only [List.setIfInBounds_toArray, List.set_cons_zero, List.set_cons_succ]
              apply plan_gd (j := 19) (t := 84) (b := false) (c := false) rfl rfl rfl rfl rfl (by simp) rfl
              case hy =>
                rintro W' hb'
                clear hb'
                go_simp
                first | done | with_reducible rfl
              simp only [List.setIfInBounds_toArray, List.set_cons_zero, List.set_cons_succ]
              apply plan_gd (j := 19) (t := 84) (b := false) (c := false) rfl rfl rfl rfl rfl (by simp) rfl
              case hy =>
                rintro W' hb'
                have l0 := HL0.out W' hb'
                have l1 := HL1.out W' hb'
                clear hb'
                go_simp
                first | done | with_reducible rfl
              simp only [List.setIfInBounds_toArray, List.set_cons_zero, List.set_cons_succ]
              apply plan_gd (j := 19) (t := 84) (b := false) (c := false) rfl rfl rfl rfl rfl (by simp) rfl
              case hy =>
                rintro W' hb'
                clear hb'
                go_simp
                first | done | with_reducible rfl
              simp only [List.setIfInBounds_toArray, List.set_cons_zero, List.set_cons_succ]
              apply plan_gd (j := 19) (t := 84) (b := false) (c := false) rfl rfl rfl rfl rfl (by simp) rfl
              case hy =>
                rintro W' hb'
                clear hb'
                go_simp
                first | done | with_reducible rfl
              simp only [List.setIfInBounds_toArray, List.set_cons_zero, List.set_cons_succ]
              apply plan_gd (j := 31) (t := 96) (b := true) (c := true) rfl rfl rfl rfl rfl (by simp) rfl
              case hy =>
                rintro W' hb'
                clear hb'
                go_simp
                first | done | with_reducible rfl
              simp only [List.setIfInBounds_toArray, List.set_cons_zero, List.set_cons_succ]
              apply plan_gd (j := 31) (t := 96) (b := true) (c := true) rfl rfl rfl rfl rfl (by simp) rfl
              case hy =>
                rintro W' hb'
                clear hb'
                go_simp
                first | done | with_reducible rfl
              simp only [List.setIfInBounds_toArray, List.set_cons_zero, List.set_cons_succ]
              apply plan_gd (j := 31) (t := 96) (b := true) (c := true) rfl rfl rfl rfl rfl (by simp) rfl
              case hy =>
                rintro W' hb'
                clear hb'
                go_simp
                first | done | with_reducible rfl
              simp only [List.setIfInBounds_toArray, List.set_cons_zero, List.set_cons_succ]
              apply plan_gd (j := 31) (t := 96) (b := true) (c := true) rfl rfl rfl rfl rfl (by simp) rfl
              case hy =>
                rintro W' hb'
                clear hb'
                go_simp
                first | done | with_reducible rfl
              simp only [List.setIfInBounds_toArray, List.set_cons_zero, List.set_cons_succ]
              apply plan_gd (j := 31) (t := 96) (b := true) (c := true) rfl rfl rfl rfl rfl (by simp) rfl
              case hy =>
                rintro W' hb'
                have e0 := cell_keep hb' HCW.out
                have e1 := cell_keep hb' HCV.out
                clear hb'
                go_simp
                first | done | with_reducible rfl
              simp only [List.setIfInBounds_toArray, List.set_cons_zero, List.set_cons_succ]
              apply plan_gd (j := 31) (t := 96) (b := true) (c := true) rfl rfl rfl rfl rfl (by simp) rfl
              case hy =>
                rintro W' hb'
                clear hb'
                go_simp
                first | done | with_reducible rfl
              simp only [List.setIfInBounds_toArray, List.set_cons_zero, List.set_cons_succ]
              refine plan_one rfl ?_
              gi_wp2_with (fail)
              refine ⟨trivial, (callsIn_wide.2 (HCM.out _ HSX.out)).mono ?_⟩
              rintro e W9 ⟨rfl, hb9⟩
              have HSX := Lib.hid (bstep HSX.out hb9)
              clear hb9
              gi_wp2_with (fail)
              refine ⟨HSX.out, ?_⟩
              apply plan_gd (j := 31) (t := 96) (b := true) (c := true) rfl rfl rfl rfl rfl (by simp) rfl
              case hy =>
                rintro W' hb'
                clear hb'
                go_simp
                first | done | with_reducible rfl
              simp only [List.setIfInBounds_toArray, List.set_cons_zero, List.set_cons_succ]
              apply plan_gd (j := 19) (t := 84) (b := false) (c := false) rfl rfl rfl rfl rfl (by simp) rfl
              case hy =>
                rintro W' hb'
                clear hb'
                go_simp
                first | done | with_reducible rfl
              simp only [List.setIfInBounds_toArray, List.set_cons_zero, List.set_cons_succ]
              apply plan_gd (j := 7) (t := 72) (b := true) (c := true) rfl rfl rfl rfl rfl (by simp) rfl
              case hy =>
                rintro W' hb'
                clear hb'
                go_simp
                first | done | with_reducible rfl
              simp only [List.setIfInBounds_toArray, List.set_cons_zero, List.set_cons_succ]
              apply plan_gd (j := 4) (t := 69) (b := false) (c := false) rfl rfl rfl rfl rfl (by simp) rfl
              case hy =>
                rintro W' hb'
                clear hb'
                go_simp
                first | done | with_reducible rfl
              simp only [List.setIfInBounds_toArray, List.set_cons_zero, List.set_cons_succ]
              apply plan_take rfl rfl (by rfl)
              case hy =>
                rintro W' hb'
                clear hb'
                go_simp
                first | done | with_reducible rfl
              simp only [List.setIfInBounds_toArray, List.set_cons_zero, List.set_cons_succ]
              refine plan_fin ?_
              gi_wp2_with (fail)
              go_wp2_with (fail)
              go_roundw
              case rel => exact ⟨q + 1 + 1, by omega, by simp, HB.out.trans (HSX.out.mono HZ.out), HM.out.below HSX.out⟩
              case measure => simp [intOf]; omega
        · obtain rfl : j = i := by omega
          obtain ⟨w5, cnt0, hrg, hmw, hgr, hsz5, hcn0⟩ := hM.range
          replace hrg : (Instr.range 45 (.map (some bm))).run Tryz.prog wj = .ok (.pointer (some ⟨wj.heap.size, 0, none⟩)) w5 := hrg
          obtain ⟨rr, hrr⟩ : ∃ r, wj.heap.size = r := ⟨_, rfl⟩
          rw [hrr] at hrg hmw hsz5
          have HRR5 := Lib.hid hrr
          have HMW := Lib.hid hmw
          have HB5 := Lib.hid (HB.out.grown hgr HZ.out fun k hk => by cases hk)
          clear hb hM hmw hgr hrr
          go_wp2_with (fail)
          try rw [HRR5.out]
          clear hrg
          go_loopw [13] (fun _ wr => ∃ (left : Str → Bool) (cnt : Nat), MapW tSI wr bm rr n (cntV l) left cnt ∧ Below bm W4 wr) (fun _ wr => wr.rangeLeft bm rr)
          case atStart => exact ⟨_, _, HMW.out, HB5.out⟩
          case round =>
            clear HMW HB5
            obtain ⟨wk, rfl⟩ : ∃ wk : World, wk = wr := ⟨_, rfl⟩
            obtain ⟨left, cnt, hR, hb⟩ := hrel
            have HBK := Lib.hid hb
            rcases hR.next 0 with ⟨_, _, hrun⟩ | ⟨s, v, W2, cnt', hfit, hls, hfs, hrun, hm2, hlt, hg2, hs2, hen⟩
            · replace hrun : (Instr.next (.pointer (some ⟨rr, 0, none⟩)) false 0).run Tryz.prog wk = .ok (.tuple #[.bool false]) wk := hrun
              have HBX := Lib.hid (bstep HBX.out (HBK.out.mono (Nat.le_of_eq HBM.out)))
              clear hR hb
              go_wp2_with (fail)
              refine (HA.out _ HBX.out).mono ?_
              rintro e W9 ⟨rfl, hb9⟩
              have HBX := Lib.hid (bstep HBX.out hb9)
              clear hb9
              go_wp2_with (fail)
              go_ret
              exact ⟨rfl, HBX.out⟩
            · have hle := hR.left_eq
              have hsw : s ∈ wordsF l := by
                unfold cntV at hfs
                by_cases h : s ∈ wordsF l
                · exact h
                · rw [if_neg h] at hfs; cases hfs
              have hvs : v = .int .i64 (cntW l s : Nat) := by
                unfold cntV at hfs
                rw [if_pos hsw] at hfs
                exact (Option.some.inj hfs).symm
              subst hvs
              obtain ⟨fs, hfe⟩ : ∃ k, cntW l s = k := ⟨_, rfl⟩
              rw [hfe] at hrun hen
              replace hrun : (Instr.next (.pointer (some ⟨rr, 0, none⟩)) false 0).run Tryz.prog wk = .ok (.tuple #[.bool true, .string (bs s), .int .i64 (fs : Nat)]) W2 := hrun
              replace hen : (Instr.entry (.pointer (some ⟨rr, 0, none⟩))).run Tryz.prog W2 = .ok (.tuple #[.string (bs s), .int .i64 (fs : Nat)]) W2 := hen
              have HM2 := Lib.hid hm2
              have HB2 := Lib.hid (show Below bm W4 W2 from hb.grown hg2 (by have := hb.size; have := HBM.out; omega) fun k hk => by
                cases hk
                have := HRR5.out
                have := HZ.out
                omega)
              have HLE := Lib.hid (show W2.rangeLeft bm rr < wk.rangeLeft bm rr by rw [hle, hm2.left_eq]; exact hlt)
              have HR2 := Lib.hid (HR4.out.mono (Nat.le_of_eq HBM.out) HB2.out)
              have HCT := Lib.hid (contS r s ar j cr W2 HR2.out)
              by_cases hmem : s ∈ r
              · rw [decide_eq_true hmem] at HCT
                clear hR hb hfit hls hfs hm2 hlt hg2 hs2 hle hsw hfe hmem
                go_wp2_with (fail)
                refine HCT.out.mono ?_
                rintro e W3 ⟨rfl, rfl⟩
                go_wp2_with (fail)
                exact ⟨⟨_, _, HM2.out, HB2.out⟩, HLE.out⟩
              · rw [decide_eq_false hmem] at HCT
                by_cases hj0 : j = 0
                · have q1 : decide ((0 : Int) < (j : Int)) = false := decide_eq_false (by omega)
                  have q1' : decide (0 < j) = false := decide_eq_false (by omega)
                  clear hR hb hfit hls hfs hm2 hlt hg2 hs2 hle hsw hfe hmem hj0
                  go_wp2_with (fail)
                  refine HCT.out.mono ?_
                  rintro e W3 ⟨rfl, rfl⟩
                  go_wp2_with (fail)
                  exact ⟨⟨_, _, HM2.out, HB2.out⟩, HLE.out⟩
                · obtain ⟨j', hj'⟩ : ∃ j', j = j' + 1 := ⟨j - 1, by omega⟩
                  obtain ⟨y, b, off, v, hy, rfl, hcy, rfl, _⟩ := Sl.at HR2.out (show j' < j by omega)
                  unfold sv at hcy
                  have hyw : y ∈ wordsF l := by
                    have := List.mem_of_getElem? hy
                    rw [← HRR.out] at this
                    exact freqS_mem.1 (List.mem_of_mem_take this)
                  have hyl := HWS.out y hyw
                  have hres := freqL_rest (l := l) (k := k) (i := j') (by rw [HRR.out, HJ.out]; exact hj') (by rw [HRR.out]; exact hy) hsw (by rw [HRR.out]; exact hmem)
                  obtain ⟨fy, hfy⟩ : ∃ k, cntW l y = k := ⟨_, rfl⟩
                  rw [hfe, hfy] at hres
                  have hly : (Instr.lookup 45 (.map (some bm)) (.string (bs y)) false).run Tryz.prog W2 = .ok (.int .i64 (fy : Nat)) W2 := by
                    rw [← hfy]
                    exact lookSI HM2.out.map (cntV_get l) (by unfold maxLen; omega)
                  have q0 : decide ((0 : Int) < (j : Int)) = true := decide_eq_true (by omega)
                  have q0' : decide (0 < j) = true := decide_eq_true (by omega)
                  have q1 : decide ((fy : Int) < (fs : Int)) = false := decide_eq_false (by omega)
                  have q1' : decide (fy < fs) = false := decide_eq_false (by omega)
                  have w1 : IntKind.i64.wrap ((j : Int) - 1) = (j' : Int) := by rw [show (j : Int) - 1 = (j' : Int) by omega]; exact IntWalk.i64_in _ (by omega)
                  have w2 : wrap64 ((j : Int) - 1) = (j' : Int) := by rw [show (j : Int) - 1 = (j' : Int) by omega]; exact IntWalk.wrap64_in _ (by omega)
                  have i2 : (j' : Int) < (j : Int) := by omega
                  have i3 : (0 : Int) ≤ (j' : Int) := by omega
                  clear hR hb hfit hls hfs hm2 hlt hg2 hs2 hle hsw hfe hmem hj0 hy hyw hyl hres hfy hj'
                  go_wp2_with (fail)
                  refine HCT.out.mono ?_
                  rintro e W3 ⟨rfl, rfl⟩
                  go_wp2_with (fail)
                  exact ⟨⟨_, _, HM2.out, HB2.out⟩, HLE.out⟩
theorem law4r (a : Option Addr) (n c : Nat) (l : List Post) (z : Int) (w : World) (h : Posts w a n l ∧ n ≤ c) (hz : 0 ≤ z ∧ z ≤ 255) (ht : ET w) :
    Calls Tryz.prog 4 #[.slice a n c, .int .u8 z] w fun e w' => e = .returned (.bool true) ∧ Below w.heap.size w w' := law4 a n c l z w h.1 hz ht
end Go.Proofs.YtngdmpkoedpgdaaGreatDoor
