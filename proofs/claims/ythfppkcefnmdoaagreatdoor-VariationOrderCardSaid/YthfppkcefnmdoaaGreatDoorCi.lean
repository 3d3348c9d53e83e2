/-
  The iterator over the columns of some sources: what it yields are rows of its own.
-/
import Derived.Test.YthfppkcefnmdoaaGreatDoorRfF
import Derived.Test.YthfppkcefnmdoaaGreatDoorSr
import Derived.Test.YthfppkcefnmdoaaGreatDoorPp
namespace Go.Ap
open Go Go.RowKit
def ordL (f : Nat → Nat) (n : Nat) : List Int := (List.range n).map fun k => ((f k : Nat) : Int)
theorem ordL_nth {f : Nat → Nat} {n k : Nat} (h : k < n) : nth (ordL f n) k = ((f k : Nat) : Int) := by simp [ordL, nth, h]
theorem ordL_len (f : Nat → Nat) (n : Nat) : (ordL f n).length = n := by simp [ordL]
/-- one of the first j has a token -/
def anyN (f : Nat → Nat) (c : List Int) (j : Nat) : Bool := (List.range j).any fun k => decide (nth c (f k) ≥ 0)
theorem anyN_zero (f : Nat → Nat) (c : List Int) : anyN f c 0 = false := rfl
theorem anyN_succ (f : Nat → Nat) (c : List Int) (j : Nat) : anyN f c (j + 1) = (anyN f c j || decide (nth c (f j) ≥ 0)) := by
  unfold anyN
  rw [List.range_succ, List.any_append]
  simp
theorem anyN_all {x : Coll} {f : Nat → Nat} (hv : Val x) (hf : Inv x.sigla.length f) {i : Nat} {c : List Int} (hc : x.columns[i]? = some c) : anyN f c x.sigla.length = true := by
  obtain ⟨_, k, hk, hne⟩ := hv.somes hc
  refine List.any_eq_true.2 ⟨f k, List.mem_range.2 (hf.lt k hk), decide_eq_true ?_⟩
  rw [hf.inv]
  have hr := hv.cols c (List.mem_of_getElem? hc)
  rcases hr.2 k (by rw [lensT_len, hv.toks]; exact hk) with h | h
  · exact absurd h hne
  · exact h.1
end Go.Ap
namespace Go.Proofs.YthfppkcefnmdoaaGreatDoor
open Go.RowKit Go.Ap Go.Shelf Go.Proofs

attribute [local go_sem] Oper.semAt_some bs_toList empty_toList bs_size bs_extract
set_option maxRecDepth 100000 in
set_option maxHeartbeats 8000000 in
theorem cols_tells (m : Nat) (hm : 1 ≤ m) (x : Coll) (a1 : Option Addr) (n1 c1 : Nat) (a2 : Option Addr) (n2 c2 : Nat) (a3 : Option Addr) (n3 c3 : Nat) (ao : Option Addr) (co : Nat) (f : Nat → Nat) (w w0 : World) (hx : CollM w0 a1 a2 a3 n1 n2 n3 x) (hv : Val x) (hf : Inv x.sigla.length f) (ho : Ints w0 ao n1 (ordL f n1))
    (Bx By : Nat) (hb0 : Below w0.heap.size w0 w) (hBx : Bx < w.heap.size) (hBy : By < w.heap.size)
    (hbx : BoxC w Bx x.sec a1 n1 c1 a2 n2 c2 a3 n3 c3) (hby : w.cell? ⟨By, 0, none⟩ = some (.slice ao n1 co)) :
    SeqTells Fence.wide m Tryz.prog 122 #[.pointer (some ⟨Bx, 0, none⟩), .pointer (some ⟨By, 0, none⟩)] (fun r : Nat × Value => #[Value.int .i64 (r.1 : Int), r.2]) (KeepR w0.heap.size Bx By)
      (fun r W => ∃ c, x.columns[r.1]? = some c ∧ OwnI 3 W w.heap.size r.2 (perL f c n1)) (fun ys => ys.map (·.1) = List.range n3) n3 w := by
  intro l J W hW hJ hY h0
  obtain ⟨i9, hi9, hy0, hy1, hy2⟩ := info_parts infoInt
  have hl1 := hx.sigla.len
  have hl3 := hx.columns.len
  have hs3 := hx.columns.small
  have hle := hv.le
  have hpos := hv.pos
  rw [hl1] at hf hle hpos
  obtain ⟨bo, oo, rfl, HOC0⟩ := Ints.at ho hpos
  have HJ := Lib.hid hJ
  have HBX := Lib.hid (hbx.below hW)
  have HBY := Lib.hid ((cell_keep hW hby))
  have HY := Lib.hid (show ∀ pre (r : Nat × Value) W1, J pre W1 → pre.length < n3 → (∃ c, x.columns[r.1]? = some c ∧ OwnI 3 W1 w.heap.size r.2 (perL f c n1)) → YieldAt Fence.wide (m - 1) Tryz.prog l #[.int .i64 (r.1 : Int), r.2] W1 fun en W' => ∃ b, en = .returned (.bool b) ∧ (b = true ∧ J (pre ++ [r]) W' ∧ KeepR w0.heap.size Bx By W1 W') from fun pre x W1 h1 h2 h3 => (hY pre x W1 h1 h2 h3).mono fun en W' h => ⟨true, h.1, rfl, h.2⟩)
  have HCF := Lib.hid (show ∀ i, i < n3 → ∃ c b o bc oc cc, x.columns[i]? = some c ∧ a3 = some ⟨b, o, none⟩ ∧ w0.cell? ⟨b, o + i, none⟩ = some (.slice (some ⟨bc, oc, none⟩) n1 cc) ∧ (∀ s, s < n1 → w0.cell? ⟨bc, oc + s, none⟩ = some (.int .i64 (nth c s))) ∧ c.length = n1 ∧ (∀ s, s < n1 → I64 (nth c s)) ∧ anyN f c n1 = true from fun i hi => by
    obtain ⟨c, b, off, v, hc, hab, hcv, a', n', c', rfl, hI⟩ := hx.columns.at hi
    have hcl := (hv.somes hc).1
    have hln := hI.len
    obtain ⟨bc, oc, rfl, hcc⟩ := Ints.at hI (by omega)
    obtain rfl : n' = n1 := by omega
    refine ⟨c, b, off, bc, oc, c', hc, hab, hcv, hcc, by omega, fun s hs => hI.i64 (by omega), ?_⟩
    have := anyN_all hv (by rw [hl1]; exact hf) hc
    rwa [hl1] at this)
  have HWW := Lib.hid (hb0.trans (hW.mono hb0.size))
  have HBS := Lib.hid (show w0.heap.size ≤ W.heap.size ∧ Bx < W.heap.size ∧ By < W.heap.size from ⟨Nat.le_trans hb0.size hW.size, Nat.lt_of_lt_of_le hBx hW.size, Nat.lt_of_lt_of_le hBy hW.size⟩)
  have HWS := Lib.hid hW.size
  have HFL := Lib.hid hf.lt
  have HOC := Lib.hid HOC0
  clear hY hx hJ hbx hby hv ho hf hb0 hW hBx hBy HOC0
  refine callsIn_of_wp Tryz.func122 rfl trivial ?_ rfl
  simp only [Tryz.ntmps122, List.size_toArray, List.length_cons, List.length_nil, Nat.reduceAdd, Nat.reduceSub, Array.replicate_succ, Array.replicate_zero, List.push_toArray, List.append_toArray, List.nil_append, List.cons_append]
  obtain ⟨g0, g1, g2, g3⟩ := HBX.out
  gi_wp2
  clear g0 g1 g2 g3
  gi_loopw [13] (fun fv wr => ∃ (k : Nat) (pre : List (Nat × Value)), k ≤ n3 ∧ fv = .int .i64 k ∧ pre.map (·.1) = List.range k ∧ J pre wr ∧ KeepR w0.heap.size Bx By W wr)
    (fun fv _ => n3 - (intOf fv).toNat)
  case atStart => exact ⟨0, [], Nat.zero_le _, rfl, rfl, h0, KeepR.refl _ _ _ _⟩
  case round =>
    obtain ⟨wo, rfl⟩ : ∃ wo : World, wo = wr := ⟨_, rfl⟩
    obtain ⟨k, pre, hk, rfl, hpre, hJp, hkr⟩ := hrel
    have HPRE := Lib.hid hpre
    have HJP := Lib.hid hJp
    have HKR := Lib.hid hkr
    have hszk := hkr.size
    have y0 := (hkr.cell (.inr (.inr rfl))).trans HBY.out
    clear hpre hJp hkr
    by_cases hkn : k < n3
    · obtain ⟨c, b, o, bc, oc, cc, hc, rfl, hcv, hcs, hcl, hci, hca⟩ := HCF.out k hkn
      have HC := Lib.hid hc
      have HCS := Lib.hid hcs
      have HCI := Lib.hid hci
      have HCA := Lib.hid hca
      have HCL := Lib.hid hcl
      have v0 := cell_keep (HWW.out.trans HKR.out.below) hcv
      clear hc hcs hci hca hcl hcv
      gi_wp2_with (fail)
      clear v0
      gi_loopw [20, 6, 7] (fun jv vv bv wk => ∃ j : Nat, j ≤ n1 ∧ jv = .int .i64 j ∧ OwnI 3 wk wo.heap.size vv (perL f c j) ∧ bv = .bool (anyN f c j) ∧ Below wo.heap.size wo wk)
        (fun jv _ _ _ => n1 - (intOf jv).toNat)
      case atStart => exact ⟨0, Nat.zero_le _, rfl, ⟨World.ownsRow_nil _ _ _ _, fun x hx => by cases hx⟩, by rw [anyN_zero], Below.refl _ _⟩
      case round =>
        obtain ⟨j, hj, rfl, hO, rfl, hbk⟩ := hrel
        have HO := Lib.hid hO
        have HBK := Lib.hid hbk
        have hszb := hbk.size
        clear hO hbk
        by_cases hjn : j < n1
        · have hfj := HFL.out j hjn
          have HBW := Lib.hid (HWW.out.trans (HKR.out.below.trans (HBK.out.mono (Nat.le_trans HBS.out.1 hszk))))
          have v1 := cell_keep HBW.out (HOC.out j hjn)
          rw [ordL_nth hjn] at v1
          have v2 := cell_keep HBW.out (HCS.out (f j) hfj)
          have v3 := (cell_keep HBK.out y0)
          have hiy := HCI.out (f j) hfj
          have hcy := HCS.out (f j) hfj
          have HPS := Lib.hid (perL_succ (f := f) (l := c) (n := j) (show c[f j]? = some (nth c (f j)) by rw [nth_eq (by rw [HCL.out]; exact hfj)]; exact List.getElem?_eq_getElem _))
          have HAS := Lib.hid (anyN_succ f c j)
          obtain ⟨y, hy⟩ : ∃ y, nth c (f j) = y := ⟨_, rfl⟩
          obtain ⟨fj, hfj2⟩ : ∃ k, f j = k := ⟨_, rfl⟩
          rw [hy] at v2 hiy HPS HAS hcy
          rw [hfj2] at v1 v2 hfj hcy
          have HCY := Lib.hid hcy
          obtain ⟨p, hp⟩ : ∃ p, perL f c j = p := ⟨_, rfl⟩
          rw [hp] at HO HPS
          have hpl : p.length = j := by rw [← hp]; exact perL_len fun t ht => by rw [HCL.out]; exact HFL.out t (by omega)
          have i1 : (j : Int) < (n1 : Int) := by omega
          have i2 : (fj : Int) < (n1 : Int) := by omega
          have HZ := Lib.hid (show wr.ownsRow wo.heap.size 3 1 _ j (p.map (Value.int .i64)) by have := HO.out.1; rwa [hpl] at this)
          have HPL := Lib.hid hpl
          have HIY := Lib.hid hiy
          have HWO := Lib.hid (show wo.heap.size ≤ wr.heap.size from hszb)
          have HLE := Lib.hid (show w0.heap.size ≤ wo.heap.size from Nat.le_trans HBS.out.1 hszk)
          clear hy hfj2 hp hpl hcy hiy
          cases ha : anyN f c j
          · have HA := Lib.hid ha
            rw [ha] at HAS
            clear ha
            cases hg : decide (y ≥ 0)
            all_goals
              rw [hg] at HAS
              gi_wp2_with (gi_at_builtin; refine wpListIn_append_own _ rfl _ _ 37 rfl wo.heap.size 3 i9 (.int .i64 0) 1 8 Tryz.underlying37 hi9 hy0 hy1 hy2 rfl (by decide) _ _ _ rfl (HZ.out.alloc _) ⟨wr.heap.size, 0, none⟩ 1 1 [.int .i64 y] rfl rfl (cell_one_new _ _ _) (by simp [Value.oneCell']) (by unfold maxLen; omega) (by omega) (by simp; omega) ?_; intro v9 w4 hown1 hgrow1 _; have HJJ := Lib.hid (OwnI.pushed (x := y) HO.out HIY.out HWO.out (by rw [HPL.out]; exact hown1) hgrow1); have v4 := cell_keep (HBW.out.trans (HJJ.out.2.mono HLE.out)) HCY.out; clear hown1 hgrow1)
              exact ⟨⟨j + 1, by omega, by simp, by rw [HPS.out]; exact HJJ.out.1, by rw [HAS.out]; rfl, HBK.out.trans HJJ.out.2⟩, by simp [intOf]; omega⟩
          · have HA := Lib.hid ha
            rw [ha] at HAS
            clear ha
            gi_wp2_with (gi_at_builtin; refine wpListIn_append_own _ rfl _ _ 37 rfl wo.heap.size 3 i9 (.int .i64 0) 1 8 Tryz.underlying37 hi9 hy0 hy1 hy2 rfl (by decide) _ _ _ rfl (HZ.out.alloc _) ⟨wr.heap.size, 0, none⟩ 1 1 [.int .i64 y] rfl rfl (cell_one_new _ _ _) (by simp [Value.oneCell']) (by unfold maxLen; omega) (by omega) (by simp; omega) ?_; intro v9 w4 hown1 hgrow1 _; have HJJ := Lib.hid (OwnI.pushed (x := y) HO.out HIY.out HWO.out (by rw [HPL.out]; exact hown1) hgrow1); clear hown1 hgrow1)
            exact ⟨⟨j + 1, by omega, by simp, by rw [HPS.out]; exact HJJ.out.1, by rw [HAS.out]; rfl, HBK.out.trans HJJ.out.2⟩, by simp [intOf]; omega⟩
        · obtain rfl : j = n1 := by omega
          have hb := HCA.out
          rw [hb]
          have HJ1 := Lib.hid (HJ.out _ _ _ none HJP.out (grown_of_below HBK.out) (by simp))
          have HK1 := Lib.hid (show KeepR w0.heap.size Bx By W wr from HKR.out.trans (KeepR.of_below HBK.out (Nat.le_trans HBS.out.1 hszk) (Nat.lt_of_lt_of_le HBS.out.2.1 hszk) (Nat.lt_of_lt_of_le HBS.out.2.2 hszk)))
          obtain ⟨fn, tmps, assign, body, hy, hR⟩ := HY.out pre (k, _) _ HJ1.out (by rw [← List.length_map (·.1), HPRE.out, List.length_range]; exact hkn) ⟨c, HC.out, HO.out.mono (Nat.le_trans HWS.out hszk)⟩
          gi_wp2_with (refine hR.mono ?_; rintro en W5 ⟨ans, rfl, rfl, hJ3, hK3⟩)
          exact ⟨⟨k + 1, _, by omega, by simp, by rw [List.map_append, HPRE.out, List.range_succ]; rfl, hJ3, HK1.out.trans hK3⟩, by simp [intOf]; omega⟩
    · have HZ := Lib.hid (show List.range n3 = pre.map (·.1) by rw [HPRE.out]; congr 1; omega)
      gi_wp2_with (fail)
      go_end0
      exact ⟨⟨_, rfl⟩, pre, HZ.out.symm, HJP.out⟩
end Go.Proofs.YthfppkcefnmdoaaGreatDoor
