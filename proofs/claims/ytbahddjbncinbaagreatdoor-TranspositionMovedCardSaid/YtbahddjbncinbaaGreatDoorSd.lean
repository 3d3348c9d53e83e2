/-
  slices.Sorted of slices.Values, of ints.
-/
import Derived.Test.YtbahddjbncinbaaGreatDoorCg
import Derived.Test.YtbahddjbncinbaaGreatDoorShelf
import Derived.Sort.OwnSorted
import Derived.Lib.SlKeysI
import Derived.RangeFuncBox
import Derived.Maps.AppendAt
namespace Go.Ap
open Go Go.RowKit
def sortI (l : List Int) : List Int := l.mergeSort fun x y => decide (x ≤ y)
theorem sortI_perm (l : List Int) : (sortI l).Perm l := List.mergeSort_perm _ _
theorem sortI_cast (ks : List Nat) : sortI (ks.map fun k => ((k : Nat) : Int)) = (sortN ks).map fun k => ((k : Nat) : Int) := by
  unfold sortI sortN
  exact (List.map_mergeSort (r := fun x y : Nat => decide (x ≤ y)) (f := fun k : Nat => (k : Int)) (s := fun x y : Int => decide (x ≤ y)) fun a _ b _ => by simp).symm
end Go.Ap
namespace Go.Proofs.YtbahddjbncinbaaGreatDoor
open Go.RowKit Go.Ap Go.Shelf Go.Proofs Go.Sort

attribute [local go_sem] Oper.semAt_some bs_toList empty_toList bs_size bs_extract
theorem sortOwn (base : Nat) (v : Value) (xs : List Int) (w : World) (hw : base ≤ w.heap.size) (ho : OwnI 3 w base v xs) (hl : xs.length ≤ 1000000) :
    ∃ a c, v = .slice a xs.length c ∧ Calls Tryz.prog 80 #[.slice a xs.length c] w fun e w' => e = .returned (.tuple #[]) ∧ OwnI 3 w' base v (Go.Ap.sortI xs) ∧ Below base w w' := by
  rcases Nat.eq_zero_or_pos xs.length with h0 | h0
  · have hx : xs = [] := List.eq_nil_of_length_eq_zero h0
    subst hx
    obtain ⟨a, c, rfl, _⟩ := ho.ints (by simp)
    refine ⟨a, c, rfl, (Tryz.slices_Sort_int_none a c w).mono ?_⟩
    rintro e w' ⟨rfl, rfl⟩
    exact ⟨rfl, by simpa [Go.Ap.sortI] using ho, Below.refl _ _⟩
  · rcases ho.1.2 with ⟨_, hz⟩ | ⟨gb, cap, cur, rfl, hbase, hgb, r1, r2, r3, r4⟩
    · omega
    · have hH : Go.Sort.Holds (Value.int .i64) w gb 0 xs.toArray := holds_of_block_i hgb (by simpa using r4)
      have hgl : gb < w.heap.size := (Array.getElem?_eq_some_iff.1 hgb).1
      refine ⟨_, cap, rfl, (Tryz.slices_Sort_int gb 0 cap xs w hH hgl (by omega)).mono ?_⟩
      rintro e w' ⟨rfl, nn, os, rfl⟩
      have hp := Go.Ap.sortI_perm xs
      have hs := ownsRow_sorted_i (w := w) (n := nn) (os := os) (ts := Go.Ap.sortI xs) (ss := xs) (hp.length_eq) hbase hgb r1 r2 r3
      refine ⟨rfl, ⟨?_, fun x hx => ho.2 x (hp.mem_iff.1 hx)⟩, (Below.refl _ _).grown (grownBy_sorted_i _) hw fun r he => by cases he; exact hbase⟩
      rw [hp.length_eq]
      exact hs
set_option maxRecDepth 100000 in
set_option maxHeartbeats 1000000 in
theorem values81 (F : Fence) (hF : F = Fence.wide) (m : Nat) (hm : 1 ≤ m) (l Bn n₀ n c : Nat) (a : Option Addr) (xs : List Int) (J Jx : List Int → World → Prop)
    (hY : ∀ pre x W, J pre W → pre.length < xs.length → YieldAt F (m - 1) Tryz.prog l #[.int .i64 x] W fun e W' =>
      (e = .returned (.bool true) ∧ J (pre ++ [x]) W' ∧ Below n₀ W W') ∨ (e = .returned (.bool false) ∧ Jx (pre ++ [x]) W'))
    (W w0 : World) (hw0 : n₀ = w0.heap.size) (hwW : Below n₀ w0 W) (hxs : Ints w0 a n xs)
    (hBn : W.cell? ⟨Bn, 0, none⟩ = some (.slice a n c)) (h0 : J [] W) :
    CallsIn F m Tryz.prog 81 #[.func (.yield l) #[] #[], .pointer (some ⟨Bn, 0, none⟩)] W fun e W' => (∃ v, e = .returned v) ∧
      ((∃ ys, ys = xs ∧ J ys W') ∨ (∃ pre, pre <+: xs ∧ Jx pre W')) := by
  subst hF
  have hsm := hxs.small
  have HX := Lib.hid hxs
  have HL := Lib.hid hxs.len
  have HY := Lib.hid hY
  clear hxs hY
  refine callsIn_of_wp Tryz.func81 rfl trivial ?_ rfl
  simp only [Tryz.ntmps81, List.size_toArray, List.length_cons, List.length_nil, Nat.reduceAdd, Nat.reduceSub, Array.replicate_succ, Array.replicate_zero, List.push_toArray, List.append_toArray, List.nil_append, List.cons_append]
  gi_wp2_with (fail)
  gi_loopw [7] (fun i wr => ∃ k : Nat, k ≤ n ∧ i = .int .i64 k ∧ J (xs.take k) wr ∧ Below n₀ W wr)
    (fun i _ => n - (intOf i).toNat)
  case atStart => exact ⟨0, Nat.zero_le _, rfl, by simpa using h0, Below.refl _ _⟩
  case round =>
    obtain ⟨k, hk, rfl, hJs, hnx⟩ := hrel
    have HJs := Lib.hid hJs
    have HNX := Lib.hid hnx
    by_cases hlt : k < n
    · obtain ⟨z, b, o, v, hz, rfl, hz1, rfl, hi⟩ := Sl.at HX.out hlt
      have c1 := cell_keep (by rw [← hw0]; exact hwW.trans hnx) hz1
      obtain ⟨fn, tmps, assign, body, hy, hR⟩ := HY.out _ z wr hJs (by rw [List.length_take, HL.out]; omega)
      have HT := Lib.hid (show xs.take (k + 1) = xs.take k ++ [z] by rw [List.take_add_one, hz]; rfl)
      have i1 : (k : Int) < (n : Int) := by omega
      clear hz hz1 hJs hnx
      gi_wp2_with (fail)
      refine hR.mono ?_
      rintro e W3 (⟨rfl, hJ3, hk3⟩ | ⟨rfl, hJx3⟩)
      · have HJ3 := Lib.hid hJ3
        have HK3 := Lib.hid hk3
        clear hJ3 hk3
        gi_wp2_with (fail)
        go_roundw
        case rel => exact ⟨k + 1, by omega, by simp, by rw [HT.out]; exact HJ3.out, HNX.out.trans HK3.out⟩
        case measure => simp [intOf]; omega
      · gi_wp2_with (fail)
        refine bodyPost_ret (results_none rfl _ _ _) rfl ?_
        exact ⟨⟨_, rfl⟩, .inr ⟨_, by rw [← HT.out]; exact List.take_prefix _ _, hJx3⟩⟩
    · obtain rfl : n = k := by omega
      have HT := Lib.hid (show xs.take n = xs from List.take_of_length_le (by rw [HL.out]; exact Nat.le_refl _))
      clear hJs hnx
      gi_wp2
      go_end0
      exact ⟨⟨_, rfl⟩, .inl ⟨_, rfl, by have := HJs.out; rwa [HT.out] at this⟩⟩
theorem values_stops (a : Option Addr) (n c : Nat) (xs : List Int) (w : World) (hxs : Ints w a n xs) (Bn : Nat)
    (hBn : w.cell? ⟨Bn, 0, none⟩ = some (.slice a n c)) (m : Nat) (hm : 1 ≤ m) :
    SeqStopsK Fence.wide m Tryz.prog 81 #[.pointer (some ⟨Bn, 0, none⟩)] (fun x : Int => #[Value.int .i64 x]) (Below w.heap.size) (fun ys => ys = xs) (fun pre => pre <+: xs) xs.length w := fun l J Jx W hW _ _ hY h0 =>
  values81 Fence.wide rfl m hm l Bn w.heap.size n c a xs J Jx hY W w rfl hW hxs
    ((hW.cell (p := ⟨Bn, 0, none⟩) (World.block_lt_of_cell? w _ hBn)).trans hBn) h0
set_option maxRecDepth 100000 in
set_option maxHeartbeats 2000000 in
theorem appendSeq111 (gf : Nat) (lb : Array Value) (xs : List Int) (w : World) (hlen : xs.length ≤ 1000000)
    (eg : ∀ args w, (callFunc gf args).run Tryz.prog w = .ok (.enter gf args) w)
    (hseq : ∀ m, 1 ≤ m → SeqStopsK Fence.wide m Tryz.prog gf lb (fun x : Int => #[Value.int .i64 x]) (Below w.heap.size) (fun ys => ys = xs) (fun pre => pre <+: xs) xs.length w) :
    CallsIn Fence.wide 10 Tryz.prog 111 #[.slice none 0 0, .func (.func gf) #[] lb] w fun e W' => ∃ v, e = .returned v ∧ W'.ownsRow w.heap.size 3 1 v xs.length (xs.map (Value.int .i64)) ∧ Below w.heap.size w W' := by
  obtain ⟨i0, hi, hz0, hz1, hz2⟩ := info_parts infoInt
  refine callsIn_of_wp_marks Tryz.func111 rfl trivial ?_ rfl
  simp only [Tryz.ntmps111, List.size_toArray, List.length_cons, List.length_nil, Nat.reduceAdd, Nat.reduceSub, Array.replicate_succ, Array.replicate_zero, List.push_toArray, List.append_toArray, List.nil_append, List.cons_append]
  gi_wp2_with (fail)
  have bO := Boxed.new w 29 (.slice none 0 0)
  have hB0 : Below w.heap.size w (w.alloc (.cells #[.slice none 0 0] 29)) := (Below.refl _ w).alloc (Nat.le_refl _) _
  refine wpIn_rangeFunc_ownG (F := Fence.wide) rfl (by omega) (gf := gf) (lb := lb) rfl trivial eg
    (hseq _ (by omega)) belowK_t (belowK_b (by simp)) hB0 (fun _ => rfl)
    (fun (pre : List Int) W => (∃ v, Boxed W w.heap.size 29 v ∧ W.ownsRow w.heap.size 3 1 v pre.length (pre.map (Value.int .i64)) ∧ True) ∧ Below w.heap.size w W)
    (fun _ _ _ => False)
    (OwnFrom.and (Own.from (holdsRow_own w.heap.size w.heap.size 29 3 1 (fun pre : List Int => pre.length) (fun pre : List Int => pre.map (Value.int .i64)) (fun _ _ => True)) _) (ownFrom_below (Nat.le_refl _) (by simp)))
    (fun _ _ _ _ _ hs _ _ => hs)
    ⟨⟨_, bO, World.ownsRow_nil _ _ _ _, trivial⟩, hB0⟩
    (fun x => { tmps := #[.slice none 0 0, .func (.func gf) #[] lb, .pointer (some ⟨w.heap.size, 0, none⟩), undef, .slice none 0 0, .int .i64 x, .func (.func gf) #[] lb, .int .i64 x, undef, undef, undef, undef, undef], defers := [] }) ?assign ?body ?done ?stop
  case assign =>
    intro l x W K hK
    gi_wp2
    exact hK
  case body =>
    rintro l pre x W ⟨⟨v, hv, hrow, -⟩, hB⟩ hlt
    have hc := hv.cell
    gi_wp2_with (gi_at_builtin; refine wpListIn_append_own _ rfl _ _ 29 rfl w.heap.size 3 i0 (.int .i64 0) 1 8 Tryz.underlying29 hi hz0 hz1 hz2 rfl (by decide) _ _ _ rfl (hrow.alloc _) ⟨W.heap.size, 0, none⟩ 1 1 [.int .i64 x] rfl rfl (cell_one_new _ _ _) (by simp [Value.oneCell']) (by unfold maxLen; omega) (by omega) (by have := hB.size; simp; omega) ?_; intro v' w1 hown' hgrow _; obtain ⟨g', cap', rfl⟩ := ownsRow_succ hown'; obtain ⟨hv1, hv2, hr2, hk2, hb2⟩ := hv.appended (by decide) hrow hB.size (Nat.le_refl _) hown' hgrow; have hc1 := hv1.cell; have hf1 := hv1.frozen)
    exact ⟨hk2.from _, hb2, ⟨_, hv2, by simpa using hr2, trivial⟩, hB.trans hb2⟩
  case done =>
    rintro D ys W hD rfl ⟨⟨v, hv, hrow, -⟩, hB⟩ hK
    have hc := hv.cell
    gi_wp2
    refine ⟨by simp, .inl ⟨_, _, rfl, run_takeDeferred hK, ?_⟩⟩
    exact ⟨_, results_tmp rfl _ _ _, v, rfl, ownsRow_putObj hrow _ hK rfl, hB.trans (belowK_b (w := w) (Nat.le_refl _) W D _ _ (by simp at hD; omega) hK rfl rfl)⟩
  case stop =>
    rintro D c pre W _ _ h _
    exact h.elim
set_option maxHeartbeats 4000000 in
theorem collect79 (gf : Nat) (lb : Array Value) (xs : List Int) (w : World) (hlen : xs.length ≤ 1000000) (hx : ∀ x ∈ xs, I64 x)
    (eg : ∀ args w, (callFunc gf args).run Tryz.prog w = .ok (.enter gf args) w)
    (hseq : ∀ m, 1 ≤ m → SeqStopsK Fence.wide m Tryz.prog gf lb (fun x : Int => #[Value.int .i64 x]) (Below w.heap.size) (fun ys => ys = xs) (fun pre => pre <+: xs) xs.length w) :
    Calls Tryz.prog 79 #[.func (.func gf) #[] lb] w fun e W' => ∃ v, e = .returned v ∧ OwnI 3 W' w.heap.size v xs ∧ Below w.heap.size w W' := by
  have H := Lib.hid (callsIn_wide.1 (appendSeq111 gf lb xs w hlen eg hseq))
  have HX := Lib.hid hx
  clear hseq eg hx
  go_enter Tryz.func79, Tryz.ntmps79
  go_wp2_with (fail)
  refine (H.out).mono ?_
  rintro e w' ⟨v, rfl, hrow, hB⟩
  go_wp2_with (fail)
  go_ret
  exact ⟨_, rfl, ⟨hrow, HX.out⟩, hB⟩
theorem valuesP (a : Option Addr) (n c : Nat) (w : World) :
    Calls Tryz.prog 58 #[.slice a n c] w fun e w' => e = .returned (.func (.func 81) #[] #[.pointer (some ⟨w.heap.size, 0, none⟩)]) ∧ w' = w.alloc (.cells #[.slice a n c] 29) := by
  go_enter Tryz.func58, Tryz.ntmps58
  go_wp2
  go_ret
  exact ⟨rfl, rfl⟩
set_option maxHeartbeats 4000000 in
theorem sortedP (a : Option Addr) (n c : Nat) (xs : List Int) (w : World) (h : Ints w a n xs) (hn : n ≤ 1000000) :
    Calls Tryz.prog 57 #[.func (.func 81) #[] #[.pointer (some ⟨w.heap.size, 0, none⟩)]] (w.alloc (.cells #[.slice a n c] 29)) fun e w' => ∃ v, e = .returned v ∧ OwnI 3 w' (w.heap.size + 1) v (sortI xs) ∧ Below w.heap.size w w' := by
  have hb0 := balloc w (.cells #[.slice a n c] 29)
  have hl := h.len
  have HC := Lib.hid (collect79 _ _ xs (w.alloc (.cells #[.slice a n c] 29)) (by omega) h.wf (enters_of Tryz.func81 (by kernel_rfl) rfl) (values_stops a n c xs _ (Ints.mono h (Nat.le_refl _) hb0) w.heap.size (blk_cell (World.alloc_heap_new w _) rfl)))
  have HB := Lib.hid hb0
  obtain ⟨W, hW⟩ : ∃ W, w.alloc (.cells #[.slice a n c] 29) = W := ⟨_, rfl⟩
  have hs : W.heap.size = w.heap.size + 1 := by rw [← hW]; simp
  rw [hW] at HC HB ⊢
  clear h hb0 hW
  have hlx : xs.length ≤ 1000000 := by omega
  clear hl
  go_enter Tryz.func57, Tryz.ntmps57
  go_wp2_with (fail)
  refine HC.out.mono ?_
  rintro e w1 ⟨v, rfl, ho, hb⟩
  obtain ⟨a1, c1, rfl, hsort⟩ := sortOwn W.heap.size v xs w1 hb.size ho hlx
  have HB1 := Lib.hid (bstep HB.out hb)
  have HBW := Lib.hid hb
  have HS := Lib.hid hsort
  clear ho hb hsort
  go_wp2_with (fail)
  refine HS.out.mono ?_
  rintro e w2 ⟨rfl, ho, hb⟩
  have HO := Lib.hid ho
  have HB2 := Lib.hid hb
  clear ho hb
  go_wp2_with (fail)
  go_ret
  exact ⟨_, rfl, by have := HO.out; rwa [hs] at this, HB1.out.trans (HB2.out.mono (by omega))⟩
end Go.Proofs.YtbahddjbncinbaaGreatDoor
