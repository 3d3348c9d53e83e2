import Derived.Test.YtcmckcmckbdmhaaW5
import Derived.RangeFuncBox
import Derived.Maps.AppendAt
namespace Go.Proofs.Ytcmckcmckbdmhaa
open Go.RowKit Go.Ap Go.Shelf

attribute [local go_sem] Oper.semAt_some

/-- the ints from 0 to n - 1 for which a test says yes -/
def memb (p : Int → Bool) (n : Nat) : List Int := ((List.range n).map fun (k : Nat) => (k : Int)).filter p
theorem memb_yes {p : Int → Bool} {k : Nat} (h : p k = true) : memb p (k + 1) = memb p k ++ [(k : Int)] := by simp [memb, List.range_succ, h]
theorem memb_no {p : Int → Bool} {k : Nat} (h : p k = false) : memb p (k + 1) = memb p k := by simp [memb, List.range_succ, h]
theorem memb_len (p : Int → Bool) (k : Nat) : (memb p k).length ≤ k := by
  unfold memb; exact Nat.le_trans (List.length_filter_le _ _) (by simp)
theorem memb_lt {p : Int → Bool} {k n : Nat} (hk : k < n) (h : p k = true) : (memb p k).length < (memb p n).length := by
  obtain ⟨d, rfl⟩ : ∃ d, n = k + 1 + d := ⟨n - (k + 1), by omega⟩
  induction d with
  | zero => rw [Nat.add_zero, memb_yes h]; simp
  | succ d ih =>
    refine Nat.lt_of_lt_of_le (ih (by omega)) ?_
    rw [show k + 1 + (d + 1) = (k + 1 + d) + 1 by omega]
    cases hp : p ((k + 1 + d : Nat) : Int)
    · rw [memb_no hp]; exact Nat.le_refl _
    · rw [memb_yes hp]; simp

theorem memb_prefix {p : Int → Bool} {k n : Nat} (hk : k ≤ n) : memb p k <+: memb p n := by
  obtain ⟨d, rfl⟩ : ∃ d, n = k + d := ⟨n - k, by omega⟩
  unfold memb
  rw [List.range_add, List.map_append, List.filter_append]
  exact List.prefix_append _ _

set_option maxRecDepth 100000 in
set_option maxHeartbeats 1000000 in
theorem members71 (F : Fence) (hF : F = Fence.wide) (m : Nat) (hm : 1 ≤ m) (l Bn Bi n₀ n : Nat) (g : Nat) (cap : Array Value) (p : Int → Bool) (hn : n ≤ 1000) (hBi : Bi < n₀) (J Jx : List Int → World → Prop)
    (hY : ∀ pre x W, J pre W → pre.length < (memb p n).length → YieldAt F (m - 1) Try.prog l #[.int .i64 x] W fun e W' =>
      (e = .returned (.bool true) ∧ J (pre ++ [x]) W' ∧ Below n₀ W W') ∨ (e = .returned (.bool false) ∧ Jx (pre ++ [x]) W'))
    (W : World) (hJ : AbidesFrom W.heap.size J) (w0 : World) (hw0 : n₀ = w0.heap.size) (hwW : Below n₀ w0 W) (hfn : Fn1 Try.prog g cap p w0)
    (hBn : W.cell? ⟨Bn, 0, none⟩ = some (.int .i64 n)) (hc : W.cell? ⟨Bi, 0, none⟩ = some (.func (.func g) #[] cap)) (h0 : J [] W) :
    CallsIn F m Try.prog 71 #[.func (.yield l) #[] #[], .pointer (some ⟨Bn, 0, none⟩), .pointer (some ⟨Bi, 0, none⟩)] W fun e W' => (∃ v, e = .returned v) ∧
      ((∃ ys, ys = memb p n ∧ J ys W') ∨ (∃ pre, pre <+: memb p n ∧ Jx pre W')) := by
  subst hF
  have eg := hfn.enters
  have hFg : Fence.wide.fn g := trivial
  have HC := Lib.hid hfn
  have HY := Lib.hid hY
  have HJ := Lib.hid hJ
  clear hfn hY hJ
  refine callsIn_of_wp Try.func71 rfl trivial ?_ rfl
  simp only [Try.ntmps71, List.size_toArray, List.length_cons, List.length_nil, Nat.reduceAdd, Nat.reduceSub, Array.replicate_succ, Array.replicate_zero, List.push_toArray, List.append_toArray, List.nil_append, List.cons_append]
  gi_wp2
  gi_loopw [6] (fun i wr => ∃ k : Nat, k ≤ n ∧ i = .int .i64 k ∧ J (memb p k) wr ∧ Below n₀ W wr ∧ W.heap.size ≤ wr.heap.size)
    (fun i _ => n - (intOf i).toNat)
  case atStart => exact ⟨0, Nat.zero_le _, rfl, h0, Below.refl _ _, Nat.le_refl _⟩
  case round =>
    obtain ⟨k, hk, rfl, hJs, hnx, hsz⟩ := hrel
    have hcx : wr.cell? ⟨Bi, 0, none⟩ = some (.func (.func g) #[] cap) := (hnx.cell (p := ⟨Bi, 0, none⟩) hBi).trans hc
    by_cases hlt : k < n
    · have HJs := Lib.hid hJs
      clear hJs
      have hik : I64 (k : Int) := ⟨by omega, by omega⟩
      have hb0 : Below w0.heap.size w0 wr := by rw [← hw0]; exact hwW.trans hnx
      gi_wp2_with (fail)
      refine (callsIn_wide.2 (HC.out.calls wr hb0 k hik)).mono ?_
      rintro e w' ⟨rfl, q, rfl⟩
      have hg1 : wr.grownBy (wr.drewN q) none := ⟨rfl, rfl, rfl, Nat.le_refl _, fun _ _ _ => rfl⟩
      have HJq := Lib.hid (HJ.out _ _ _ none HJs.out hg1 (by simp))
      have hbq : Below n₀ W (wr.drewN q) := hnx.trans ⟨rfl, rfl, rfl, Nat.le_refl _, fun _ _ => rfl⟩
      cases hp : p k
      · have HP := Lib.hid hp
        clear hp
        gi_wp2_with (fail)
        refine ⟨fun _ h => (by cases h), ?_⟩
        gi_wp2_with (fail)
        go_roundw
        case rel => exact ⟨k + 1, by omega, by simp, by rw [memb_no HP.out]; exact HJq.out, hbq, hsz⟩
        case measure => simp [intOf]; omega
      · obtain ⟨fn, tmps, assign, body, hy, hR⟩ := HY.out _ (k : Int) (wr.drewN q) HJq.out (memb_lt hlt hp)
        have HP := Lib.hid hp
        clear hp
        gi_wp2_with (fail)
        refine hR.mono ?_
        rintro e W3 (⟨rfl, hJ3, hk3⟩ | ⟨rfl, hJx3⟩)
        · gi_wp2_with (fail)
          go_roundw
          case rel => exact ⟨k + 1, by omega, by simp, by rw [memb_yes HP.out]; exact hJ3, hbq.trans hk3, Nat.le_trans hsz hk3.size⟩
          case measure => simp [intOf]; omega
        · gi_wp2_with (fail)
          refine bodyPost_ret (results_none rfl _ _ _) rfl ?_
          exact ⟨⟨_, rfl⟩, .inr ⟨_, by rw [← memb_yes HP.out]; exact memb_prefix hlt, hJx3⟩⟩
    · obtain rfl : k = n := by omega
      gi_wp2
      go_end0
      exact ⟨⟨_, rfl⟩, .inl ⟨_, rfl, hJs⟩⟩

theorem members46 (n : Int) (g : Nat) (cap : Array Value) (w : World) :
    Calls Try.prog 46 #[.int .i64 n, .func (.func g) #[] cap] w fun e w' => e = .returned (.func (.func 71) #[] #[.pointer (some ⟨w.heap.size, 0, none⟩), .pointer (some ⟨w.heap.size + 1, 0, none⟩)]) ∧
      w' = (w.alloc (.cells #[.int .i64 n] 3)).alloc (.cells #[.func (.func g) #[] cap] 46) := by
  go_enter Try.func46, Try.ntmps46
  go_wp2
  go_ret
  exact ⟨rfl, rfl⟩

/-- an iterator value over ints: all of xs, in order, whatever the body does to what it made itself -/
abbrev Seq1 (gf : Nat) (lb : Array Value) (xs : List Int) (w : World) : Prop :=
  ∀ m, 1 ≤ m → SeqStopsK Fence.wide m Try.prog gf lb (fun x : Int => #[Value.int .i64 x]) (Below w.heap.size) (fun ys => ys = xs) (fun pre => pre <+: xs) xs.length w

theorem members_stops (n : Nat) (g : Nat) (cap : Array Value) (p : Int → Bool) (w : World) (hn : n ≤ 1000) (hfn : Fn1 Try.prog g cap p w) (Bn Bi : Nat)
    (hBn : w.cell? ⟨Bn, 0, none⟩ = some (.int .i64 n)) (hc : w.cell? ⟨Bi, 0, none⟩ = some (.func (.func g) #[] cap)) :
    Seq1 71 #[.pointer (some ⟨Bn, 0, none⟩), .pointer (some ⟨Bi, 0, none⟩)] (memb p n) w := fun m hm l J Jx W hW hJ _ hY h0 =>
  members71 Fence.wide rfl m hm l Bn Bi w.heap.size n g cap p hn (World.block_lt_of_cell? w _ hc) J Jx hY W hJ w rfl hW hfn
    ((hW.cell (p := ⟨Bn, 0, none⟩) (World.block_lt_of_cell? w _ hBn)).trans hBn) ((hW.cell (p := ⟨Bi, 0, none⟩) (World.block_lt_of_cell? w _ hc)).trans hc) h0

theorem info3 : (Try.prog.info? 3).map (fun i => (i.zero, i.size, i.bytes)) = some (some (.int .i64 0), 1, 8) := by kernel_rfl

set_option maxRecDepth 100000 in
set_option maxHeartbeats 2000000 in
theorem appendSeq70 (gf : Nat) (lb : Array Value) (xs : List Int) (w : World) (hlen : xs.length ≤ maxLen) (hbytes : xs.length * 8 ≤ 140737488355328)
    (eg : ∀ args w, (callFunc gf args).run Try.prog w = .ok (.enter gf args) w) (hseq : Seq1 gf lb xs w) :
    CallsIn Fence.wide 10 Try.prog 70 #[.slice none 0 0, .func (.func gf) #[] lb] w fun e W' => ∃ v, e = .returned v ∧ W'.ownsRow w.heap.size 3 1 v xs.length (xs.map (Value.int .i64)) ∧ Below w.heap.size w W' := by
  obtain ⟨i0, hi, hz0, hz1, hz2⟩ := info_parts info3
  refine callsIn_of_wp_marks Try.func70 rfl trivial ?_ rfl
  simp only [Try.ntmps70, List.size_toArray, List.length_cons, List.length_nil, Nat.reduceAdd, Nat.reduceSub, Array.replicate_succ, Array.replicate_zero, List.push_toArray, List.append_toArray, List.nil_append, List.cons_append]
  gi_wp2_with (fail)
  have bO := Boxed.new w 22 (.slice none 0 0)
  have hB0 : Below w.heap.size w (w.alloc (.cells #[.slice none 0 0] 22)) := (Below.refl _ w).alloc (Nat.le_refl _) _
  refine wpIn_rangeFunc_ownG (F := Fence.wide) rfl (by omega) (gf := gf) (lb := lb) rfl trivial eg
    (hseq _ (by omega)) belowK_t (belowK_b (by simp)) hB0 (fun _ => rfl)
    (fun (pre : List Int) W => (∃ v, Boxed W w.heap.size 22 v ∧ W.ownsRow w.heap.size 3 1 v pre.length (pre.map (Value.int .i64)) ∧ True) ∧ Below w.heap.size w W)
    (fun _ _ _ => False)
    (OwnFrom.and (Own.from (holdsRow_own w.heap.size w.heap.size 22 3 1 (fun pre : List Int => pre.length) (fun pre : List Int => pre.map (Value.int .i64)) (fun _ _ => True)) _) (ownFrom_below (Nat.le_refl _) (by simp)))
    (fun _ _ _ _ _ hs _ _ => hs)
    ⟨⟨_, bO, World.ownsRow_nil _ _ _ _, trivial⟩, hB0⟩
    (fun x => { tmps := #[.slice none 0 0, .func (.func gf) #[] lb, .pointer (some ⟨w.heap.size, 0, none⟩), undef, .slice none 0 0, .int .i64 x, .func (.func gf) #[] lb, .int .i64 x, undef, undef, undef, undef, undef], defers := [] }) ?assign ?body ?done ?stop
  case assign =>
    intro l x W K hK
    gi_wp2
    exact hK
  case body =>
    rintro l pre x W ⟨⟨v, hv, hrow, -⟩, hB⟩ hlt
    have hc := hv.cell
    gi_wp2_with (gi_at_builtin; refine wpListIn_append_own _ rfl _ _ 22 rfl w.heap.size 3 i0 (.int .i64 0) 1 8 Try.underlying22 hi hz0 hz1 hz2 rfl (by decide) _ _ _ rfl (hrow.alloc _) ⟨W.heap.size, 0, none⟩ 1 1 [.int .i64 x] rfl rfl (cell_one_new _ _ _) (by simp [Value.oneCell']) (by omega) (by omega) (by have := hB.size; simp; omega) ?_; intro v' w1 hown' hgrow _; obtain ⟨g', cap', rfl⟩ := ownsRow_succ hown'; obtain ⟨hv1, hv2, hr2, hk2, hb2⟩ := hv.appended (by decide) hrow hB.size (Nat.le_refl _) hown' hgrow; have hc1 := hv1.cell; have hf1 := hv1.frozen)
    exact ⟨hk2.from _, hb2, ⟨_, hv2, by simpa using hr2, trivial⟩, hB.trans hb2⟩
  case done =>
    rintro D ys W hD rfl ⟨⟨v, hv, hrow, -⟩, hB⟩ hK
    have hc := hv.cell
    gi_wp2
    refine ⟨by simp, .inl ⟨_, _, rfl, run_takeDeferred hK, ?_⟩⟩
    exact ⟨_, results_tmp rfl _ _ _, v, rfl, ownsRow_putObj hrow _ hK rfl, hB.trans (belowK_b (w := w) (Nat.le_refl _) W D _ _ (by simp at hD; omega) hK rfl rfl)⟩
  case stop =>
    rintro D c pre W _ _ h _
    exact h.elim

end Go.Proofs.Ytcmckcmckbdmhaa
