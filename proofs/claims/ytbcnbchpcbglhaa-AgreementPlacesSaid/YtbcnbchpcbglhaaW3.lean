/-
  The iterator over the pairs of known states, and what is counted with it.
-/
import Derived.Test.YtbcnbchpcbglhaaW2
import Derived.RangeFuncBox
import Derived.Maps.AppendAt
namespace Go.Proofs.Ytbcnbchpcbglhaa
open Go.RowKit Go.Ap Go.Shelf

attribute [local go_sem] Oper.semAt_some

/-- below n₀ nothing has turned but block B -/
structure KeepBut (B n₀ : Nat) (A C : World) : Prop where
  os : C.os = A.os
  tape : C.tape = A.tape
  output : C.output = A.output
  size : A.heap.size ≤ C.heap.size
  block : ∀ k, k < n₀ → k ≠ B → C.heap[k]? = A.heap[k]?
section
variable {B n₀ : Nat} {A C D : World}
theorem KeepBut.refl (B n₀ : Nat) (A : World) : KeepBut B n₀ A A := ⟨rfl, rfl, rfl, Nat.le_refl _, fun _ _ _ => rfl⟩
theorem KeepBut.trans (h : KeepBut B n₀ A C) (k : KeepBut B n₀ C D) : KeepBut B n₀ A D :=
  ⟨k.os.trans h.os, k.tape.trans h.tape, k.output.trans h.output, Nat.le_trans h.size k.size, fun i hi hb => (k.block i hi hb).trans (h.block i hi hb)⟩
theorem KeepBut.of_below (h : Below n₀ A C) : KeepBut B n₀ A C := ⟨h.os, h.tape, h.output, h.size, fun k hk _ => h.block k hk⟩
theorem KeepBut.below {m : Nat} (h : KeepBut B n₀ A C) (h1 : m ≤ B) (h2 : m ≤ n₀) : Below m A C := ⟨h.os, h.tape, h.output, h.size, fun k hk => h.block k (by omega) (by omega)⟩
theorem KeepBut.cell (h : KeepBut B n₀ A C) {b o : Nat} (h1 : b < n₀) (h2 : b ≠ B) : C.cell? ⟨b, o, none⟩ = A.cell? ⟨b, o, none⟩ := World.cell?_of_block (w := A) (h.block b h1 h2)
theorem KeepBut.setCell (A : World) (v : Value) : KeepBut B n₀ A (A.setCell ⟨B, 0, none⟩ v) :=
  ⟨rfl, rfl, rfl, by simp [World.setCell], fun k _ hb => Below.heap_setCell _ _ _ _ hb⟩
theorem keepBut_b {w : World} (hn : n₀ ≤ w.heap.size) (W : World) (l : Nat) (o o' : Obj) (hl : w.heap.size ≤ l) (h : W.heap[l]? = some o) (h1 : o.isCells = false) (h2 : o.isWalk = false) : KeepBut B n₀ W (W.putObj l o') :=
  .of_below (belowK_b (w := w) hn W l o o' hl h h1 h2)
end

set_option maxRecDepth 100000 in
set_option maxHeartbeats 1000000 in
theorem known76 (F : Fence) (hF : F = Fence.wide) (m : Nat) (hm : 1 ≤ m) (l Ba Bb B n₀ n n2 ca cb : Nat) (aa ab : Option Addr) (xs ys : List Int) (hn : n ≤ n2) (hBb : Bb < n₀) (hBb' : Bb ≠ B) (J Jx : List (Int × Int) → World → Prop)
    (hY : ∀ pre x W, J pre W → pre.length < (knL xs ys n).length → YieldAt F (m - 1) Try.prog l #[.int .i64 x.1, .int .i64 x.2] W fun e W' =>
      (e = .returned (.bool true) ∧ J (pre ++ [x]) W' ∧ KeepBut B n₀ W W') ∨ (e = .returned (.bool false) ∧ Jx (pre ++ [x]) W'))
    (W w0 : World) (hw0 : w0.heap.size ≤ n₀) (hw1 : w0.heap.size ≤ B) (hwW : Below w0.heap.size w0 W) (hx : Ints w0 aa n xs) (hy : Ints w0 ab n2 ys)
    (hca : W.cell? ⟨Ba, 0, none⟩ = some (.slice aa n ca)) (hcb : W.cell? ⟨Bb, 0, none⟩ = some (.slice ab n2 cb)) (h0 : J [] W) :
    CallsIn F m Try.prog 76 #[.func (.yield l) #[] #[], .pointer (some ⟨Ba, 0, none⟩), .pointer (some ⟨Bb, 0, none⟩)] W fun e W' => (∃ v, e = .returned v) ∧
      ((∃ zs, zs = knL xs ys n ∧ J zs W') ∨ (∃ pre, pre <+: knL xs ys n ∧ Jx pre W')) := by
  subst hF
  have HX := Lib.hid hx
  have HYS := Lib.hid hy
  have HY := Lib.hid hY
  have hs1 := hx.small
  have hs2 := hy.small
  clear hY hx hy
  refine callsIn_of_wp Try.func76 rfl trivial ?_ rfl
  simp only [Try.ntmps76, List.size_toArray, List.length_cons, List.length_nil, Nat.reduceAdd, Nat.reduceSub, Array.replicate_succ, Array.replicate_zero, List.push_toArray, List.append_toArray, List.nil_append, List.cons_append]
  gi_wp2
  gi_loopw [8] (fun i wr => ∃ k : Nat, k ≤ n ∧ i = .int .i64 k ∧ J (knL xs ys k) wr ∧ KeepBut B n₀ W wr ∧ W.heap.size ≤ wr.heap.size)
    (fun i _ => n - (intOf i).toNat)
  case atStart => exact ⟨0, Nat.zero_le _, rfl, h0, KeepBut.refl _ _ _, Nat.le_refl _⟩
  case round =>
    obtain ⟨k, hk, rfl, hJs, hnx, hsz⟩ := hrel
    have hcx : wr.cell? ⟨Bb, 0, none⟩ = some (.slice ab n2 cb) := (hnx.cell hBb hBb').trans hcb
    by_cases hlt : k < n
    · have HJs := Lib.hid hJs
      clear hJs
      have hb0 : Below w0.heap.size w0 wr := hwW.trans (hnx.below hw1 hw0)
      obtain ⟨b1, o1, rfl, hc1⟩ := Ints.at (HX.out.mono (Nat.le_refl _) hb0) (by omega)
      obtain ⟨b2, o2, rfl, hc2⟩ := Ints.at (HYS.out.mono (Nat.le_refl _) hb0) (by omega)
      have hcell1 := hc1 k hlt
      have hcell2 := hc2 k (by omega)
      have hkn2 : k < n2 := by omega
      clear hc1 hc2 hb0
      obtain ⟨x, hxe⟩ : ∃ x, nth xs k = x := ⟨_, rfl⟩
      obtain ⟨y, hye⟩ : ∃ y, nth ys k = y := ⟨_, rfl⟩
      rw [hxe] at hcell1
      rw [hye] at hcell2
      have HXE := Lib.hid hxe
      have HYE := Lib.hid hye
      clear hxe hye
      by_cases hx0 : 0 ≤ x
      · by_cases hy0 : 0 ≤ y
        · have hp : knP (nth xs k, nth ys k) = true := by rw [HXE.out, HYE.out]; exact knP_yes hx0 hy0
          obtain ⟨fn, tmps, assign, body, hy, hR⟩ := HY.out _ (x, y) wr HJs.out (knL_lt hlt hp)
          have HP := Lib.hid (show knL xs ys (k + 1) = knL xs ys k ++ [(x, y)] by rw [knL_yes hp, HXE.out, HYE.out])
          have d1 : decide (0 ≤ x) = true := by simpa using hx0
          have d2 : decide (0 ≤ y) = true := by simpa using hy0
          clear hp
          gi_wp2_with (fail)
          refine hR.mono ?_
          rintro e W3 (⟨rfl, hJ3, hk3⟩ | ⟨rfl, hJx3⟩)
          · gi_wp2_with (fail)
            go_roundw
            case rel => exact ⟨k + 1, by omega, by simp, by rw [HP.out]; exact hJ3, hnx.trans hk3, Nat.le_trans hsz hk3.size⟩
            case measure => simp [intOf]; omega
          · gi_wp2_with (fail)
            refine bodyPost_ret (results_none rfl _ _ _) rfl ?_
            exact ⟨⟨_, rfl⟩, .inr ⟨_, by rw [← HP.out]; exact knL_prefix hlt, hJx3⟩⟩
        · have HP := Lib.hid (show knL xs ys (k + 1) = knL xs ys k from knL_no (by rw [HXE.out, HYE.out]; exact knP_no2 hy0))
          have d1 : decide (0 ≤ x) = true := by simpa using hx0
          have d2 : decide (0 ≤ y) = false := by simpa using hy0
          gi_wp2_with (fail)
          refine ⟨fun _ h => (by cases h), ?_⟩
          gi_wp2_with (fail)
          go_roundw
          case rel => exact ⟨k + 1, by omega, by simp, by rw [HP.out]; exact HJs.out, hnx, hsz⟩
          case measure => simp [intOf]; omega
      · have HP := Lib.hid (show knL xs ys (k + 1) = knL xs ys k from knL_no (by rw [HXE.out, HYE.out]; exact knP_no1 hx0))
        have d1 : decide (0 ≤ x) = false := by simpa using hx0
        gi_wp2_with (fail)
        refine ⟨fun _ h => (by cases h), ?_⟩
        gi_wp2_with (fail)
        go_roundw
        case rel => exact ⟨k + 1, by omega, by simp, by rw [HP.out]; exact HJs.out, hnx, hsz⟩
        case measure => simp [intOf]; omega
    · obtain rfl : k = n := by omega
      gi_wp2
      go_end0
      exact ⟨⟨_, rfl⟩, .inl ⟨_, rfl, hJs⟩⟩

theorem known64 (a b : Option Addr) (n m c d : Nat) (w : World) :
    Calls Try.prog 64 #[.slice a n c, .slice b m d] w fun e w' => e = .returned (.func (.func 76) #[] #[.pointer (some ⟨w.heap.size, 0, none⟩), .pointer (some ⟨w.heap.size + 1, 0, none⟩)]) ∧
      w' = (w.alloc (.cells #[.slice a n c] 23)).alloc (.cells #[.slice b m d] 23) := by
  go_enter Try.func64, Try.ntmps64
  go_wp2
  go_ret
  exact ⟨rfl, rfl⟩

/-- an iterator value over pairs of ints, whose consumer may write block B -/
abbrev Seq2 (B n₀ : Nat) (gf : Nat) (lb : Array Value) (xs : List (Int × Int)) (w : World) : Prop :=
  ∀ m, 1 ≤ m → SeqStopsK Fence.wide m Try.prog gf lb (fun x : Int × Int => #[Value.int .i64 x.1, Value.int .i64 x.2]) (KeepBut B n₀) (fun ys => ys = xs) (fun pre => pre <+: xs) xs.length w

theorem known_stops (aa ab : Option Addr) (n n2 ca cb : Nat) (xs ys : List Int) (w w0 : World) (hn : n ≤ n2) (hx : Ints w0 aa n xs) (hy : Ints w0 ab n2 ys) (B Ba Bb : Nat) (hB : w0.heap.size ≤ B) (hb0 : Below w0.heap.size w0 w) (hne : Bb ≠ B)
    (ha : w.cell? ⟨Ba, 0, none⟩ = some (.slice aa n ca)) (hb : w.cell? ⟨Bb, 0, none⟩ = some (.slice ab n2 cb)) :
    Seq2 B w.heap.size 76 #[.pointer (some ⟨Ba, 0, none⟩), .pointer (some ⟨Bb, 0, none⟩)] (knL xs ys n) w := fun m hm l J Jx W hW _ _ hY h0 =>
  known76 Fence.wide rfl m hm l Ba Bb B w.heap.size n n2 ca cb aa ab xs ys hn (World.block_lt_of_cell? w _ hb) hne J Jx hY W w0 hb0.size hB (hb0.trans (hW.mono hb0.size)) hx hy
    ((hW.cell (p := ⟨Ba, 0, none⟩) (World.block_lt_of_cell? w _ ha)).trans ha) ((hW.cell (p := ⟨Bb, 0, none⟩) (World.block_lt_of_cell? w _ hb)).trans hb) h0

theorem known_new (aa ab : Option Addr) (n n2 ca cb : Nat) (xs ys : List Int) (w : World) (hn : n ≤ n2) (hx : Ints w aa n xs) (hy : Ints w ab n2 ys) :
    ∃ W, W = ((w.alloc (.cells #[.int .i64 0] 3)).alloc (.cells #[.slice aa n ca] 23)).alloc (.cells #[.slice ab n2 cb] 23) ∧ Below w.heap.size w W ∧ Boxed W w.heap.size 3 (.int .i64 0) ∧
      Seq2 w.heap.size W.heap.size 76 #[.pointer (some ⟨w.heap.size + 1, 0, none⟩), .pointer (some ⟨w.heap.size + 2, 0, none⟩)] (knL xs ys n) W := by
  refine ⟨_, rfl, ?_, ?_, ?_⟩
  · exact (((Below.refl _ w).alloc (Nat.le_refl _) _).alloc (by simp) _).alloc (by simp; omega) _
  · exact ((Boxed.new w _ _).alloc _).alloc _
  · refine known_stops aa ab n n2 ca cb xs ys _ w hn hx hy w.heap.size (w.heap.size + 1) (w.heap.size + 2) (Nat.le_refl _) ?_ (by omega) ?_ ?_
    · exact (((Below.refl _ w).alloc (Nat.le_refl _) _).alloc (by simp) _).alloc (by simp; omega) _
    · rw [World.cell?_alloc_lt _ _ _ (by simp)]; exact cell_fresh (by simp) rfl
    · exact cell_fresh (by simp) rfl

set_option maxRecDepth 100000 in
set_option maxHeartbeats 2000000 in
theorem compared55 (aa ab : Option Addr) (n n2 ca cb : Nat) (xs ys : List Int) (w : World) (hn : n ≤ n2) (hx : Ints w aa n xs) (hy : Ints w ab n2 ys) :
    CallsIn Fence.wide 10 Try.prog 55 #[.slice aa n ca, .slice ab n2 cb] w fun e W' => e = .returned (.int .i64 (cmpd xs ys n : Nat)) ∧ Below w.heap.size w W' := by
  have hsm := hx.small
  have hcl := cmpd_le xs ys n
  have hF64 : Fence.wide.fn 64 := trivial
  obtain ⟨W0, hW0, hB0, hbx, hseq⟩ := known_new aa ab n n2 ca cb xs ys w hn hx hy
  have HW0 := Lib.hid hW0
  have HS := Lib.hid hseq
  have HBX := Lib.hid hbx
  have eg : ∀ args w, (callFunc 76 args).run Try.prog w = .ok (.enter 76 args) w := enters_of Try.func76 (by kernel_rfl) rfl
  clear hW0 hseq hbx
  refine callsIn_of_wp_marks Try.func55 rfl trivial ?_ rfl
  simp only [Try.ntmps55, List.size_toArray, List.length_cons, List.length_nil, Nat.reduceAdd, Nat.reduceSub, Array.replicate_succ, Array.replicate_zero, List.push_toArray, List.append_toArray, List.nil_append, List.cons_append]
  gi_wp2_with (fail)
  refine (callsIn_wide.2 (known64 _ _ _ _ _ _ _)).mono ?_
  rintro e w' ⟨rfl, hw'⟩
  simp only [World.size_alloc] at hw' ⊢
  rw [← HW0.out] at hw'
  subst hw'
  gi_wp2_with (fail)
  refine wpIn_rangeFunc_ownG (F := Fence.wide) rfl (by omega) (gf := 76) rfl trivial eg
    (HS.out _ (by omega)) KeepBut.trans (keepBut_b (Nat.le_refl _)) (Below.refl _ _) (fun _ => rfl)
    (fun (pre : List (Int × Int)) W => Boxed W w.heap.size 3 (.int .i64 (pre.length : Nat)) ∧ Below w.heap.size w W)
    (fun _ _ _ => False)
    (OwnFrom.and (Own.from (boxed_own w.heap.size 3 (fun pre : List (Int × Int) => .int .i64 (pre.length : Nat))) _) (ownFrom_below (Nat.le_refl _) (by have := hB0.size; omega)))
    (fun _ _ _ _ _ hs _ _ => hs)
    ⟨HBX.out, hB0⟩
    (fun x => { tmps := #[.slice aa n ca, .slice ab n2 cb, undef, undef, .int .i64 0, .pointer (some ⟨w.heap.size, 0, none⟩), .slice aa n ca, .slice ab n2 cb, .func (.func 76) #[] #[.pointer (some ⟨w.heap.size + 1, 0, none⟩), .pointer (some ⟨w.heap.size + 1 + 1, 0, none⟩)], .int .i64 x.1, .int .i64 x.2, undef, undef, undef], defers := [] }) ?assign ?body ?done ?stop
  case assign =>
    intro l x W K hK
    gi_wp2
    simpa using hK
  case body =>
    rintro l pre x W ⟨hv, hB⟩ hlt
    have hc := hv.cell
    have hf := hv.frozen
    have hln : pre.length < n := by unfold cmpd at hcl; omega
    gi_wp2_with (fail)
    exact ⟨(KeepsOthers.setCell _ _ _).from _, KeepBut.setCell _ _, ⟨by simpa using hv.set (.int .i64 (pre.length + 1 : Nat)), hB.setCell (p := ⟨w.heap.size, 0, none⟩) (Nat.le_refl _) _⟩⟩
  case done =>
    rintro D ys W hD rfl ⟨hv, hB⟩ hK
    have hc := hv.cell
    gi_wp2
    refine ⟨by simp, .inl ⟨_, _, rfl, run_takeDeferred hK, ?_⟩⟩
    exact ⟨_, results_tmp rfl _ _ _, rfl, hB.trans (belowK_b (w := w) (Nat.le_refl _) W D _ _ (by have := hB0.size; omega) hK rfl rfl)⟩
  case stop =>
    rintro D c pre W _ _ h _
    exact h.elim

end Go.Proofs.Ytbcnbchpcbglhaa
