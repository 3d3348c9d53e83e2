/-
  The iterator over what rules make of a string.
-/
import Derived.Test.YtamdonlncfmmmaaW5
import Derived.Test.YtamdonlncfmmmaaPStep
import Derived.RangeFuncBox
import Derived.Maps.AppendAt
import Derived.Stop.RegionWithIn
namespace Go.Proofs.Ytamdonlncfmmmaa
open Go.RowKit Go.Ap Go.Shelf Go.Proofs

attribute [local go_sem] Oper.semAt_some bs_toList empty_toList bs_size

/-- what an iterator over the caller's blocks asks of its consumer: the blocks below e, and its own two boxes, stay as they are -/
structure KeepR (e b1 b2 : Nat) (A C : World) : Prop where
  os : C.os = A.os
  tape : C.tape = A.tape
  output : C.output = A.output
  size : A.heap.size ≤ C.heap.size
  block : ∀ k, (k < e ∨ k = b1 ∨ k = b2) → C.heap[k]? = A.heap[k]?
section
variable {e b1 b2 : Nat} {A C D : World}
theorem KeepR.refl (e b1 b2 : Nat) (A : World) : KeepR e b1 b2 A A := ⟨rfl, rfl, rfl, Nat.le_refl _, fun _ _ => rfl⟩
theorem KeepR.trans (h : KeepR e b1 b2 A C) (k : KeepR e b1 b2 C D) : KeepR e b1 b2 A D :=
  ⟨k.os.trans h.os, k.tape.trans h.tape, k.output.trans h.output, Nat.le_trans h.size k.size, fun i hi => (k.block i hi).trans (h.block i hi)⟩
theorem KeepR.of_below {n : Nat} (h : Below n A C) (he : e ≤ n) (h1 : b1 < n) (h2 : b2 < n) : KeepR e b1 b2 A C := ⟨h.os, h.tape, h.output, h.size, fun k hk => h.block k (by omega)⟩
theorem KeepR.below (h : KeepR e b1 b2 A C) : Below e A C := ⟨h.os, h.tape, h.output, h.size, fun k hk => h.block k (.inl hk)⟩
theorem KeepR.cell (h : KeepR e b1 b2 A C) {b o : Nat} (hb : b < e ∨ b = b1 ∨ b = b2) : C.cell? ⟨b, o, none⟩ = A.cell? ⟨b, o, none⟩ := World.cell?_of_block (w := A) (h.block b hb)
theorem keepR_b {w : World} (he : e ≤ w.heap.size) (h1 : b1 < w.heap.size) (h2 : b2 < w.heap.size) (W : World) (l : Nat) (o o' : Obj) (hl : w.heap.size ≤ l) (h : W.heap[l]? = some o) (hc : o.isCells = false) (hw : o.isWalk = false) : KeepR e b1 b2 W (W.putObj l o') :=
  .of_below (belowK_b (w := w) (Nat.le_refl _) W l o o' hl h hc hw) he h1 h2
end

theorem grown_drewN (W : World) (q : Nat) : W.grownBy (W.drewN q) none := ⟨rfl, rfl, rfl, Nat.le_refl _, fun _ _ _ => rfl⟩
theorem KeepR.drewN {e b1 b2 : Nat} (W : World) (q : Nat) : KeepR e b1 b2 W (W.drewN q) := ⟨rfl, rfl, rfl, Nat.le_refl _, fun _ _ => rfl⟩
/-- CutPrefix as the iterator calls it -/
theorem cut_yes (s p : Str) (i : Nat) (W : World) (h : p.isPrefixOf (s.drop i) = true) :
    Calls Try.prog 33 #[.string (bs (s.drop i)), .string (bs p)] W fun e w' => e = .returned (.tuple #[.string (bs (s.drop (i + p.length))), .bool true]) ∧ w' = W :=
  (Try.strings_CutPrefix (bs (s.drop i)) (bs p) W).mono fun e w' ⟨he, hw⟩ => ⟨by
    rw [he, bs_list, bs_list]
    have h2 : Lib.hasPrefix (s.drop i) p = true := h
    rw [Lib.trimPrefix, if_pos h2, h2, List.drop_drop]
    rfl, hw⟩
theorem cut_no (s p : Str) (i : Nat) (W : World) (h : p.isPrefixOf (s.drop i) = false) :
    Calls Try.prog 33 #[.string (bs (s.drop i)), .string (bs p)] W fun e w' => e = .returned (.tuple #[.string (bs (s.drop i)), .bool false]) ∧ w' = W :=
  (Try.strings_CutPrefix (bs (s.drop i)) (bs p) W).mono fun e w' ⟨he, hw⟩ => ⟨by
    rw [he, bs_list, bs_list]
    have h2 : Lib.hasPrefix (s.drop i) p = false := h
    rw [Lib.trimPrefix, if_neg (by rw [h2]; exact Bool.false_ne_true), h2]
    rfl, hw⟩

theorem ext_drop {s : Str} {i : Nat} : (bs s).extract i s.length = bs (s.drop i) := by
  rw [bs_extract, List.take_of_length_le (by simp)]
theorem ext_take {s : Str} {i : Nat} : (bs s).extract 0 i = bs (s.take i) := by
  rw [bs_extract]; simp

theorem cell_keep {w w' : World} {p : Addr} {v : Value} (hb : Below w.heap.size w w') (h : w.cell? p = some v) : w'.cell? p = some v := (hb.cell (World.block_lt_of_cell? w p h)).trans h
attribute [local go_sem] ext_drop ext_take bs_append

/-- what the consumer of a string answers: to go on, or not -/
def Ans (J Jx : List Str → World → Prop) (e b1 b2 : Nat) (pre : List Str) (x : Str) (W : World) (b : Bool) (W' : World) : Prop :=
  (b = true ∧ J (pre ++ [x]) W' ∧ KeepR e b1 b2 W W') ∨ (b = false ∧ Jx (pre ++ [x]) W')

set_option maxRecDepth 100000 in
set_option maxHeartbeats 4000000 in
theorem results68 (F : Fence) (hF : F = Fence.wide) (m : Nat) (hm : 1 ≤ m) (l Bw Br e n c : Nat) (a : Option Addr) (rs : List Rule) (s : Str) (J Jx : List Str → World → Prop) (hs : s.length ≤ 4611686018427387903)
    (hY : ∀ pre x W, J pre W → pre.length < (resL rs s).length → x ∈ resL rs s → YieldAt F (m - 1) Try.prog l #[.string (bs x)] W fun en W' =>
      (en = .returned (.bool true) ∧ J (pre ++ [x]) W' ∧ KeepR e Bw Br W W') ∨ (en = .returned (.bool false) ∧ Jx (pre ++ [x]) W'))
    (W w0 : World) (he : w0.heap.size = e) (heW : e ≤ W.heap.size) (hBw : Bw < W.heap.size) (hBr : Br < W.heap.size) (hwW : Below e w0 W) (hx : Rls w0 a n rs) (hJ : AbidesFrom W.heap.size J)
    (hcw : W.cell? ⟨Bw, 0, none⟩ = some (.string (bs s))) (hcr : W.cell? ⟨Br, 0, none⟩ = some (.slice a n c)) (h0 : J [] W) :
    CallsIn F m Try.prog 68 #[.func (.yield l) #[] #[], .pointer (some ⟨Bw, 0, none⟩), .pointer (some ⟨Br, 0, none⟩)] W fun en W' => (∃ v, en = .returned v) ∧
      ((∃ zs, zs = resL rs s ∧ J zs W') ∨ (∃ pre, pre <+: resL rs s ∧ Jx pre W')) := by
  subst hF
  have HX := Lib.hid hx
  have HL := Lib.hid hx.len
  have HJ := Lib.hid hJ
  have hsm := hx.small
  have HY := Lib.hid (show ∀ pre x W, J pre W → pre.length < (resL rs s).length → x ∈ resL rs s → YieldAt Fence.wide (m - 1) Try.prog l #[.string (bs x)] W fun en W' => ∃ b, en = .returned (.bool b) ∧ Ans J Jx e Bw Br pre x W b W' from fun pre x W h1 h2 h3 => (hY pre x W h1 h2 h3).mono fun en W' h => by
    rcases h with ⟨h, h3⟩ | ⟨h, h3⟩
    · exact ⟨true, h, .inl ⟨rfl, h3⟩⟩
    · exact ⟨false, h, .inr ⟨rfl, h3⟩⟩)
  clear hY hx hJ
  refine callsIn_of_wp Try.func68 rfl trivial ?_ rfl
  simp only [Try.ntmps68, List.size_toArray, List.length_cons, List.length_nil, Nat.reduceAdd, Nat.reduceSub, Array.replicate_succ, Array.replicate_zero, List.push_toArray, List.append_toArray, List.nil_append, List.cons_append]
  gi_wp2
  gi_loopw [11] (fun iv wr => ∃ i : Nat, i ≤ s.length ∧ iv = .int .i64 i ∧ J (upto rs s i 0) wr ∧ KeepR e Bw Br W wr)
    (fun iv _ => s.length - (intOf iv).toNat)
  case atStart => exact ⟨0, Nat.zero_le _, rfl, by rw [upto_zero]; exact h0, KeepR.refl _ _ _ _⟩
  case round =>
    obtain ⟨wo, rfl⟩ : ∃ wo : World, wo = wr := ⟨_, rfl⟩
    obtain ⟨i, hi, rfl, hJs, hnx⟩ := hrel
    by_cases hlt : i < s.length
    · have HJs := Lib.hid hJs
      have HNX := Lib.hid hnx
      have hcw1 : wo.cell? ⟨Bw, 0, none⟩ = some (.string (bs s)) := (hnx.cell (.inr (.inl rfl))).trans hcw
      have hcr1 : wo.cell? ⟨Br, 0, none⟩ = some (.slice a n c) := (hnx.cell (.inr (.inr rfl))).trans hcr
      clear hJs hnx
      gi_wp2_with (fail)
      gi_loopw [16] (fun kv wk => ∃ k : Nat, k ≤ n ∧ kv = .int .i64 k ∧ J (upto rs s i k) wk ∧ KeepR e Bw Br W wk) (fun kv _ => n - (intOf kv).toNat)
      case atStart => exact ⟨0, Nat.zero_le _, rfl, HJs.out, HNX.out⟩
      case round =>
        obtain ⟨k, hk, rfl, hJk, hnk⟩ := hrel
        have HJk := Lib.hid hJk
        have HNk := Lib.hid hnk
        have hszk := hnk.size
        have hcw2 : wr.cell? ⟨Bw, 0, none⟩ = some (.string (bs s)) := (hnk.cell (.inr (.inl rfl))).trans hcw
        clear hJk hnk hcw1 hcr1
        by_cases hkn : k < n
        · obtain ⟨⟨x, y⟩, b, off, hxx, rfl, hc1, hc2, hl1, hl2⟩ := (HX.out.mono (Nat.le_of_eq he) (hwW.trans HNk.out.below)).at hkn
          simp only at hc1 hc2 hl1 hl2
          have HXX := Lib.hid hxx
          clear hxx
          cases hp : x.isPrefixOf (s.drop i)
          · have HP := Lib.hid (upto_no HXX.out (show appl s i (x, y) = none by rw [appl, if_neg (by simp [hp])]))
            have HC := Lib.hid (fun W => cut_no s x i W hp)
            clear hp
            gi_wp2_with (fail)
            obtain ⟨W4, hW4⟩ : ∃ W4, wr.alloc (.cells #[.string (bs x), .string (bs y)] 46) = W4 := ⟨_, rfl⟩
            have b4 : Below wr.heap.size wr W4 := by rw [← hW4]; exact balloc _ _
            have HK4 := Lib.hid (HNk.out.trans (KeepR.of_below b4 (Nat.le_trans heW hszk) (Nat.lt_of_lt_of_le hBw hszk) (Nat.lt_of_lt_of_le hBr hszk)))
            have HJ4 := Lib.hid (show J (upto rs s i k) W4 by rw [← hW4]; exact HJ.out _ _ _ none HJk.out (World.grownBy_alloc wr _ none) (by simp))
            have c4 : W4.cell? ⟨Bw, 0, none⟩ = some (.string (bs s)) := cell_keep b4 hcw2
            have c40 : W4.cell? ⟨wr.heap.size, 0, none⟩ = some (.string (bs x)) := by rw [← hW4]; exact cell_fresh rfl rfl
            have c41 : W4.cell? ⟨wr.heap.size, 1, none⟩ = some (.string (bs y)) := by rw [← hW4]; exact cell_fresh rfl rfl
            rw [hW4]
            clear hW4 b4 hcw2 hc1 hc2 HNk HJk
            refine wpIn_wide.2 ?_
            go_quiet ((go_at_call 33; exact Calls.quiet_of_same (HC.out _)))
            gi_wp2_with (fail)
            refine wpIn_wide.2 ?_
            go_quiet (fail)
            gi_wp2_with (fail)
            go_roundw
            case rel => exact ⟨k + 1, by omega, by simp, by rw [HP.out]; exact HJ.out _ _ _ none HJ4.out (grown_drewN _ _) (by simp), HK4.out.trans (KeepR.drewN _ _)⟩
            case measure => simp [intOf]; omega
          · have ha : appl s i (x, y) = some (s.take i ++ (y ++ s.drop (i + x.length))) := by rw [appl, if_pos hp, List.append_assoc]
            have HP := Lib.hid (upto_yes HXX.out ha)
            have HLT := Lib.hid (upto_lt hlt HXX.out ha)
            have HPR := Lib.hid (upto_pre (rs := rs) (k := k + 1) hlt)
            have HMEM := Lib.hid (show s.take i ++ (y ++ s.drop (i + x.length)) ∈ resL rs s from (upto_pre (rs := rs) (k := k + 1) hlt).subset (by rw [upto_yes HXX.out ha]; simp))
            have HC := Lib.hid (fun W => cut_yes s x i W hp)
            have g1 : ¬ 9223372036854775807 < i + y.length := by omega
            have g2 : ¬ 9223372036854775807 < i + y.length + (s.length - (i + x.length)) := by omega
            clear hp ha
            gi_wp2_with (fail)
            obtain ⟨W4, hW4⟩ : ∃ W4, wr.alloc (.cells #[.string (bs x), .string (bs y)] 46) = W4 := ⟨_, rfl⟩
            have b4 : Below wr.heap.size wr W4 := by rw [← hW4]; exact balloc _ _
            have HK4 := Lib.hid (HNk.out.trans (KeepR.of_below b4 (Nat.le_trans heW hszk) (Nat.lt_of_lt_of_le hBw hszk) (Nat.lt_of_lt_of_le hBr hszk)))
            have HJ4 := Lib.hid (show J (upto rs s i k) W4 by rw [← hW4]; exact HJ.out _ _ _ none HJk.out (World.grownBy_alloc wr _ none) (by simp))
            have c4 : W4.cell? ⟨Bw, 0, none⟩ = some (.string (bs s)) := cell_keep b4 hcw2
            have c40 : W4.cell? ⟨wr.heap.size, 0, none⟩ = some (.string (bs x)) := by rw [← hW4]; exact cell_fresh rfl rfl
            have c41 : W4.cell? ⟨wr.heap.size, 1, none⟩ = some (.string (bs y)) := by rw [← hW4]; exact cell_fresh rfl rfl
            rw [hW4]
            clear hW4 b4 hcw2 hc1 hc2 HNk HJk
            refine wpIn_wide.2 ?_
            go_quiet ((go_at_call 33; exact Calls.quiet_of_same (HC.out _)))
            gi_wp2_with (fail)
            obtain ⟨fn, tmps, assign, body, hy, hR⟩ := HY.out _ (s.take i ++ (y ++ s.drop (i + x.length))) (W4.drewN (nq + 1)) (HJ.out _ _ _ none HJ4.out (grown_drewN _ _) (by simp)) HLT.out HMEM.out
            gi_region_with (refine hR.mono ?_; rintro en W5 ⟨ans, rfl, hans⟩)
            all_goals clear hy hR
            all_goals have HANS := Lib.hid hans
            all_goals clear hans
            all_goals rcases HANS.out with ⟨rfl, hJ3, hk3⟩ | ⟨rfl, hJx3⟩
            all_goals clear HANS
            all_goals first
              | have hJ4 := Lib.hid hJ3
                have hK4 := Lib.hid hk3
                clear hJ3 hk3
                gi_wp2_with (fail)
                go_roundw
                case rel => exact ⟨k + 1, by omega, by simp, by rw [HP.out]; exact hJ4.out, HK4.out.trans ((KeepR.drewN _ _).trans hK4.out)⟩
                case measure => simp [intOf]; omega
              | have hJ4 := Lib.hid hJx3
                clear hJx3
                gi_wp2_with (fail)
                refine bodyPost_ret (results_none rfl _ _ _) rfl ?_
                exact ⟨⟨_, rfl⟩, .inr ⟨_, by rw [← HP.out]; exact HPR.out, hJ4.out⟩⟩
        · obtain rfl : n = k := by omega
          gi_wp2_with (fail)
          go_roundw
          case rel => exact ⟨i + 1, by omega, by simp, by rw [← upto_row, HL.out]; exact HJk.out, HNk.out⟩
          case measure => simp [intOf]; omega
    · obtain rfl : i = s.length := by omega
      gi_wp2_with (fail)
      go_end0
      exact ⟨⟨_, rfl⟩, .inl ⟨_, rfl, by rw [← upto_all]; exact hJs⟩⟩

theorem results54 (a : Option Addr) (n c : Nat) (s : ByteArray) (w : World) :
    Calls Try.prog 54 #[.slice a n c, .string s] w fun e w' => e = .returned (.func (.func 68) #[] #[.pointer (some ⟨w.heap.size + 1, 0, none⟩), .pointer (some ⟨w.heap.size, 0, none⟩)]) ∧
      w' = (w.alloc (.cells #[.slice a n c] 22)).alloc (.cells #[.string s] 9) := by
  go_enter Try.func54, Try.ntmps54
  go_wp2
  go_ret
  exact ⟨rfl, rfl⟩

/-- the iterator value: all results, in order, whatever the consumer does to what it made itself -/
theorem results_stops (a : Option Addr) (n c : Nat) (rs : List Rule) (s : Str) (w w0 : World) (hx : Rls w0 a n rs) (hs : s.length ≤ 4611686018427387903) (Bw Br : Nat) (hb0 : Below w0.heap.size w0 w)
    (hw : w.cell? ⟨Bw, 0, none⟩ = some (.string (bs s))) (hr : w.cell? ⟨Br, 0, none⟩ = some (.slice a n c)) (m : Nat) (hm : 1 ≤ m) :
    SeqStopsK Fence.wide m Try.prog 68 #[.pointer (some ⟨Bw, 0, none⟩), .pointer (some ⟨Br, 0, none⟩)] (fun x : Str => #[Value.string (bs x)]) (KeepR w0.heap.size Bw Br) (fun ys => ys = resL rs s) (fun pre => pre <+: resL rs s) (resL rs s).length w :=
  fun l J Jx W hW hJ _ hY h0 =>
    results68 Fence.wide rfl m hm l Bw Br w0.heap.size n c a rs s J Jx hs (fun pre x W h1 h2 _ => hY pre x W h1 h2) W w0 rfl (Nat.le_trans hb0.size hW.size) (Nat.lt_of_lt_of_le (World.block_lt_of_cell? w _ hw) hW.size) (Nat.lt_of_lt_of_le (World.block_lt_of_cell? w _ hr) hW.size)
      (hb0.trans (hW.mono hb0.size)) hx hJ (cell_keep hW hw) (cell_keep hW hr) h0

/-- the same, each element with the proof that it is a result -/
theorem results_stopsP (a : Option Addr) (n c : Nat) (rs : List Rule) (s : Str) (w w0 : World) (hx : Rls w0 a n rs) (hs : s.length ≤ 4611686018427387903) (Bw Br : Nat) (hb0 : Below w0.heap.size w0 w)
    (hw : w.cell? ⟨Bw, 0, none⟩ = some (.string (bs s))) (hr : w.cell? ⟨Br, 0, none⟩ = some (.slice a n c)) (m : Nat) (hm : 1 ≤ m) :
    SeqStopsK Fence.wide m Try.prog 68 #[.pointer (some ⟨Bw, 0, none⟩), .pointer (some ⟨Br, 0, none⟩)] (fun x : {x : Str // x ∈ resL rs s} => #[Value.string (bs x.1)]) (KeepR w0.heap.size Bw Br) (fun ys => ys.map (·.1) = resL rs s) (fun pre => pre.map (·.1) <+: resL rs s) (resL rs s).length w :=
  fun l J Jx W hW hJ hJx hY h0 => by
    have hres := results68 Fence.wide rfl m hm l Bw Br w0.heap.size n c a rs s (fun pre W => ∃ pre' : List {x : Str // x ∈ resL rs s}, pre'.map (·.1) = pre ∧ J pre' W) (fun pre W => ∃ pre' : List {x : Str // x ∈ resL rs s}, pre'.map (·.1) = pre ∧ Jx pre' W) hs
      (fun pre x W h1 h2 h3 => by
        obtain ⟨pre', rfl, hJ1⟩ := h1
        refine (hY pre' ⟨x, h3⟩ W hJ1 (by simpa using h2)).mono fun en W' h => ?_
        rcases h with ⟨e1, e2, e3⟩ | ⟨e1, e2⟩
        · exact .inl ⟨e1, ⟨_, by simp, e2⟩, e3⟩
        · exact .inr ⟨e1, ⟨_, by simp, e2⟩⟩) W w0 rfl (Nat.le_trans hb0.size hW.size) (Nat.lt_of_lt_of_le (World.block_lt_of_cell? w _ hw) hW.size) (Nat.lt_of_lt_of_le (World.block_lt_of_cell? w _ hr) hW.size)
      (hb0.trans (hW.mono hb0.size)) hx (fun s' W1 W2 row h1 hg hr => by obtain ⟨p, hp, hJ1⟩ := h1; exact ⟨p, hp, hJ p W1 W2 row hJ1 hg hr⟩) (cell_keep hW hw) (cell_keep hW hr) ⟨[], rfl, h0⟩
    refine hres.mono fun en W' h => ⟨h.1, ?_⟩
    rcases h.2 with ⟨zs, hz, p, hp, hJ1⟩ | ⟨pre, hpre, p, hp, hJ1⟩
    · exact .inl ⟨p, hp.trans hz, hJ1⟩
    · exact .inr ⟨p, by rw [← hp] at hpre; exact hpre, hJ1⟩
end Go.Proofs.Ytamdonlncfmmmaa
