/-
  The iterator over runs of columns.
-/
import Derived.Test.YthfppkcefnmdoaaGreatDoorNe
import Derived.Test.YthfppkcefnmdoaaGreatDoorNa
import Derived.Test.YthfppkcefnmdoaaGreatDoorPl
namespace Go.Proofs.YthfppkcefnmdoaaGreatDoor
open Go.RowKit Go.Ap Go.Shelf Go.Proofs

attribute [local go_sem] Oper.semAt_some bs_toList empty_toList bs_size bs_extract
/-- a box that holds a collation -/
structure BoxC (W : World) (b : Nat) (sec : Str) (a1 : Option Addr) (n1 c1 : Nat) (a2 : Option Addr) (n2 c2 : Nat) (a3 : Option Addr) (n3 c3 : Nat) : Prop where
  k0 : W.cell? ⟨b, 0, none⟩ = some (.string (bs sec))
  k1 : W.cell? ⟨b, 1, none⟩ = some (.slice a1 n1 c1)
  k2 : W.cell? ⟨b, 2, none⟩ = some (.slice a2 n2 c2)
  k3 : W.cell? ⟨b, 3, none⟩ = some (.slice a3 n3 c3)
section
variable {W W' : World} {b e b1 b2 : Nat} {sec : Str} {a1 : Option Addr} {n1 c1 : Nat} {a2 : Option Addr} {n2 c2 : Nat} {a3 : Option Addr} {n3 c3 : Nat}
theorem BoxC.below (h : BoxC W b sec a1 n1 c1 a2 n2 c2 a3 n3 c3) (hb : Below W.heap.size W W') : BoxC W' b sec a1 n1 c1 a2 n2 c2 a3 n3 c3 :=
  ⟨cell_keep hb h.k0, cell_keep hb h.k1, cell_keep hb h.k2, cell_keep hb h.k3⟩
theorem BoxC.kept (h : BoxC W b1 sec a1 n1 c1 a2 n2 c2 a3 n3 c3) (hk : KeepR e b1 b2 W W') : BoxC W' b1 sec a1 n1 c1 a2 n2 c2 a3 n3 c3 :=
  ⟨(hk.cell (.inr (.inl rfl))).trans h.k0, (hk.cell (.inr (.inl rfl))).trans h.k1, (hk.cell (.inr (.inl rfl))).trans h.k2, (hk.cell (.inr (.inl rfl))).trans h.k3⟩
theorem BoxC.new (w : World) (sec : Str) (a1 : Option Addr) (n1 c1 : Nat) (a2 : Option Addr) (n2 c2 : Nat) (a3 : Option Addr) (n3 c3 : Nat) : BoxC (w.alloc (.cells #[.string (bs sec), .slice a1 n1 c1, .slice a2 n2 c2, .slice a3 n3 c3] 26)) w.heap.size sec a1 n1 c1 a2 n2 c2 a3 n3 c3 :=
  ⟨cell_fresh rfl rfl, cell_fresh rfl rfl, cell_fresh rfl rfl, cell_fresh rfl rfl⟩
end
theorem grown_of_below {w w' : World} (h : Below w.heap.size w w') : w.grownBy w' none := ⟨h.os, h.tape, h.output, h.size, fun k hk _ => h.block k hk⟩

set_option maxRecDepth 100000 in
set_option maxHeartbeats 8000000 in
theorem runs_it (F : Fence) (hF : F = Fence.wide) (m : Nat) (hm : 1 ≤ m) (l Bx e : Nat) (x : Coll) (a1 : Option Addr) (n1 c1 : Nat) (a2 : Option Addr) (n2 c2 : Nat) (a3 : Option Addr) (n3 c3 : Nat) (J Jx : List (Nat × Nat) → World → Prop) (hv : Val x)
    (hY : ∀ pre (r : Nat × Nat) W, J pre W → pre.length < (runsF (comB x) n3 0).length → r ∈ runsF (comB x) n3 0 → YieldAt F (m - 1) Tryz.prog l #[.int .i64 (r.1 : Int), .int .i64 (r.2 : Int)] W fun en W' =>
      (en = .returned (.bool true) ∧ J (pre ++ [r]) W' ∧ KeepR e Bx Bx W W') ∨ (en = .returned (.bool false) ∧ Jx (pre ++ [r]) W'))
    (W w0 : World) (he : w0.heap.size = e) (heW : e ≤ W.heap.size) (hBx : Bx < W.heap.size) (hwW : Below e w0 W) (hx : CollM w0 a1 a2 a3 n1 n2 n3 x) (hJ : AbidesFrom W.heap.size J)
    (hbx : BoxC W Bx x.sec a1 n1 c1 a2 n2 c2 a3 n3 c3) (h0 : J [] W) :
    CallsIn F m Tryz.prog 81 #[.func (.yield l) #[] #[], .pointer (some ⟨Bx, 0, none⟩)] W fun en W' => (∃ v, en = .returned v) ∧
      ((∃ zs, zs = runsF (comB x) n3 0 ∧ J zs W') ∨ (∃ pre, pre <+: runsF (comB x) n3 0 ∧ Jx pre W')) := by
  subst hF
  have hl3 := hx.columns.len
  have hs3 := hx.columns.small
  have HJ := Lib.hid hJ
  have HBX := Lib.hid hbx
  have HY := Lib.hid (show ∀ pre (r : Nat × Nat) W, J pre W → pre.length < (runsF (comB x) n3 0).length → r ∈ runsF (comB x) n3 0 → YieldAt Fence.wide (m - 1) Tryz.prog l #[.int .i64 (r.1 : Int), .int .i64 (r.2 : Int)] W fun en W' => ∃ b, en = .returned (.bool b) ∧ AnsC J Jx e Bx Bx pre r W b W' from fun pre x W h1 h2 h3 => (hY pre x W h1 h2 h3).mono fun en W' h => by
    rcases h with ⟨h, h3⟩ | ⟨h, h3⟩
    · exact ⟨true, h, .inl ⟨rfl, h3⟩⟩
    · exact ⟨false, h, .inr ⟨rfl, h3⟩⟩)
  have HCM := Lib.hid (fun i (hi : i < n3) W' (hk : KeepR e Bx Bx W W') => commonP x a1 n1 c1 a2 n2 c2 a3 n3 c3 W' (hx.mono (Nat.le_of_eq he) (hwW.trans hk.below)) hv i (by omega))
  have HKB := Lib.hid (show ∀ (A C : World), W.heap.size ≤ A.heap.size → Below A.heap.size A C → KeepR e Bx Bx A C from fun A C hA hb => KeepR.of_below hb (by omega) (by omega) (by omega))
  clear hY hx hJ hbx hv
  unfold collV at HCM
  have hFc : Fence.wide.fn 82 := trivial
  refine callsIn_of_wp Tryz.func81 rfl trivial ?_ rfl
  simp only [Tryz.ntmps81, List.size_toArray, List.length_cons, List.length_nil, Nat.reduceAdd, Nat.reduceSub, Array.replicate_succ, Array.replicate_zero, List.push_toArray, List.append_toArray, List.nil_append, List.cons_append]
  gi_wp2
  gi_loopw [3] (fun fv wr => ∃ (k : Nat) (pre : List (Nat × Nat)), k ≤ n3 + 1 ∧ fv = .int .i64 k ∧ pre ++ runsF (comB x) n3 k = runsF (comB x) n3 0 ∧ J pre wr ∧ KeepR e Bx Bx W wr)
    (fun fv _ => n3 + 1 - (intOf fv).toNat)
  case atStart => exact ⟨0, [], Nat.zero_le _, rfl, by simp, h0, KeepR.refl _ _ _ _⟩
  case round =>
    obtain ⟨wo, rfl⟩ : ∃ wo : World, wo = wr := ⟨_, rfl⟩
    obtain ⟨k, pre, hk, rfl, hpre, hJp, hkr⟩ := hrel
    have HPRE := Lib.hid hpre
    have HJP := Lib.hid hJp
    have HKR := Lib.hid hkr
    obtain ⟨g0, g1, g2, g3⟩ := HBX.out.kept hkr
    clear hpre hJp hkr
    by_cases hkn : k < n3
    · gi_wp2_with (fail)
      clear g0 g1 g2 g3
      gi_loopw [4] (fun tv wk => ∃ t : Nat, k ≤ t ∧ t ≤ n3 ∧ tv = .int .i64 t ∧ endF (comB x) (n3 - k) k = endF (comB x) (n3 - t) t ∧ J pre wk ∧ KeepR e Bx Bx W wk)
        (fun tv _ => n3 - (intOf tv).toNat)
      case atStart => exact ⟨k, Nat.le_refl _, by omega, rfl, rfl, HJP.out, HKR.out⟩
      case round =>
        obtain ⟨t, hkt, htn, rfl, hend, hJt, hkt2⟩ := hrel
        have HEND := Lib.hid hend
        have HJT := Lib.hid hJt
        have HKT := Lib.hid hkt2
        have hszk := hkt2.size
        obtain ⟨g0, g1, g2, g3⟩ := HBX.out.kept hkt2
        clear hend hJt hkt2
        by_cases htl : t < n3
        · have HC := Lib.hid (HCM.out t htl wr HKT.out)
          cases hc : comB x t
          · have HN := Lib.hid (show endF (comB x) (n3 - k) k = endF (comB x) (n3 - (t + 1)) (t + 1) by rw [HEND.out, show n3 - t = (n3 - (t + 1)) + 1 by omega, endF_no hc])
            rw [hc] at HC
            clear hc
            gi_wp2_with (fail)
            refine (callsIn_wide.2 HC.out).mono ?_
            rintro e2 w1 ⟨rfl, hb⟩
            have HK1 := Lib.hid (HKT.out.trans (HKB.out _ _ hszk hb))
            have HJ1 := Lib.hid (HJ.out _ _ _ none HJT.out (grown_of_below hb) (by simp))
            clear hb g0 g1 g2 g3
            gi_wp2_with (fail)
            go_roundw
            case rel => exact ⟨t + 1, by omega, by omega, by simp, HN.out, HJ1.out, HK1.out⟩
            case measure => simp [intOf]; omega
          · have HN := Lib.hid (show endF (comB x) (n3 - k) k = t by rw [HEND.out, endF_yes hc])
            rw [hc] at HC
            clear hc
            have HRF := Lib.hid (runsF_at (comB x) hkn HN.out)
            by_cases hlt : k < t
            · gi_wp2_with (fail)
              refine (callsIn_wide.2 HC.out).mono ?_
              rintro e2 w1 ⟨rfl, hb⟩
              have HK1 := Lib.hid (HKT.out.trans (HKB.out _ _ hszk hb))
              have HJ1 := Lib.hid (HJ.out _ _ _ none HJT.out (grown_of_below hb) (by simp))
              clear hb g0 g1 g2 g3
              obtain ⟨fn, tmps, assign, body, hy, hR⟩ := HY.out pre (k, t) _ HJ1.out (by rw [← HPRE.out, HRF.out, if_pos hlt]; simp) (by rw [← HPRE.out, HRF.out, if_pos hlt]; simp)
              gi_wp2_with (refine hR.mono ?_; rintro en W5 ⟨ans, rfl, hans⟩)
              all_goals clear hy hR
              all_goals have HANS := Lib.hid hans
              all_goals clear hans
              all_goals rcases HANS.out with ⟨rfl, hJ3, hk3⟩ | ⟨rfl, hJx3⟩
              all_goals clear HANS
              all_goals first
                | (exfalso; simp_all; done)
                | exact ⟨⟨t + 1, pre ++ [(k, t)], by omega, by simp, by rw [← HPRE.out, HRF.out, if_pos hlt]; simp, hJ3, HK1.out.trans hk3⟩, by simp [intOf]; omega⟩
                | exact bodyPost_ret (results_none rfl _ _ _) rfl ⟨⟨_, rfl⟩, .inr ⟨_, by rw [← HPRE.out, HRF.out, if_pos hlt]; exact ⟨runsF (comB x) n3 (t + 1), by simp⟩, hJx3⟩⟩
            · gi_wp2_with (fail)
              refine (callsIn_wide.2 HC.out).mono ?_
              rintro e2 w1 ⟨rfl, hb⟩
              have HK1 := Lib.hid (HKT.out.trans (HKB.out _ _ hszk hb))
              have HJ1 := Lib.hid (HJ.out _ _ _ none HJT.out (grown_of_below hb) (by simp))
              clear hb g0 g1 g2 g3
              gi_wp2_with (fail)
              refine ⟨fun _ h => (by cases h), ?_⟩
              gi_wp2_with (fail)
              go_roundw
              case rel => exact ⟨t + 1, pre, by omega, by simp, by rw [← HPRE.out, HRF.out, if_neg hlt]; simp, HJ1.out, HK1.out⟩
              case measure => simp [intOf]; omega
        · obtain rfl : t = n3 := by omega
          have HN := Lib.hid (show endF (comB x) (t - k) k = t by rw [HEND.out, Nat.sub_self]; rfl)
          have HRF := Lib.hid (runsF_at (comB x) hkn HN.out)
          have hlt : k < t := hkn
          have HK1 := HKT
          have HJ1 := HJT
          obtain ⟨fn, tmps, assign, body, hy, hR⟩ := HY.out pre (k, t) _ HJ1.out (by rw [← HPRE.out, HRF.out, if_pos hlt]; simp) (by rw [← HPRE.out, HRF.out, if_pos hlt]; simp)
          gi_wp2_with (refine hR.mono ?_; rintro en W5 ⟨ans, rfl, hans⟩)
          all_goals clear hy hR
          all_goals have HANS := Lib.hid hans
          all_goals clear hans
          all_goals rcases HANS.out with ⟨rfl, hJ3, hk3⟩ | ⟨rfl, hJx3⟩
          all_goals clear HANS
          all_goals first
            | (exfalso; simp_all; done)
            | exact ⟨⟨t + 1, pre ++ [(k, t)], by omega, by simp, by rw [← HPRE.out, HRF.out, if_pos hlt]; simp, hJ3, HK1.out.trans hk3⟩, by simp [intOf]; omega⟩
            | exact bodyPost_ret (results_none rfl _ _ _) rfl ⟨⟨_, rfl⟩, .inr ⟨_, by rw [← HPRE.out, HRF.out, if_pos hlt]; exact ⟨runsF (comB x) t (t + 1), by simp⟩, hJx3⟩⟩
    · have HZ := Lib.hid (show pre = runsF (comB x) n3 0 by rw [← HPRE.out, runsF_done _ (by omega), List.append_nil])
      gi_wp2_with (fail)
      go_end0
      exact ⟨⟨_, rfl⟩, .inl ⟨_, rfl, by rw [← HZ.out]; exact HJP.out⟩⟩

theorem runsP (x : Coll) (a1 : Option Addr) (n1 c1 : Nat) (a2 : Option Addr) (n2 c2 : Nat) (a3 : Option Addr) (n3 c3 : Nat) (w : World) :
    Calls Tryz.prog 53 #[collV x.sec a1 n1 c1 a2 n2 c2 a3 n3 c3] w fun e w' => e = .returned (.func (.func 81) #[] #[.pointer (some ⟨w.heap.size, 0, none⟩)]) ∧
      BoxC w' w.heap.size x.sec a1 n1 c1 a2 n2 c2 a3 n3 c3 ∧ Below w.heap.size w w' := by
  unfold collV
  go_enter Tryz.func53, Tryz.ntmps53
  go_wp2_with (fail)
  go_ret
  exact ⟨rfl, BoxC.new _ _ _ _ _ _ _ _ _ _ _, balloc _ _⟩
/-- the iterator value: all runs, in order, each with the proof that it is one -/
theorem runs_stops (x : Coll) (a1 : Option Addr) (n1 c1 : Nat) (a2 : Option Addr) (n2 c2 : Nat) (a3 : Option Addr) (n3 c3 : Nat) (w w0 : World) (hx : CollM w0 a1 a2 a3 n1 n2 n3 x) (hv : Val x) (Bx : Nat) (hb0 : Below w0.heap.size w0 w) (hBx : Bx < w.heap.size)
    (hbx : BoxC w Bx x.sec a1 n1 c1 a2 n2 c2 a3 n3 c3) (m : Nat) (hm : 1 ≤ m) :
    SeqStopsK Fence.wide m Tryz.prog 81 #[.pointer (some ⟨Bx, 0, none⟩)] (fun r : {r : Nat × Nat // r ∈ runsF (comB x) n3 0} => #[Value.int .i64 (r.1.1 : Int), .int .i64 (r.1.2 : Int)]) (KeepR w0.heap.size Bx Bx) (fun ys => ys.map (·.1) = runsF (comB x) n3 0) (fun pre => pre.map (·.1) <+: runsF (comB x) n3 0) (runsF (comB x) n3 0).length w :=
  fun l J Jx W hW hJ hJx hY h0 => by
    have hres := runs_it Fence.wide rfl m hm l Bx w0.heap.size x a1 n1 c1 a2 n2 c2 a3 n3 c3 (fun pre W => ∃ pre' : List {r : Nat × Nat // r ∈ runsF (comB x) n3 0}, pre'.map (·.1) = pre ∧ J pre' W) (fun pre W => ∃ pre' : List {r : Nat × Nat // r ∈ runsF (comB x) n3 0}, pre'.map (·.1) = pre ∧ Jx pre' W) hv
      (fun pre r W h1 h2 h3 => by
        obtain ⟨pre', rfl, hJ1⟩ := h1
        refine (hY pre' ⟨r, h3⟩ W hJ1 (by simpa using h2)).mono fun en W' h => ?_
        rcases h with ⟨e1, e2, e3⟩ | ⟨e1, e2⟩
        · exact .inl ⟨e1, ⟨_, by simp, e2⟩, e3⟩
        · exact .inr ⟨e1, ⟨_, by simp, e2⟩⟩) W w0 rfl (Nat.le_trans hb0.size hW.size) (Nat.lt_of_lt_of_le hBx hW.size) (hb0.trans (hW.mono hb0.size)) hx
      (fun s' W1 W2 row h1 hg hr => by obtain ⟨p, hp, hJ1⟩ := h1; exact ⟨p, hp, hJ p W1 W2 row hJ1 hg hr⟩) (hbx.below hW) ⟨[], rfl, h0⟩
    refine hres.mono fun en W' h => ⟨h.1, ?_⟩
    rcases h.2 with ⟨zs, hz, p, hp, hJ1⟩ | ⟨pre, hpre, p, hp, hJ1⟩
    · exact .inl ⟨p, hp.trans hz, hJ1⟩
    · exact .inr ⟨p, by rw [← hp] at hpre; exact hpre, hJ1⟩
end Go.Proofs.YthfppkcefnmdoaaGreatDoor
