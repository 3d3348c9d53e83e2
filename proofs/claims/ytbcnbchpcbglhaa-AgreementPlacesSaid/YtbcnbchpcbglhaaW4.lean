import Derived.Test.YtbcnbchpcbglhaaW3
namespace Go.Proofs.Ytbcnbchpcbglhaa
open Go.RowKit Go.Ap Go.Shelf

attribute [local go_sem] Oper.semAt_some

def agrP (pre : List (Int × Int)) : Nat := (pre.filter eqP).length
theorem agrP_yes {pre : List (Int × Int)} {x : Int × Int} (h : x.1 = x.2) : agrP (pre ++ [x]) = agrP pre + 1 := by simp [agrP, eqP, h]
theorem agrP_no {pre : List (Int × Int)} {x : Int × Int} (h : ¬ x.1 = x.2) : agrP (pre ++ [x]) = agrP pre := by simp [agrP, eqP, h]
theorem agrP_le (pre : List (Int × Int)) : agrP pre ≤ pre.length := List.length_filter_le _ _

set_option maxRecDepth 100000 in
set_option maxHeartbeats 2000000 in
theorem agreeing52 (aa ab : Option Addr) (n n2 ca cb : Nat) (xs ys : List Int) (w : World) (hn : n ≤ n2) (hx : Ints w aa n xs) (hy : Ints w ab n2 ys) :
    CallsIn Fence.wide 10 Try.prog 52 #[.slice aa n ca, .slice ab n2 cb] w fun e W' => e = .returned (.int .i64 (agr xs ys n : Nat)) ∧ Below w.heap.size w W' := by
  have hsm := hx.small
  have hcl := cmpd_le xs ys n
  have hF64 : Fence.wide.fn 64 := trivial
  obtain ⟨W0, hW0, hB0, hbx, hseq⟩ := known_new aa ab n n2 ca cb xs ys w hn hx hy
  have HW0 := Lib.hid hW0
  have HS := Lib.hid hseq
  have HBX := Lib.hid hbx
  have eg : ∀ args w, (callFunc 76 args).run Try.prog w = .ok (.enter 76 args) w := enters_of Try.func76 (by kernel_rfl) rfl
  clear hW0 hseq hbx
  refine callsIn_of_wp_marks Try.func52 rfl trivial ?_ rfl
  simp only [Try.ntmps52, List.size_toArray, List.length_cons, List.length_nil, Nat.reduceAdd, Nat.reduceSub, Array.replicate_succ, Array.replicate_zero, List.push_toArray, List.append_toArray, List.nil_append, List.cons_append]
  gi_wp2_with (fail)
  refine (callsIn_wide.2 (known64 _ _ _ _ _ _ _)).mono ?_
  rintro e w' ⟨rfl, hw'⟩
  simp only [World.size_alloc] at hw' ⊢
  rw [← HW0.out] at hw'
  subst hw'
  gi_wp2_with (fail)
  refine wpIn_rangeFunc_ownG (F := Fence.wide) rfl (by omega) (gf := 76) rfl trivial eg
    (HS.out _ (by omega)) KeepBut.trans (keepBut_b (Nat.le_refl _)) (Below.refl _ _) (fun _ => rfl)
    (fun (pre : List (Int × Int)) W => Boxed W w.heap.size 3 (.int .i64 (agrP pre : Nat)) ∧ Below w.heap.size w W)
    (fun _ _ _ => False)
    (OwnFrom.and (Own.from (boxed_own w.heap.size 3 (fun pre : List (Int × Int) => .int .i64 (agrP pre : Nat))) _) (ownFrom_below (Nat.le_refl _) (by have := hB0.size; omega)))
    (fun _ _ _ _ _ hs _ _ => hs)
    ⟨HBX.out, hB0⟩
    (fun x => { tmps := #[.slice aa n ca, .slice ab n2 cb, undef, undef, .int .i64 0, .pointer (some ⟨w.heap.size, 0, none⟩), .int .i64 x.1, .int .i64 x.2, .slice aa n ca, .slice ab n2 cb, .func (.func 76) #[] #[.pointer (some ⟨w.heap.size + 1, 0, none⟩), .pointer (some ⟨w.heap.size + 1 + 1, 0, none⟩)], .int .i64 x.1, .int .i64 x.2, undef, undef, undef, undef, undef, undef], defers := [] }) ?assign ?body ?done ?stop
  case assign =>
    intro l x W K hK
    gi_wp2
    simpa using hK
  case body =>
    rintro l pre ⟨x, y⟩ W ⟨hv, hB⟩ hlt
    have hc := hv.cell
    have hf := hv.frozen
    have hln : agrP pre < n := by have := agrP_le pre; unfold cmpd at hcl; omega
    have HV := Lib.hid hv
    by_cases h : x = y
    · have hb : (x == y) = true := by simpa using h
      have HA := Lib.hid (agrP_yes (pre := pre) (x := (x, y)) h)
      clear h hv
      gi_wp2_with (fail)
      exact ⟨(KeepsOthers.setCell _ _ _).from _, KeepBut.setCell _ _, ⟨by rw [HA.out]; simpa using HV.out.set (.int .i64 (agrP pre + 1 : Nat)), hB.setCell (p := ⟨w.heap.size, 0, none⟩) (Nat.le_refl _) _⟩⟩
    · have hb : (x == y) = false := by simpa using h
      have HA := Lib.hid (agrP_no (pre := pre) (x := (x, y)) h)
      clear h hv
      gi_wp2_with (fail)
      exact ⟨(KeepsOthers.refl _).from _, KeepBut.refl _ _ _, ⟨by rw [HA.out]; exact HV.out, hB⟩⟩
  case done =>
    rintro D ys W hD rfl ⟨hv, hB⟩ hK
    have hc := hv.cell
    gi_wp2
    refine ⟨by simp, .inl ⟨_, _, rfl, run_takeDeferred hK, ?_⟩⟩
    exact ⟨_, results_tmp rfl _ _ _, rfl, hB.trans (belowK_b (w := w) (Nat.le_refl _) W D _ _ (by have := hB0.size; omega) hK rfl rfl)⟩
  case stop =>
    rintro D c pre W _ _ h _
    exact h.elim

set_option maxHeartbeats 400000 in
theorem distance49 (aa ab : Option Addr) (n n2 ca cb : Nat) (xs ys : List Int) (w : World) (hn : n ≤ n2) (hm : n ≤ 4096) (hx : Ints w aa n xs) (hy : Ints w ab n2 ys) :
    Calls Try.prog 49 #[.slice aa n ca, .slice ab n2 cb] w fun e w' => e = .returned (.int .i64 (dist xs ys n)) ∧ Below w.heap.size w w' := by
  have H1 := Lib.hid (callsIn_wide.1 (compared55 aa ab n n2 ca cb xs ys w hn hx hy))
  have H2 := Lib.hid (fun (W : World) (hb : Below w.heap.size w W) => callsIn_wide.1 (agreeing52 aa ab n n2 ca cb xs ys W hn (hx.mono (Nat.le_refl _) hb) (hy.mono (Nat.le_refl _) hb)))
  have hle := agr_le xs ys n
  have hcl := cmpd_le xs ys n
  clear hx hy
  unfold dist
  generalize cmpd xs ys n = c at *
  generalize agr xs ys n = g at *
  by_cases h0 : c = 0
  · subst h0
    have hD : distN 0 g = 1000 := rfl
    rw [hD]
    clear hD
    go_enter Try.func49, Try.ntmps49
    go_wp2_with (fail)
    refine (H1.out).mono ?_
    rintro e w1 ⟨rfl, hb⟩
    go_wp2_with (fail)
    go_ret
    exact ⟨rfl, hb⟩
  · have hb0 : ((c : Int) == 0) = false := by rw [beq_eq_false_iff_ne]; omega
    have HD := Lib.hid (show distN c g = (2000 * ((c : Int) - g) + c) / (2 * c) by rw [distN, if_neg h0])
    go_enter Try.func49, Try.ntmps49
    go_wp2_with (fail)
    refine (H1.out).mono ?_
    rintro e w1 ⟨rfl, hb⟩
    go_wp2_with (fail)
    refine (H2.out w1 hb).mono ?_
    rintro e w2 ⟨rfl, hb2⟩
    go_wp2_with (fail)
    go_ret
    exact ⟨ret_i HD.out.symm, bstep hb hb2⟩

theorem counts54 (aa ab : Option Addr) (n n2 ca cb : Nat) (xs ys : List Int) (w : World) (hn : n ≤ n2) (hx : Ints w aa n xs) (hy : Ints w ab n2 ys) :
    Calls Try.prog 54 #[.slice aa n ca, .slice ab n2 cb] w fun e w' => e = .returned (.tuple #[.int .i64 (cmpd xs ys n : Nat), .int .i64 (agr xs ys n : Nat)]) ∧ ∃ q, w' = w.drewN q := by
  have hsm := hx.small
  have hsm2 := hy.small
  have HX := Lib.hid hx
  have HY := Lib.hid hy
  clear hx hy
  go_enter Try.func54, Try.ntmps54
  go_wp2
  go_loopw [6, 7, 8] (fun c g i wr => ∃ (k q : Nat), k ≤ n ∧ i = .int .i64 k ∧ c = .int .i64 (cmpd xs ys k : Nat) ∧ g = .int .i64 (agr xs ys k : Nat) ∧ wr = w.drewN q) (fun _ _ i _ => n - (intOf i).toNat)
  case atStart => exact ⟨0, 0, by omega, rfl, rfl, rfl, rfl⟩
  case round =>
    obtain ⟨k, q, hk, rfl, rfl, rfl, rfl⟩ := hrel
    by_cases hlt : k < n
    · obtain ⟨b1, o1, rfl, hc1⟩ := Ints.at HX.out (by omega)
      obtain ⟨b2, o2, rfl, hc2⟩ := Ints.at HY.out (by omega)
      have hcell1 := hc1 k hlt
      have hcell2 := hc2 k (by omega)
      have hkn2 : k < n2 := by omega
      clear hc1 hc2
      obtain ⟨x, hxe⟩ : ∃ x, nth xs k = x := ⟨_, rfl⟩
      obtain ⟨y, hye⟩ : ∃ y, nth ys k = y := ⟨_, rfl⟩
      rw [hxe] at hcell1
      rw [hye] at hcell2
      have HXE := Lib.hid hxe
      have HYE := Lib.hid hye
      have hc0 := cmpd_le xs ys k
      have ha0 := agr_le xs ys k
      clear hxe hye
      by_cases hp : knP (x, y) = true
      · have hp' : knP (nth xs k, nth ys k) = true := by rw [HXE.out, HYE.out]; exact hp
        have HC := Lib.hid (show cmpd xs ys (k + 1) = cmpd xs ys k + 1 by rw [cmpd, knL_yes hp', List.length_append]; rfl)
        have hx0 : 0 ≤ x := by simp [knP] at hp; exact hp.1
        have hy0 : 0 ≤ y := by simp [knP] at hp; exact hp.2
        have d1 : decide (0 ≤ x) = true := by simpa using hx0
        have d2 : decide (0 ≤ y) = true := by simpa using hy0
        have hk1 : knL xs ys (k + 1) = knL xs ys k ++ [(x, y)] := by rw [knL_yes hp', HXE.out, HYE.out]
        by_cases h : x = y
        · have HA := Lib.hid (show agr xs ys (k + 1) = agr xs ys k + 1 by unfold agr; rw [hk1]; exact agrP_yes (pre := knL xs ys k) (x := (x, y)) h)
          have hb : (x == y) = true := by simpa using h
          clear h hp hp' hk1
          go_wp2
          go_quiet (fail)
          go_wp2
          exact ⟨⟨k + 1, _, by omega, by go_num, by rw [HC.out]; go_num, by rw [HA.out]; go_num, rfl⟩, by simp [intOf]; omega⟩
        · have HA := Lib.hid (show agr xs ys (k + 1) = agr xs ys k by unfold agr; rw [hk1]; exact agrP_no (pre := knL xs ys k) (x := (x, y)) h)
          have hb : (x == y) = false := by simpa using h
          clear h hp hp' hk1
          go_wp2
          go_quiet (fail)
          go_wp2
          exact ⟨⟨k + 1, _, by omega, by go_num, by rw [HC.out]; go_num, by rw [HA.out], rfl⟩, by simp [intOf]; omega⟩
      · have hp' : knP (nth xs k, nth ys k) = false := by rw [HXE.out, HYE.out]; simpa using hp
        have HC := Lib.hid (show cmpd xs ys (k + 1) = cmpd xs ys k by rw [cmpd, knL_no hp']; rfl)
        have HA := Lib.hid (show agr xs ys (k + 1) = agr xs ys k by rw [agr, knL_no hp']; rfl)
        by_cases hx0 : 0 ≤ x
        · have hy0 : ¬ 0 ≤ y := fun h => hp (knP_yes hx0 h)
          have d1 : decide (0 ≤ x) = true := by simpa using hx0
          have d2 : decide (0 ≤ y) = false := by simpa using hy0
          clear hp hp'
          go_wp2
          exact ⟨⟨k + 1, _, by omega, by go_num, by rw [HC.out], by rw [HA.out], rfl⟩, by simp [intOf]; omega⟩
        · have d1 : decide (0 ≤ x) = false := by simpa using hx0
          clear hp hp'
          go_wp2
          exact ⟨⟨k + 1, _, by omega, by go_num, by rw [HC.out], by rw [HA.out], rfl⟩, by simp [intOf]; omega⟩
    · obtain rfl : k = n := by omega
      go_wp2
      go_ret2
      exact ⟨rfl, _, rfl⟩

end Go.Proofs.Ytbcnbchpcbglhaa
