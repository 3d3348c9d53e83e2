/-
  Same: equal postings are the same (reference).
-/
import Derived.Test.YtngdmpkoedpgdaaGreatDoorQ3
import Derived.Test.YtngdmpkoedpgdaaGreatDoorNc
namespace Go.Ap
theorem take_step {α : Type} {xs ys : List α} {k : Nat} {u v : α} (hx : xs[k]? = some u) (hy : ys[k]? = some v) (h : xs.take k = ys.take k) (he : u = v) : xs.take (k + 1) = ys.take (k + 1) := by
  rw [List.take_add_one, List.take_add_one, hx, hy, h, he]
theorem take_ne {α : Type} {xs ys : List α} {k : Nat} {u v : α} (hx : xs[k]? = some u) (hy : ys[k]? = some v) (he : u ≠ v) : xs ≠ ys := fun e => by
  subst e
  rw [hx] at hy
  exact he (Option.some.inj hy)
theorem take_all {α : Type} {xs ys : List α} {n : Nat} (h1 : xs.length = n) (h2 : ys.length = n) (h : xs.take n = ys.take n) : xs = ys := by
  rwa [List.take_of_length_le (by omega), List.take_of_length_le (by omega)] at h
open Go in
theorem quietC {P : Program} {f : FuncId} {args : Array Value} {w : World} {n : Nat} {v : Value} (h : Calls P f args (w.drewN n) fun e w' => e = .returned v ∧ ∃ q, w' = (w.drewN n).drewN q) : Calls P f args (w.drewN n) fun e w'' => e = .returned v ∧ ∃ m, w'' = w.drewN m :=
  h.mono fun _ _ ⟨he, q, hq⟩ => ⟨he, n + q, by rw [hq, drewN2]⟩
end Go.Ap
namespace Go.Proofs.YtngdmpkoedpgdaaGreatDoor
open Go.RowKit Go.Ap Go.Shelf Go.Proofs

attribute [local go_sem] Oper.semAt_some bs_toList empty_toList bs_size bs_extract
set_option maxHeartbeats 2000000 in
theorem sameIq (a a' : Option Addr) (c c' n n' : Nat) (xs ys : List Int) (w : World) (h : Ints w a n xs) (h' : Ints w a' n' ys) : Calls Tryz.prog 86 #[.slice a n c, .slice a' n' c'] w fun e w' => e = .returned (.bool (decide (xs = ys))) ∧ ∃ q, w' = w.drewN q := by
  have hl := h.len
  have hl' := h'.len
  have hs := h.small
  have hs' := h'.small
  have HX := Lib.hid hl
  have HY := Lib.hid hl'
  have H1 := Lib.hid h
  have H2 := Lib.hid h'
  obtain ⟨R, hR⟩ : ∃ R, decide (xs = ys) = R := ⟨_, rfl⟩
  rw [hR]
  have HR := Lib.hid hR
  by_cases hn : n = n'
  · subst hn
    clear h h' hR hl hl'
    go_enter Tryz.func86, Tryz.ntmps86
    go_wp2_with (fail)
    go_loopw [5] (fun iv wr => ∃ k q : Nat, k ≤ n ∧ iv = .int .i64 k ∧ wr = w.drewN q ∧ xs.take k = ys.take k) (fun iv _ => n - (intOf iv).toNat)
    case atStart => exact ⟨0, 0, Nat.zero_le _, rfl, rfl, by simp⟩
    case round =>
      obtain ⟨k, q, hk, rfl, rfl, ht⟩ := hrel
      have HT := Lib.hid ht
      clear ht
      by_cases hkn : k < n
      · obtain ⟨u, b, off, v, hu, rfl, hc, hr⟩ := Sl.at H1.out hkn
        obtain ⟨u', b', off', v', hu', rfl, hc', hr'⟩ := Sl.at H2.out hkn
        obtain ⟨rfl, _⟩ := hr
        obtain ⟨rfl, _⟩ := hr'
        have HU := Lib.hid hu
        have HU' := Lib.hid hu'
        clear hu hu'
        by_cases huv : u = u'
        · have eu : (u != u') = false := by rw [bne_eq_false_iff_eq]; exact huv
          have HE := Lib.hid huv
          clear huv
          go_wp2_with (fail)
          go_quiet (fail)
          go_wp2_with (fail)
          exact ⟨⟨k + 1, q + nq, by omega, by simp, by simp, take_step HU.out HU'.out HT.out HE.out⟩, by simp [intOf]; omega⟩
        · have eu : (u != u') = true := by rw [bne_iff_ne]; exact huv
          have HE := Lib.hid (show R = false by rw [← HR.out]; exact decide_eq_false (take_ne HU.out HU'.out huv))
          clear huv
          go_wp2_with (fail)
          go_quiet (fail)
          go_wp2_with (fail)
          go_ret
          exact ⟨ret_b HE.out.symm, drewN_ex _ _ _⟩
      · obtain rfl : k = n := by omega
        have HE := Lib.hid (show R = true by rw [← HR.out]; exact decide_eq_true (take_all HX.out HY.out HT.out))
        go_wp2_with (fail)
        go_ret
        exact ⟨ret_b HE.out.symm, _, rfl⟩
  · have HE := Lib.hid (show R = false by rw [← hR, decide_eq_false_iff_not]; intro e; exact hn (by rw [← hl, ← hl', e]))
    have dn : ((n : Int) != (n' : Int)) = true := by simp; omega
    clear h h' hR hl hl'
    go_enter Tryz.func86, Tryz.ntmps86
    go_wp2_with (fail)
    go_ret
    exact ⟨ret_b HE.out.symm, 0, rfl⟩
theorem sameI (a a' : Option Addr) (c c' n n' : Nat) (xs ys : List Int) (w : World) (h : Ints w a n xs) (h' : Ints w a' n' ys) : Calls Tryz.prog 86 #[.slice a n c, .slice a' n' c'] w fun e w' => e = .returned (.bool (decide (xs = ys))) ∧ Below w.heap.size w w' :=
  (sameIq a a' c c' n n' xs ys w h h').mono fun e w' ⟨he, q, hq⟩ => ⟨he, by rw [hq]; exact bdrewN w q⟩
set_option maxRecDepth 100000 in
set_option maxHeartbeats 2000000 in
theorem same28 (l : List Post) (a : Option Addr) (c : Nat) (a' : Option Addr) (c' : Nat) (n n' : Nat) (w : World) (h : Posts w a n l) (h' : Posts w a' n' l) : Calls Tryz.prog 28 #[.slice a n c, .slice a' n' c'] w fun e w' => e = .returned (.bool true) ∧ Below w.heap.size w w' := by
  have hl := h.len
  have hl' := h'.len
  obtain rfl : n' = n := by omega
  have hsm := h.small
  have HX := Lib.hid h
  have HY := Lib.hid h'
  have d0 : ((n' : Int) != (n' : Int)) = false := by simp
  clear h h' hl hl'
  go_enter Tryz.func28, Tryz.ntmps28
  go_wp2_with (fail)
  go_loopw [5] (fun iv wr => ∃ i : Nat, i ≤ n' ∧ iv = .int .i64 i ∧ Below w.heap.size w wr) (fun iv _ => n' - (intOf iv).toNat)
  case atStart => exact ⟨0, Nat.zero_le _, rfl, Below.refl _ _⟩
  case round =>
    obtain ⟨wi, rfl⟩ : ∃ wi : World, wi = wr := ⟨_, rfl⟩
    obtain ⟨i, hile, rfl, hb⟩ := hrel
    have HB := Lib.hid hb
    by_cases hin : i < n'
    · obtain ⟨p, b, o, hp, rfl, x1, k1, c0, c1, c2, hps⟩ := (HX.out.mono (Nat.le_refl _) hb).at hin
      obtain ⟨p', b', o', hp', rfl, x1', k1', c0', c1', c2', hps'⟩ := (HY.out.mono (Nat.le_refl _) hb).at hin
      rw [hp] at hp'
      cases hp'
      obtain ⟨⟨wd, sc⟩, ln⟩ := p
      simp only at c0 c1 c2 c0' c1' c2'
      have HSI := Lib.hid (fun W (hw : Below wi.heap.size wi W) => by
        have := sameI x1 x1' k1 k1' ln.length ln.length ln ln W (hps.lines.mono (Nat.le_refl _) hw) (hps'.lines.mono (Nat.le_refl _) hw)
        rwa [decide_eq_true rfl] at this)
      obtain ⟨q, hq⟩ : ∃ q, ln.length = q := ⟨_, rfl⟩
      rw [hq] at c2 c2' HSI
      have HC0 := Lib.hid c0
      have HC1 := Lib.hid c1
      have HC2 := Lib.hid c2
      have HD0 := Lib.hid c0'
      have HD1 := Lib.hid c1'
      have HD2 := Lib.hid c2'
      have i1 : (i : Int) < (n' : Int) := by omega
      have z0 : (wd == wd) = true := by simp
      have z1 : (sc == sc) = true := by simp
      clear hp hps hps' hq hb c0 c1 c2 c0' c1' c2'
      go_wp2_with (fail)
      refine (wpIn_wide (n := 20)).1 ?_
      refine wpIn_region_planN (fun W' => Below wi.heap.size wi W') (.take 0 <| .take 1 <| .take 2 <| .take 3 <| .take 4 <| .take 5 <| .take 6 <| .take 7 <| .take 8 <| .take 9 <| .take 10 <| .take 11 <| .take 12 <| .take 13 <| .take 14 <| .take 15 <| .take 16 <| .take 17 <| .take 18 <| .take 19 <| .take 20 <| .take 21 <| .take 22 <| .take 23 <| .take 24 <| .take 25 <| .take 26 <| .take 27 <| .take 28 <| .take 29 <| .take 30 <| .take 31 <| .take 32 <| .take 33 <| .take 34 <| .one 35 <| .take 36 <| .take 37 .fin) (fun _ => trivial) (by kernel_rfl) (by kernel_rfl) (show Below _ wi _ from bdrewN _ 1) ?_
      have HSX := Lib.hid (show Below wi.heap.size wi wi.drew from bdrewN _ 1)
      iterate 4
        apply plan_take rfl rfl (by rfl)
        case hy =>
          rintro W' hb'
          clear hb'
          go_simp
          first | done | with_reducible rfl
        simp only [List.setIfInBounds_toArray, List.set_cons_zero, List.set_cons_succ]
      apply plan_take rfl rfl (by rfl)
      case hy =>
        rintro W' hb'
        have e0 := cell_keep hb' HC0.out
        have e1 := cell_keep hb' HC1.out
        have e2 := cell_keep hb' HC2.out
        have e3 := cell_keep hb' HD0.out
        have e4 := cell_keep hb' HD1.out
        have e5 := cell_keep hb' HD2.out
        clear hb'
        go_simp
        first | done | with_reducible rfl
      simp only [List.setIfInBounds_toArray, List.set_cons_zero, List.set_cons_succ]
      iterate 4
        apply plan_take rfl rfl (by rfl)
        case hy =>
          rintro W' hb'
          clear hb'
          go_simp
          first | done | with_reducible rfl
        simp only [List.setIfInBounds_toArray, List.set_cons_zero, List.set_cons_succ]
      apply plan_take rfl rfl (by rfl)
      case hy =>
        rintro W' hb'
        have e0 := cell_keep hb' HC0.out
        have e1 := cell_keep hb' HC1.out
        have e2 := cell_keep hb' HC2.out
        have e3 := cell_keep hb' HD0.out
        have e4 := cell_keep hb' HD1.out
        have e5 := cell_keep hb' HD2.out
        clear hb'
        go_simp
        first | done | with_reducible rfl
      simp only [List.setIfInBounds_toArray, List.set_cons_zero, List.set_cons_succ]
      iterate 2
        apply plan_take rfl rfl (by rfl)
        case hy =>
          rintro W' hb'
          clear hb'
          go_simp
          first | done | with_reducible rfl
        simp only [List.setIfInBounds_toArray, List.set_cons_zero, List.set_cons_succ]
      iterate 4
        apply plan_gd (j := 11) (t := 28) (b := false) (c := false) rfl rfl rfl rfl rfl (by simp) rfl
        case hy =>
          rintro W' hb'
          clear hb'
          go_simp
          first | done | with_reducible rfl
        simp only [List.setIfInBounds_toArray, List.set_cons_zero, List.set_cons_succ]
      apply plan_gd (j := 11) (t := 28) (b := false) (c := false) rfl rfl rfl rfl rfl (by simp) rfl
      case hy =>
        rintro W' hb'
        have e0 := cell_keep hb' HC0.out
        have e1 := cell_keep hb' HC1.out
        have e2 := cell_keep hb' HC2.out
        have e3 := cell_keep hb' HD0.out
        have e4 := cell_keep hb' HD1.out
        have e5 := cell_keep hb' HD2.out
        clear hb'
        go_simp
        first | done | with_reducible rfl
      simp only [List.setIfInBounds_toArray, List.set_cons_zero, List.set_cons_succ]
      iterate 4
        apply plan_gd (j := 11) (t := 28) (b := false) (c := false) rfl rfl rfl rfl rfl (by simp) rfl
        case hy =>
          rintro W' hb'
          clear hb'
          go_simp
          first | done | with_reducible rfl
        simp only [List.setIfInBounds_toArray, List.set_cons_zero, List.set_cons_succ]
      apply plan_gd (j := 11) (t := 28) (b := false) (c := false) rfl rfl rfl rfl rfl (by simp) rfl
      case hy =>
        rintro W' hb'
        have e0 := cell_keep hb' HC0.out
        have e1 := cell_keep hb' HC1.out
        have e2 := cell_keep hb' HC2.out
        have e3 := cell_keep hb' HD0.out
        have e4 := cell_keep hb' HD1.out
        have e5 := cell_keep hb' HD2.out
        clear hb'
        go_simp
        first | done | with_reducible rfl
      simp only [List.setIfInBounds_toArray, List.set_cons_zero, List.set_cons_succ]
      apply plan_gd (j := 11) (t := 28) (b := false) (c := false) rfl rfl rfl rfl rfl (by simp) rfl
      case hy =>
        rintro W' hb'
        clear hb'
        go_simp
        first | done | with_reducible rfl
      simp only [List.setIfInBounds_toArray, List.set_cons_zero, List.set_cons_succ]
      iterate 2
        apply plan_take rfl rfl (by rfl)
        case hy =>
          rintro W' hb'
          clear hb'
          go_simp
          first | done | with_reducible rfl
        simp only [List.setIfInBounds_toArray, List.set_cons_zero, List.set_cons_succ]
      iterate 4
        apply plan_gd (j := 24) (t := 41) (b := false) (c := false) rfl rfl rfl rfl rfl (by simp) rfl
        case hy =>
          rintro W' hb'
          clear hb'
          go_simp
          first | done | with_reducible rfl
        simp only [List.setIfInBounds_toArray, List.set_cons_zero, List.set_cons_succ]
      apply plan_gd (j := 24) (t := 41) (b := false) (c := false) rfl rfl rfl rfl rfl (by simp) rfl
      case hy =>
        rintro W' hb'
        have e0 := cell_keep hb' HC0.out
        have e1 := cell_keep hb' HC1.out
        have e2 := cell_keep hb' HC2.out
        have e3 := cell_keep hb' HD0.out
        have e4 := cell_keep hb' HD1.out
        have e5 := cell_keep hb' HD2.out
        clear hb'
        go_simp
        first | done | with_reducible rfl
      simp only [List.setIfInBounds_toArray, List.set_cons_zero, List.set_cons_succ]
      iterate 4
        apply plan_gd (j := 24) (t := 41) (b := false) (c := false) rfl rfl rfl rfl rfl (by simp) rfl
        case hy =>
          rintro W' hb'
          clear hb'
          go_simp
          first | done | with_reducible rfl
        simp only [List.setIfInBounds_toArray, List.set_cons_zero, List.set_cons_succ]
      apply plan_gd (j := 24) (t := 41) (b := false) (c := false) rfl rfl rfl rfl rfl (by simp) rfl
      case hy =>
        rintro W' hb'
        have e0 := cell_keep hb' HC0.out
        have e1 := cell_keep hb' HC1.out
        have e2 := cell_keep hb' HC2.out
        have e3 := cell_keep hb' HD0.out
        have e4 := cell_keep hb' HD1.out
        have e5 := cell_keep hb' HD2.out
        clear hb'
        go_simp
        first | done | with_reducible rfl
      simp only [List.setIfInBounds_toArray, List.set_cons_zero, List.set_cons_succ]
      refine plan_one rfl ?_
      gi_wp2_with (fail)
      refine ⟨trivial, (callsIn_wide.2 (HSI.out _ HSX.out)).mono ?_⟩
      rintro e W9 ⟨rfl, hb9⟩
      have HSX := Lib.hid (bstep HSX.out hb9)
      clear hb9
      gi_wp2_with (fail)
      refine ⟨HSX.out, ?_⟩
      apply plan_gd (j := 24) (t := 41) (b := false) (c := false) rfl rfl rfl rfl rfl (by simp) rfl
      case hy =>
        rintro W' hb'
        clear hb'
        go_simp
        first | done | with_reducible rfl
      simp only [List.setIfInBounds_toArray, List.set_cons_zero, List.set_cons_succ]
      apply plan_take rfl rfl (by rfl)
      case hy =>
        rintro W' hb'
        clear hb'
        go_simp
        first | done | with_reducible rfl
      simp only [List.setIfInBounds_toArray, List.set_cons_zero, List.set_cons_succ]
      refine plan_fin ?_
      gi_wp2_with (fail)
      go_wp2_with (fail)
      go_roundw
      case rel => exact ⟨i + 1, by omega, by simp, bstep HB.out HSX.out⟩
      case measure => simp [intOf]; omega
    · obtain rfl : n' = i := by omega
      clear hb
      go_wp2_with (fail)
      go_ret
      exact ⟨rfl, HB.out⟩
end Go.Proofs.YtngdmpkoedpgdaaGreatDoor
