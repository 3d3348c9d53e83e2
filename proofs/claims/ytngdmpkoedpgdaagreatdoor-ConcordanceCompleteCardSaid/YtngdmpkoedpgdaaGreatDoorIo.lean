/-
  IsSorted of lines in order.
-/
import Derived.Test.YtngdmpkoedpgdaaGreatDoorHa
namespace Go.Proofs.YtngdmpkoedpgdaaGreatDoor
open Go.RowKit Go.Ap Go.Shelf Go.Proofs

attribute [local go_sem] Oper.semAt_some bs_toList empty_toList bs_size bs_extract
set_option maxRecDepth 100000 in
set_option maxHeartbeats 1000000 in
theorem sorted19 (xs : List Int) (a : Option Addr) (n c : Nat) (w : World) (h : Ints w a n xs) (h0 : 1 ≤ n) (hs : xs.Pairwise (· < ·)) :
    Calls Tryz.prog 19 #[.slice a n c] w fun e w' => e = .returned (.bool true) ∧ Below w.heap.size w w' := by
  obtain ⟨b, off, rfl, hc⟩ := h.at (show 0 < n by omega)
  have HC := Lib.hid hc
  have hsm := h.small
  have HLT := Lib.hid (show ∀ j, j + 1 < n → nth xs j < nth xs (j + 1) from fun j hj => by
    have hl := h.len
    have := List.pairwise_iff_getElem.1 hs j (j + 1) (by omega) (by omega) (by omega)
    simpa [nth, show j < xs.length by omega, show j + 1 < xs.length by omega] using this)
  have HLS := Lib.hid (fun (x y : Int) (W : World) => Tryz.cmp_Less_int2 x y W)
  clear h hs hc
  have d0 : (n : Int) - 1 = ((n - 1 : Nat) : Int) := by omega
  have d1 : IntKind.i64.wrap ((n : Int) - 1) = ((n - 1 : Nat) : Int) := by rw [d0]; exact IntWalk.i64_in _ (by omega)
  go_enter Tryz.func19, Tryz.ntmps19
  go_wp2_with (fail)
  go_loopw [3] (fun iv wr => ∃ (i q : Nat), i < n ∧ iv = .int .i64 i ∧ wr = w.drewN q) (fun iv _ => (intOf iv).toNat)
  case atStart => exact ⟨n - 1, 0, by omega, by simp, rfl⟩
  case round =>
    obtain ⟨wi, rfl⟩ : ∃ wi : World, wi = wr := ⟨_, rfl⟩
    obtain ⟨i, q, hin, rfl, hw⟩ := hrel
    clear d0 d1
    rcases Nat.eq_zero_or_pos i with hz | hz
    · subst hz
      go_wp2_with (fail)
      go_ret
      exact ⟨rfl, bdrewN _ _⟩
    · obtain ⟨j, rfl⟩ : ∃ j, i = j + 1 := ⟨i - 1, by omega⟩
      have x0 := HC.out (j + 1) hin
      have x1 := HC.out j (by omega)
      have hlt := HLT.out j hin
      obtain ⟨u, hu⟩ : ∃ u, nth xs (j + 1) = u := ⟨_, rfl⟩
      obtain ⟨v, hv⟩ : ∃ v, nth xs j = v := ⟨_, rfl⟩
      rw [hu] at x0 hlt
      rw [hv] at x1 hlt
      have HK := Lib.hid (HLS.out u v)
      have e1 : decide (u < v) = false := by rw [decide_eq_false_iff_not]; omega
      have HX0 := Lib.hid (show wi.cell? ⟨b, off + (j + 1), none⟩ = some (.int .i64 u) by rw [hw]; exact x0)
      have HX1 := Lib.hid (show wi.cell? ⟨b, off + j, none⟩ = some (.int .i64 v) by rw [hw]; exact x1)
      have HW := Lib.hid hw
      rw [e1] at HK
      have i2 : (0 : Int) < (j : Int) + 1 := by omega
      clear x0 x1 hlt hu hv hw e1 hz
      go_wp2_with (fail)
      have hjm : (j : Int) ≤ 4611686018427387903 := by omega
      have w1 : IntKind.i64.wrap (j : Int) = (j : Int) := IntWalk.i64_in _ (by omega)
      have i3 : (j : Int) + 1 < (n : Int) := by omega
      have i4 : (0 : Int) ≤ (j : Int) + 1 := by omega
      have i5 : (j : Int) < (n : Int) := by omega
      refine (wpIn_wide (n := 20)).1 ?_
      refine wpIn_region_planN (fun W' => W'.cell? ⟨b, off + (j + 1), none⟩ = some (.int .i64 u) ∧ W'.cell? ⟨b, off + j, none⟩ = some (.int .i64 v)) (.take 0 <| .take 1 <| .take 2 <| .take 3 <| .take 4 <| .take 5 <| .take 6 <| .take 7 <| .take 8 <| .one 9 <| .fin) (fun _ => trivial) (by kernel_rfl) (by kernel_rfl) ⟨HX0.out, HX1.out⟩ ?_
      apply plan_take rfl rfl (by rfl)
      case hy =>
        rintro W' hb'
        clear hb'
        go_simp
        first | done | with_reducible rfl
      simp only [List.setIfInBounds_toArray, List.set_cons_zero, List.set_cons_succ]
      apply plan_take rfl rfl (by rfl)
      case hy =>
        rintro W' hb'
        clear hb'
        go_simp
        first | done | with_reducible rfl
      simp only [List.setIfInBounds_toArray, List.set_cons_zero, List.set_cons_succ]
      apply plan_take rfl rfl (by rfl)
      case hy =>
        rintro W' hb'
        clear hb'
        go_simp
        first | done | with_reducible rfl
      simp only [List.setIfInBounds_toArray, List.set_cons_zero, List.set_cons_succ]
      apply plan_take rfl rfl (by rfl)
      case hy =>
        rintro W' hb'
        have x0 := hb'.1
        clear hb'
        go_simp
        first | done | with_reducible rfl
      simp only [List.setIfInBounds_toArray, List.set_cons_zero, List.set_cons_succ]
      apply plan_take rfl rfl (by rfl)
      case hy =>
        rintro W' hb'
        clear hb'
        go_simp
        first | done | with_reducible rfl
      simp only [List.setIfInBounds_toArray, List.set_cons_zero, List.set_cons_succ]
      apply plan_take rfl rfl (by rfl)
      case hy =>
        rintro W' hb'
        clear hb'
        go_simp
        first | done | with_reducible rfl
      simp only [List.setIfInBounds_toArray, List.set_cons_zero, List.set_cons_succ]
      apply plan_take rfl rfl (by rfl)
      case hy =>
        rintro W' hb'
        clear hb'
        go_simp
        first | done | with_reducible rfl
      simp only [List.setIfInBounds_toArray, List.set_cons_zero, List.set_cons_succ]
      apply plan_take rfl rfl (by rfl)
      case hy =>
        rintro W' hb'
        clear hb'
        go_simp
        first | done | with_reducible rfl
      simp only [List.setIfInBounds_toArray, List.set_cons_zero, List.set_cons_succ]
      apply plan_take rfl rfl (by rfl)
      case hy =>
        rintro W' hb'
        have x1 := hb'.2
        clear hb'
        go_simp
        first | done | with_reducible rfl
      simp only [List.setIfInBounds_toArray, List.set_cons_zero, List.set_cons_succ]
      refine plan_one rfl ?_
      gi_wp2_with (fail)
      refine ⟨trivial, (callsIn_wide.2 (HK.out _)).mono ?_⟩
      rintro e W4 ⟨rfl, rfl⟩
      gi_wp2_with (fail)
      refine ⟨⟨HX0.out, HX1.out⟩, ?_⟩
      refine plan_fin ?_
      gi_wp2_with (fail)
      go_wp2_with (fail)
      go_roundw
      case rel => exact ⟨j, q + 1, by omega, by simp, by rw [HW.out]; rfl⟩
      case measure => simp [intOf]
end Go.Proofs.YtngdmpkoedpgdaaGreatDoor
