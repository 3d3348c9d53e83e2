import Derived.Test.YtngdmpkoedpgdaaGreatDoorCx
import Derived.Test.YtngdmpkoedpgdaaGreatDoorPn

/-
  has, count, IsSorted: what the laws ask of an index.
-/


namespace Go.Proofs.YtngdmpkoedpgdaaGreatDoor
open Go.RowKit Go.Ap Go.Shelf Go.Proofs

attribute [local go_sem] Oper.semAt_some bs_toList empty_toList bs_size bs_extract
theorem contI5 (a : Option Addr) (n c : Nat) (xs : List Int) (x : Int) (w : World) (h : Ints w a n xs) :
    Calls Tryz.prog 71 #[.slice a n c, .int .i64 x] w fun e w' => e = .returned (.bool (xs.contains x)) ∧ w = w' := by
  have hl := h.len
  have hs := h.small
  rcases Nat.eq_zero_or_pos n with h0 | h0
  · subst h0
    have e1 : xs = [] := List.eq_nil_of_length_eq_zero hl
    subst e1
    exact (Tryz.slices_Contains_int_empty a c x w).mono fun e w' ⟨he, hw⟩ => ⟨he, hw.symm⟩
  · obtain ⟨b, off, rfl, hc⟩ := h.at h0
    exact (Tryz.slices_Contains_int b off n c xs x w (by omega) (by omega) (fun j hj => hc j (by omega))).mono fun e w' ⟨he, hw⟩ => ⟨by rw [he, List.take_of_length_le (by omega)], hw.symm⟩
def hasP (wd sc : Str) (x : Int) (p : Post) : Bool := decide (p.1.1 = wd) && decide (p.1.2 = sc) && p.2.contains x
set_option maxRecDepth 100000 in
set_option maxHeartbeats 1000000 in
theorem has70 (p : Post) (a : Option Addr) (k : Nat) (wd sc : Str) (x : Int) (b1 b2 b3 : Nat) (w : World) (hp : PostS w a p) (h1 : w.cell? ⟨b1, 0, none⟩ = some (.string (bs wd))) (h2 : w.cell? ⟨b2, 0, none⟩ = some (.string (bs sc))) (h3 : w.cell? ⟨b3, 0, none⟩ = some (.int .i64 x)) :
    Calls Tryz.prog 70 #[postA p a k, .pointer (some ⟨b1, 0, none⟩), .pointer (some ⟨b2, 0, none⟩), .pointer (some ⟨b3, 0, none⟩)] w fun e w' => e = .returned (.bool (hasP wd sc x p)) ∧ Below w.heap.size w w' := by
  obtain ⟨⟨pw, ps⟩, pl⟩ := p
  obtain ⟨_, _, hl⟩ := hp
  unfold hasP
  simp only
  obtain ⟨X, hX⟩ : ∃ X, w.heap.size = X := ⟨_, rfl⟩
  have hb := balloc w (.cells #[.string (bs pw), .string (bs ps), .slice a pl.length k] 37)
  have HB := Lib.hid hb
  have HI := Lib.hid (fun W (hb : Below w.heap.size w W) => contI5 a pl.length k pl x W (hl.mono (Nat.le_refl _) hb))
  have c1 := cell_keep hb h1
  have c2 := cell_keep hb h2
  have c3 := cell_keep hb h3
  have HK := Lib.hid (show BlkK (w.alloc (.cells #[.string (bs pw), .string (bs ps), .slice a pl.length k] 37)) X #[.string (bs pw), .string (bs ps), .slice a pl.length k] 37 by rw [← hX]; exact BlkK.new _ _ _)
  obtain ⟨m, hm⟩ : ∃ m, pl.length = m := ⟨_, rfl⟩
  unfold postA postV
  simp only [hm] at *
  obtain ⟨W, hW⟩ : ∃ W, w.alloc (.cells #[.string (bs pw), .string (bs ps), .slice a m k] 37) = W := ⟨_, rfl⟩
  rw [hW] at HB HK c1 c2 c3
  have k0 := HK.out.cell (i := 0) (u := .string (bs pw)) rfl
  have k1 := HK.out.cell (i := 1) (u := .string (bs ps)) rfl
  have k2 := HK.out.cell (i := 2) (u := .slice a m k) rfl
  generalize pl.contains x = v at *
  clear hl h1 h2 h3 hm hb
  by_cases e1 : pw = wd
  · have q1 : (pw == wd) = true := by rw [beq_iff_eq]; exact e1
    have d1 : decide (pw = wd) = true := decide_eq_true e1
    by_cases e2 : ps = sc
    · have q2 : (ps == sc) = true := by rw [beq_iff_eq]; exact e2
      have d2 : decide (ps = sc) = true := decide_eq_true e2
      clear e1 e2
      go_enter Tryz.func70, Tryz.ntmps70
      go_wp2_with (fail)
      refine (HI.out W HB.out).mono ?_
      rintro e W2 ⟨rfl, rfl⟩
      go_wp2_with (fail)
      go_ret
      exact ⟨by rw [d1, d2]; simp, HB.out⟩
    · have q2 : (ps == sc) = false := by rw [beq_eq_false_iff_ne]; exact e2
      have d2 : decide (ps = sc) = false := decide_eq_false e2
      clear e1 e2
      go_enter Tryz.func70, Tryz.ntmps70
      go_wp2_with (fail)
      go_ret
      exact ⟨by rw [d1, d2]; simp, HB.out⟩
  · have q1 : (pw == wd) = false := by rw [beq_eq_false_iff_ne]; exact e1
    have d1 : decide (pw = wd) = false := decide_eq_false e1
    clear e1
    go_enter Tryz.func70, Tryz.ntmps70
    go_wp2_with (fail)
    go_ret
    exact ⟨by rw [d1]; simp, HB.out⟩
set_option maxRecDepth 100000 in
set_option maxHeartbeats 1000000 in
theorem has17 (l : List Post) (a : Option Addr) (n c : Nat) (wd sc : Str) (x : Int) (w : World) (h : Posts w a n l) :
    Calls Tryz.prog 17 #[.slice a n c, .string (bs wd), .string (bs sc), .int .i64 x] w fun e w' => e = .returned (.bool (hasB l wd sc x)) ∧ Below w.heap.size w w' := by
  obtain ⟨WX, hWX⟩ : ∃ WX, allocs w [.cells #[.string (bs wd)] 9, .cells #[.string (bs sc)] 9, .cells #[.int .i64 x] 3] = WX := ⟨_, rfl⟩
  have g0 : WX.cell? ⟨w.heap.size, 0, none⟩ = some (.string (bs wd)) := by rw [← hWX]; exact blk_cell (allocs_at (i := 0) rfl) rfl
  have g1 : WX.cell? ⟨w.heap.size + 1, 0, none⟩ = some (.string (bs sc)) := by rw [← hWX]; exact blk_cell (allocs_at (i := 1) rfl) rfl
  have g2 : WX.cell? ⟨w.heap.size + 1 + 1, 0, none⟩ = some (.int .i64 x) := by rw [← hWX]; exact blk_cell (allocs_at (i := 2) rfl) rfl
  have hb : Below w.heap.size w WX := by rw [← hWX]; exact allocs_below _ w
  have HB := Lib.hid hb
  have HC := Lib.hid (contPost (hasP wd sc x) a n c l 70 #[.pointer (some ⟨w.heap.size, 0, none⟩), .pointer (some ⟨w.heap.size + 1, 0, none⟩), .pointer (some ⟨w.heap.size + 1 + 1, 0, none⟩)] WX (h.mono (Nat.le_refl _) hb) (enters_of Tryz.func70 (by kernel_rfl) rfl) (fun t _ W hw a' k hs => has70 t a' k wd sc x _ _ _ W hs (cell_keep hw g0) (cell_keep hw g1) (cell_keep hw g2)))
  have HE := Lib.hid (show l.any (hasP wd sc x) = hasB l wd sc x from rfl)
  rw [HE.out] at HC
  generalize hasB l wd sc x = v at *
  clear g0 g1 g2 hb h HE
  subst hWX
  go_enter Tryz.func17, Tryz.ntmps17
  go_wp2_with (fail)
  refine HC.out.mono ?_
  rintro e W2 ⟨rfl, hb2⟩
  go_wp2_with (fail)
  go_ret
  exact ⟨rfl, bstep HB.out hb2⟩
theorem countL_snoc {l : List Post} {i : Nat} {p : Post} (h : l[i]? = some p) : countL (l.take (i + 1)) = countL (l.take i) + p.2.length := by
  unfold countL
  rw [take_snoc h, List.map_append, List.sum_append]
  simp
theorem countL_take (l : List Post) (i : Nat) : countL (l.take i) ≤ countL l := by
  conv => rhs; rw [← List.take_append_drop i l]
  unfold countL
  rw [List.map_append, List.sum_append]
  exact Nat.le_add_right _ _
set_option maxRecDepth 100000 in
set_option maxHeartbeats 1000000 in
theorem count20 (l : List Post) (a : Option Addr) (n c : Nat) (w : World) (h : Posts w a n l) (hc : countL l ≤ 4611686018427387903) :
    Calls Tryz.prog 20 #[.slice a n c] w fun e w' => e = .returned (.int .i64 (countL l : Nat)) ∧ Below w.heap.size w w' := by
  have HX := Lib.hid h
  have HL := Lib.hid h.len
  have hsm := h.small
  have HC := Lib.hid hc
  obtain ⟨base, hbase⟩ : ∃ b, w.heap.size = b := ⟨_, rfl⟩
  have HBS := Lib.hid hbase
  obtain ⟨N, hN⟩ : ∃ N, countL l = N := ⟨_, rfl⟩
  have HN := Lib.hid hN
  rw [hN]
  clear h hc hbase hN
  go_enter Tryz.func20, Tryz.ntmps20
  go_wp2_with (fail)
  go_loopw [8, 3] (fun iv cv wr => ∃ i : Nat, i ≤ n ∧ iv = .int .i64 i ∧ cv = .int .i64 (countL (l.take i) : Nat) ∧ Below base w wr) (fun iv _ _ => n - (intOf iv).toNat)
  case atStart => exact ⟨0, Nat.zero_le _, rfl, rfl, by rw [← HBS.out]; exact Below.refl _ _⟩
  case round =>
    obtain ⟨wi, rfl⟩ : ∃ wi : World, wi = wr := ⟨_, rfl⟩
    obtain ⟨i, hile, rfl, rfl, hb⟩ := hrel
    have HB := Lib.hid hb
    by_cases hin : i < n
    · obtain ⟨p, bb, off, hp, rfl, a1, k1, c0, c1, c2, hps⟩ := HX.out.at hin
      replace c0 := Go.Ap.cell_kept (Nat.le_of_eq HBS.out) hb c0
      replace c1 := Go.Ap.cell_kept (Nat.le_of_eq HBS.out) hb c1
      replace c2 := Go.Ap.cell_kept (Nat.le_of_eq HBS.out) hb c2
      have hsn := countL_snoc hp
      have htk := countL_take l (i + 1)
      have hN := HN.out
      have hC := HC.out
      obtain ⟨m, hm⟩ : ∃ m, p.2.length = m := ⟨_, rfl⟩
      obtain ⟨q, hq⟩ : ∃ q, countL (l.take i) = q := ⟨_, rfl⟩
      rw [hm] at c2
      rw [hq, hm] at hsn
      rw [hq]
      have HSN := Lib.hid hsn
      have g1 : q + m ≤ 4611686018427387903 := by omega
      have i1 : (i : Int) < (n : Int) := by omega
      have hsz : base ≤ wi.heap.size := by have := hb.size; have := HBS.out; omega
      have HB2 := Lib.hid (hb.alloc hsz (.cells #[.string (bs p.1.1), .string (bs p.1.2), .slice a1 m k1] 37))
      clear hp hps hsn htk hN hC hm hq hb hsz
      go_wp2_with (fail)
      exact ⟨⟨i + 1, by omega, by simp, by rw [HSN.out]; simp, HB2.out⟩, by simp [intOf]; omega⟩
    · obtain rfl : n = i := by omega
      have hN : countL (l.take n) = N := by rw [List.take_of_length_le (Nat.le_of_eq HL.out)]; exact HN.out
      rw [hN]
      clear hN hb
      go_wp2_with (fail)
      go_ret
      exact ⟨rfl, by rw [HBS.out]; exact HB.out⟩
end Go.Proofs.YtngdmpkoedpgdaaGreatDoor

/-
  IsSorted of lines in order.
-/

namespace Go.Proofs.YtngdmpkoedpgdaaGreatDoor
open Go.RowKit Go.Ap Go.Shelf Go.Proofs

attribute [local go_sem] Oper.semAt_some bs_toList empty_toList bs_size bs_extract
set_option maxRecDepth 100000 in
set_option maxHeartbeats 1000000 in
theorem sorted19 (xs : List Int) (a : Option Addr) (n c : Nat) (w : World) (h : Ints w a n xs) (h0 : 1 ≤ n) (hs : xs.Pairwise (· < ·)) :
    Calls Tryz.prog 19 #[.slice a n c] w fun e w' => e = .returned (.bool true) ∧ Below w.heap.size w w' := by
  obtain ⟨b, off, rfl, hc⟩ := h.at (show 0 < n by omega)
  have HC := Lib.hid hc
  have hsm := h.small
  have HLT := Lib.hid (show ∀ j, j + 1 < n → nth xs j < nth xs (j + 1) from fun j hj => by
    have hl := h.len
    have := List.pairwise_iff_getElem.1 hs j (j + 1) (by omega) (by omega) (by omega)
    simpa [nth, show j < xs.length by omega, show j + 1 < xs.length by omega] using this)
  have HLS := Lib.hid (fun (x y : Int) (W : World) => Tryz.cmp_Less_int2 x y W)
  clear h hs hc
  have d0 : (n : Int) - 1 = ((n - 1 : Nat) : Int) := by omega
  have d1 : IntKind.i64.wrap ((n : Int) - 1) = ((n - 1 : Nat) : Int) := by rw [d0]; exact IntWalk.i64_in _ (by omega)
  go_enter Tryz.func19, Tryz.ntmps19
  go_wp2_with (fail)
  go_loopw [3] (fun iv wr => ∃ (i q : Nat), i < n ∧ iv = .int .i64 i ∧ wr = w.drewN q) (fun iv _ => (intOf iv).toNat)
  case atStart => exact ⟨n - 1, 0, by omega, by simp, rfl⟩
  case round =>
    obtain ⟨wi, rfl⟩ : ∃ wi : World, wi = wr := ⟨_, rfl⟩
    obtain ⟨i, q, hin, rfl, hw⟩ := hrel
    clear d0 d1
    rcases Nat.eq_zero_or_pos i with hz | hz
    · subst hz
      go_wp2_with (fail)
      go_ret
      exact ⟨rfl, bdrewN _ _⟩
    · obtain ⟨j, rfl⟩ : ∃ j, i = j + 1 := ⟨i - 1, by omega⟩
      have x0 := HC.out (j + 1) hin
      have x1 := HC.out j (by omega)
      have hlt := HLT.out j hin
      obtain ⟨u, hu⟩ : ∃ u, nth xs (j + 1) = u := ⟨_, rfl⟩
      obtain ⟨v, hv⟩ : ∃ v, nth xs j = v := ⟨_, rfl⟩
      rw [hu] at x0 hlt
      rw [hv] at x1 hlt
      have HK := Lib.hid (HLS.out u v)
      have e1 : decide (u < v) = false := by rw [decide_eq_false_iff_not]; omega
      have HX0 := Lib.hid (show wi.cell? ⟨b, off + (j + 1), none⟩ = some (.int .i64 u) by rw [hw]; exact x0)
      have HX1 := Lib.hid (show wi.cell? ⟨b, off + j, none⟩ = some (.int .i64 v) by rw [hw]; exact x1)
      have HW := Lib.hid hw
      rw [e1] at HK
      have i2 : (0 : Int) < (j : Int) + 1 := by omega
      clear x0 x1 hlt hu hv hw e1 hz
      go_wp2_with (fail)
      have hjm : (j : Int) ≤ 4611686018427387903 := by omega
      have w1 : IntKind.i64.wrap (j : Int) = (j : Int) := IntWalk.i64_in _ (by omega)
      have i3 : (j : Int) + 1 < (n : Int) := by omega
      have i4 : (0 : Int) ≤ (j : Int) + 1 := by omega
      have i5 : (j : Int) < (n : Int) := by omega
      refine (wpIn_wide (n := 20)).1 ?_
      refine wpIn_region_planN (fun W' => W'.cell? ⟨b, off + (j + 1), none⟩ = some (.int .i64 u) ∧ W'.cell? ⟨b, off + j, none⟩ = some (.int .i64 v)) (.take 0 <| .take 1 <| .take 2 <| .take 3 <| .take 4 <| .take 5 <| .take 6 <| .take 7 <| .take 8 <| .one 9 <| .fin) (fun _ => trivial) (by kernel_rfl) (by kernel_rfl) ⟨HX0.out, HX1.out⟩ ?_
      apply plan_take rfl rfl (by rfl)
      case hy =>
        rintro W' hb'
        clear hb'
        go_simp
        first | done | with_reducible rfl
      simp only [List.setIfInBounds_toArray, List.set_cons_zero, List.set_cons_succ]
      apply plan_take rfl rfl (by rfl)
      case hy =>
        rintro W' hb'
        clear hb'
        go_simp
        first | done | with_reducible rfl
      simp only [List.setIfInBounds_toArray, List.set_cons_zero, List.set_cons_succ]
      apply plan_take rfl rfl (by rfl)
      case hy =>
        rintro W' hb'
        clear hb'
        go_simp
        first | done | with_reducible rfl
      simp only [List.setIfInBounds_toArray, List.set_cons_zero, List.set_cons_succ]
      apply plan_take rfl rfl (by rfl)
      case hy =>
        rintro W' hb'
        have x0 := hb'.1
        clear hb'
        go_simp
        first | done | with_reducible rfl
      simp only [List.setIfInBounds_toArray, List.set_cons_zero, List.set_cons_succ]
      apply plan_take rfl rfl (by rfl)
      case hy =>
        rintro W' hb'
        clear hb'
        go_simp
        first | done | with_reducible rfl
      simp only [List.setIfInBounds_toArray, List.set_cons_zero, List.set_cons_succ]
      apply plan_take rfl rfl (by rfl)
      case hy =>
        rintro W' hb'
        clear hb'
        go_simp
        first | done | with_reducible rfl
      simp only [List.setIfInBounds_toArray, List.set_cons_zero, List.set_cons_succ]
      apply plan_take rfl rfl (by rfl)
      case hy =>
        rintro W' hb'
        clear hb'
        go_simp
        first | done | with_reducible rfl
      simp only [List.setIfInBounds_toArray, List.set_cons_zero, List.set_cons_succ]
      apply plan_take rfl rfl (by rfl)
      case hy =>
        rintro W' hb'
        clear hb'
        go_simp
        first | done | with_reducible rfl
      simp only [List.setIfInBounds_toArray, List.set_cons_zero, List.set_cons_succ]
      apply plan_take rfl rfl (by rfl)
      case hy =>
        rintro W' hb'
        have x1 := hb'.2
        clear hb'
        go_simp
        first | done | with_reducible rfl
      simp only [List.setIfInBounds_toArray, List.set_cons_zero, List.set_cons_succ]
      refine plan_one rfl ?_
      gi_wp2_with (fail)
      refine ⟨trivial, (callsIn_wide.2 (HK.out _)).mono ?_⟩
      rintro e W4 ⟨rfl, rfl⟩
      gi_wp2_with (fail)
      refine ⟨⟨HX0.out, HX1.out⟩, ?_⟩
      refine plan_fin ?_
      gi_wp2_with (fail)
      go_wp2_with (fail)
      go_roundw
      case rel => exact ⟨j, q + 1, by omega, by simp, by rw [HW.out]; rfl⟩
      case measure => simp [intOf]
end Go.Proofs.YtngdmpkoedpgdaaGreatDoor
