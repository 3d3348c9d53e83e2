import Derived.Test.YthfppkcefnmdoaaGreatDoorNe
import Derived.Test.YthfppkcefnmdoaaGreatDoorNf

/-
  Words, ints are compared: the reference's way.
-/

namespace Go.Ap
theorem take_step {α : Type} {xs ys : List α} {k : Nat} {u v : α} (hx : xs[k]? = some u) (hy : ys[k]? = some v) (h : xs.take k = ys.take k) (he : u = v) : xs.take (k + 1) = ys.take (k + 1) := by
  rw [List.take_add_one, List.take_add_one, hx, hy, h, he]
theorem take_ne {α : Type} {xs ys : List α} {k : Nat} {u v : α} (hx : xs[k]? = some u) (hy : ys[k]? = some v) (he : u ≠ v) : xs ≠ ys := fun e => by
  subst e
  rw [hx] at hy
  exact he (Option.some.inj hy)
theorem take_all {α : Type} {xs ys : List α} {n : Nat} (h1 : xs.length = n) (h2 : ys.length = n) (h : xs.take n = ys.take n) : xs = ys := by
  rwa [List.take_of_length_le (by omega), List.take_of_length_le (by omega)] at h
open Go in
theorem quietC {P : Program} {f : FuncId} {args : Array Value} {w : World} {n : Nat} {v : Value} (h : Calls P f args (w.drewN n) fun e w' => e = .returned v ∧ ∃ q, w' = (w.drewN n).drewN q) : Calls P f args (w.drewN n) fun e w'' => e = .returned v ∧ ∃ m, w'' = w.drewN m :=
  h.mono fun _ _ ⟨he, q, hq⟩ => ⟨he, n + q, by rw [hq, drewN2]⟩
end Go.Ap
namespace Go.Proofs.YthfppkcefnmdoaaGreatDoor
open Go.RowKit Go.Ap Go.Shelf Go.Proofs

attribute [local go_sem] Oper.semAt_some bs_toList empty_toList bs_size bs_extract
theorem eqInts (a a' : Option Addr) (c c' n n' : Nat) (xs ys : List Int) (w : World) (h : Ints w a n xs) (h' : Ints w a' n' ys) : Calls Tryz.prog 47 #[.slice a n c, .slice a' n' c'] w fun e w' => e = .returned (.bool (decide (xs = ys))) ∧ ∃ q, w' = w.drewN q := by
  have hl := h.len
  have hl' := h'.len
  have hs := h.small
  have hs' := h'.small
  by_cases hn : n = n'
  · subst hn
    rcases Nat.eq_zero_or_pos n with h0 | h0
    · subst h0
      have e1 : xs = [] := List.eq_nil_of_length_eq_zero hl
      have e2 : ys = [] := List.eq_nil_of_length_eq_zero hl'
      subst e1 e2
      exact (Tryz.slices_Equal_int_empty a a' c 0 c' w (by omega)).mono fun e w' ⟨he, hw⟩ => ⟨by rw [he]; rfl, 0, hw⟩
    · obtain ⟨b, off, rfl, hc⟩ := h.at h0
      obtain ⟨b', off', rfl, hc'⟩ := h'.at h0
      refine (Tryz.slices_Equal_int b off n c b' off' n c' xs ys w (by omega) (by omega) (by omega) (by omega) (fun j hj => hc j (by omega)) (fun j hj => hc' j (by omega))).mono fun e w' ⟨he, hw⟩ => ⟨?_, hw⟩
      rw [he, List.take_of_length_le (by omega), List.take_of_length_le (by omega)]
      exact ret_b (by rw [Bool.eq_iff_iff]; simp)
  · exact (Tryz.slices_Equal_int_lens a a' n c n' c' w hn).mono fun e w' ⟨he, hw⟩ => ⟨by
      rw [he]
      exact ret_b (by rw [eq_comm, decide_eq_false_iff_not]; intro h; exact hn (by rw [← hl, ← hl', h])), 0, hw⟩
set_option maxHeartbeats 2000000 in
theorem sameWq (a a' : Option Addr) (c c' n n' : Nat) (xs ys : List Str) (w : World) (h : StrsL w a n xs) (h' : StrsL w a' n' ys) : Calls Tryz.prog 91 #[.slice a n c, .slice a' n' c'] w fun e w' => e = .returned (.bool (decide (xs = ys))) ∧ ∃ q, w' = w.drewN q := by
  have hl := h.len
  have hl' := h'.len
  have hs := h.small
  have hs' := h'.small
  have HX := Lib.hid hl
  have HY := Lib.hid hl'
  have H1 := Lib.hid h
  have H2 := Lib.hid h'
  obtain ⟨R, hR⟩ : ∃ R, decide (xs = ys) = R := ⟨_, rfl⟩
  rw [hR]
  have HR := Lib.hid hR
  by_cases hn : n = n'
  · subst hn
    clear h h' hR hl hl'
    go_enter Tryz.func91, Tryz.ntmps91
    go_wp2_with (fail)
    go_loopw [5] (fun iv wr => ∃ k q : Nat, k ≤ n ∧ iv = .int .i64 k ∧ wr = w.drewN q ∧ xs.take k = ys.take k) (fun iv _ => n - (intOf iv).toNat)
    case atStart => exact ⟨0, 0, Nat.zero_le _, rfl, rfl, by simp⟩
    case round =>
      obtain ⟨k, q, hk, rfl, rfl, ht⟩ := hrel
      have HT := Lib.hid ht
      clear ht
      by_cases hkn : k < n
      · obtain ⟨u, b, off, v, hu, rfl, hc, hr⟩ := Sl.at H1.out hkn
        obtain ⟨u', b', off', v', hu', rfl, hc', hr'⟩ := Sl.at H2.out hkn
        obtain rfl := hr
        obtain rfl := hr'
        unfold sv at hc hc'
        have HU := Lib.hid hu
        have HU' := Lib.hid hu'
        clear hu hu'
        by_cases huv : u = u'
        · have eu : (u == u') = true := by rw [beq_iff_eq]; exact huv
          have HE := Lib.hid huv
          clear huv
          go_wp2_with (fail)
          go_quiet (fail)
          go_wp2_with (fail)
          exact ⟨⟨k + 1, q + nq, by omega, by simp, by simp, take_step HU.out HU'.out HT.out HE.out⟩, by simp [intOf]; omega⟩
        · have eu : (u == u') = false := by rw [beq_eq_false_iff_ne]; exact huv
          have HE := Lib.hid (show R = false by rw [← HR.out]; exact decide_eq_false (take_ne HU.out HU'.out huv))
          clear huv
          go_wp2_with (fail)
          go_quiet (fail)
          go_wp2_with (fail)
          go_ret
          exact ⟨ret_b HE.out.symm, drewN_ex _ _ _⟩
      · obtain rfl : k = n := by omega
        have HE := Lib.hid (show R = true by rw [← HR.out]; exact decide_eq_true (take_all HX.out HY.out HT.out))
        go_wp2_with (fail)
        go_ret
        exact ⟨ret_b HE.out.symm, _, rfl⟩
  · have HE := Lib.hid (show R = false by rw [← hR, decide_eq_false_iff_not]; intro e; exact hn (by rw [← hl, ← hl', e]))
    have dn : ((n : Int) != (n' : Int)) = true := by simp; omega
    clear h h' hR hl hl'
    go_enter Tryz.func91, Tryz.ntmps91
    go_wp2_with (fail)
    go_ret
    exact ⟨ret_b HE.out.symm, 0, rfl⟩
theorem sameW (a a' : Option Addr) (c c' n n' : Nat) (xs ys : List Str) (w : World) (h : StrsL w a n xs) (h' : StrsL w a' n' ys) : Calls Tryz.prog 91 #[.slice a n c, .slice a' n' c'] w fun e w' => e = .returned (.bool (decide (xs = ys))) ∧ Below w.heap.size w w' :=
  (sameWq a a' c c' n n' xs ys w h h').mono fun e w' ⟨he, q, hq⟩ => ⟨he, by rw [hq]; exact bdrewN w q⟩
set_option maxHeartbeats 2000000 in
theorem sameIq (a a' : Option Addr) (c c' n n' : Nat) (xs ys : List Int) (w : World) (h : Ints w a n xs) (h' : Ints w a' n' ys) : Calls Tryz.prog 71 #[.slice a n c, .slice a' n' c'] w fun e w' => e = .returned (.bool (decide (xs = ys))) ∧ ∃ q, w' = w.drewN q := by
  have hl := h.len
  have hl' := h'.len
  have hs := h.small
  have hs' := h'.small
  have HX := Lib.hid hl
  have HY := Lib.hid hl'
  have H1 := Lib.hid h
  have H2 := Lib.hid h'
  obtain ⟨R, hR⟩ : ∃ R, decide (xs = ys) = R := ⟨_, rfl⟩
  rw [hR]
  have HR := Lib.hid hR
  by_cases hn : n = n'
  · subst hn
    clear h h' hR hl hl'
    go_enter Tryz.func71, Tryz.ntmps71
    go_wp2_with (fail)
    go_loopw [5] (fun iv wr => ∃ k q : Nat, k ≤ n ∧ iv = .int .i64 k ∧ wr = w.drewN q ∧ xs.take k = ys.take k) (fun iv _ => n - (intOf iv).toNat)
    case atStart => exact ⟨0, 0, Nat.zero_le _, rfl, rfl, by simp⟩
    case round =>
      obtain ⟨k, q, hk, rfl, rfl, ht⟩ := hrel
      have HT := Lib.hid ht
      clear ht
      by_cases hkn : k < n
      · obtain ⟨u, b, off, v, hu, rfl, hc, hr⟩ := Sl.at H1.out hkn
        obtain ⟨u', b', off', v', hu', rfl, hc', hr'⟩ := Sl.at H2.out hkn
        obtain ⟨rfl, _⟩ := hr
        obtain ⟨rfl, _⟩ := hr'
        have HU := Lib.hid hu
        have HU' := Lib.hid hu'
        clear hu hu'
        by_cases huv : u = u'
        · have eu : (u != u') = false := by rw [bne_eq_false_iff_eq]; exact huv
          have HE := Lib.hid huv
          clear huv
          go_wp2_with (fail)
          go_quiet (fail)
          go_wp2_with (fail)
          exact ⟨⟨k + 1, q + nq, by omega, by simp, by simp, take_step HU.out HU'.out HT.out HE.out⟩, by simp [intOf]; omega⟩
        · have eu : (u != u') = true := by rw [bne_iff_ne]; exact huv
          have HE := Lib.hid (show R = false by rw [← HR.out]; exact decide_eq_false (take_ne HU.out HU'.out huv))
          clear huv
          go_wp2_with (fail)
          go_quiet (fail)
          go_wp2_with (fail)
          go_ret
          exact ⟨ret_b HE.out.symm, drewN_ex _ _ _⟩
      · obtain rfl : k = n := by omega
        have HE := Lib.hid (show R = true by rw [← HR.out]; exact decide_eq_true (take_all HX.out HY.out HT.out))
        go_wp2_with (fail)
        go_ret
        exact ⟨ret_b HE.out.symm, _, rfl⟩
  · have HE := Lib.hid (show R = false by rw [← hR, decide_eq_false_iff_not]; intro e; exact hn (by rw [← hl, ← hl', e]))
    have dn : ((n : Int) != (n' : Int)) = true := by simp; omega
    clear h h' hR hl hl'
    go_enter Tryz.func71, Tryz.ntmps71
    go_wp2_with (fail)
    go_ret
    exact ⟨ret_b HE.out.symm, 0, rfl⟩
theorem sameI (a a' : Option Addr) (c c' n n' : Nat) (xs ys : List Int) (w : World) (h : Ints w a n xs) (h' : Ints w a' n' ys) : Calls Tryz.prog 71 #[.slice a n c, .slice a' n' c'] w fun e w' => e = .returned (.bool (decide (xs = ys))) ∧ Below w.heap.size w w' :=
  (sameIq a a' c c' n n' xs ys w h h').mono fun e w' ⟨he, q, hq⟩ => ⟨he, by rw [hq]; exact bdrewN w q⟩
end Go.Proofs.YthfppkcefnmdoaaGreatDoor

/-
  Lists of readings are compared.
-/


namespace Go.Proofs.YthfppkcefnmdoaaGreatDoor
open Go.RowKit Go.Ap Go.Shelf Go.Proofs

attribute [local go_sem] Oper.semAt_some bs_toList empty_toList bs_size bs_extract
theorem rdg_dec (r s : Rdg) : decide (r = s) = (decide (r.1 = s.1) && decide (r.2 = s.2)) := by
  obtain ⟨a, b⟩ := r
  obtain ⟨c, d⟩ := s
  rw [Bool.eq_iff_iff]
  simp
set_option maxHeartbeats 2000000 in
theorem sameP1 (r s : Rdg) (a1 : Option Addr) (n1 k1 : Nat) (a2 : Option Addr) (n2 k2 : Nat) (a3 : Option Addr) (n3 k3 : Nat) (a4 : Option Addr) (n4 k4 : Nat) (w : World) (h1 : StrsL w a1 n1 r.1) (h2 : Ints w a2 n2 r.2) (h3 : StrsL w a3 n3 s.1) (h4 : Ints w a4 n4 s.2) :
    Calls Tryz.prog 121 #[.agg #[.slice a1 n1 k1, .slice a2 n2 k2], .agg #[.slice a3 n3 k3, .slice a4 n4 k4]] w fun e w' => e = .returned (.bool (decide (r = s))) ∧ Below w.heap.size w w' := by
  have HE := Lib.hid (fun W (hb : Below w.heap.size w W) => eqStrs a1 a3 k1 k3 n1 n3 r.1 s.1 W (h1.mono (Nat.le_refl _) hb) (h3.mono (Nat.le_refl _) hb))
  have HI := Lib.hid (fun W (hb : Below w.heap.size w W) => eqInts a2 a4 k2 k4 n2 n4 r.2 s.2 W (h2.mono (Nat.le_refl _) hb) (h4.mono (Nat.le_refl _) hb))
  rw [rdg_dec]
  generalize decide (r.1 = s.1) = p at *
  generalize decide (r.2 = s.2) = q at *
  clear h1 h2 h3 h4
  go_enter Tryz.func121, Tryz.ntmps121
  go_wp2_with (fail)
  have hb := bstep (balloc w (.cells #[.slice a1 n1 k1, .slice a2 n2 k2] 39)) (balloc _ (.cells #[.slice a3 n3 k3, .slice a4 n4 k4] 39))
  have HB := Lib.hid hb
  refine (HE.out _ hb).mono ?_
  rintro e w1 ⟨rfl, q1, rfl⟩
  clear hb
  cases p
  · go_wp2_with (fail)
    go_ret
    exact ⟨rfl, bstep HB.out (bdrewN _ _)⟩
  · go_wp2_with (fail)
    refine (HI.out _ (bstep HB.out (bdrewN _ _))).mono ?_
    rintro e w2 ⟨rfl, q2, rfl⟩
    go_wp2_with (fail)
    go_ret
    exact ⟨by simp, bstep HB.out (bdrewN _ _)⟩
set_option maxHeartbeats 4000000 in
theorem eqRd (a a' : Option Addr) (c c' n n' : Nat) (xs ys : List Rdg) (w : World) (h : Rdgs w a n xs) (h' : Rdgs w a' n' ys) :
    Calls Tryz.prog 120 #[.slice a n c, .slice a' n' c', .func (.func 121) #[] #[]] w fun e w' => e = .returned (.bool (decide (xs = ys))) ∧ Below w.heap.size w w' := by
  have eg := enters_of Tryz.func121 (by kernel_rfl) rfl
  have hl := h.len
  have hl' := h'.len
  have hs := h.small
  have hs' := h'.small
  have HX := Lib.hid hl
  have HY := Lib.hid hl'
  have H1 := Lib.hid h
  have H2 := Lib.hid h'
  obtain ⟨R, hR⟩ : ∃ R, decide (xs = ys) = R := ⟨_, rfl⟩
  rw [hR]
  have HR := Lib.hid hR
  by_cases hn : n = n'
  · subst hn
    clear h h' hR hl hl'
    go_enter Tryz.func120, Tryz.ntmps120
    go_wp2_with (fail)
    go_loopw [17] (fun iv wr => ∃ k : Nat, k ≤ n ∧ iv = .int .i64 k ∧ Below w.heap.size w wr ∧ xs.take k = ys.take k) (fun iv _ => n - (intOf iv).toNat)
    case atStart => exact ⟨0, Nat.zero_le _, rfl, Below.refl _ _, by simp⟩
    case round =>
      obtain ⟨k, hk, rfl, hb, ht⟩ := hrel
      have HT := Lib.hid ht
      have HB := Lib.hid hb
      clear ht
      by_cases hkn : k < n
      · obtain ⟨r, b, off, hu, rfl, ⟨a1, n1, k1, a2, n2, k2, g1, s1, g2, s2⟩⟩ := (H1.out.mono (Nat.le_refl _) hb).at hkn
        obtain ⟨s, b', off', hu', rfl, ⟨a3, n3, k3, a4, n4, k4, g3, s3, g4, s4⟩⟩ := (H2.out.mono (Nat.le_refl _) hb).at hkn
        have HU := Lib.hid hu
        have HU' := Lib.hid hu'
        have HC := Lib.hid (fun W (hb : Below wr.heap.size wr W) => sameP1 r s a1 n1 k1 a2 n2 k2 a3 n3 k3 a4 n4 k4 W (s1.mono (Nat.le_refl _) hb) (s2.mono (Nat.le_refl _) hb) (s3.mono (Nat.le_refl _) hb) (s4.mono (Nat.le_refl _) hb))
        have kb := fun (o : Obj) => cell_keep (balloc wr o) g3
        have kc := fun (o : Obj) => cell_keep (balloc wr o) g4
        have hb2 := bstep (balloc wr (.cells #[.slice a1 n1 k1, .slice a2 n2 k2] 39)) (balloc _ (.cells #[.slice a3 n3 k3, .slice a4 n4 k4] 39))
        have HB2 := Lib.hid hb2
        clear hu hu' hb s1 s2 s3 s4 hb2
        by_cases huv : r = s
        · have HE := Lib.hid huv
          have HC2 := Lib.hid (HC.out _ HB2.out)
          rw [show decide (r = s) = true from decide_eq_true huv] at HC2
          clear huv HC
          go_wp2_with (fail)
          refine HC2.out.mono ?_
          rintro e w1 ⟨rfl, hb1⟩
          have HB3 := Lib.hid (bstep (bstep HB.out HB2.out) hb1)
          clear hb1
          go_wp2_with (fail)
          exact ⟨⟨k + 1, by omega, by simp, HB3.out, take_step HU.out HU'.out HT.out HE.out⟩, by simp [intOf]; omega⟩
        · have HE := Lib.hid (show R = false by rw [← HR.out]; exact decide_eq_false (take_ne HU.out HU'.out huv))
          have HC2 := Lib.hid (HC.out _ HB2.out)
          rw [show decide (r = s) = false from decide_eq_false huv] at HC2
          clear huv HC
          go_wp2_with (fail)
          refine HC2.out.mono ?_
          rintro e w1 ⟨rfl, hb1⟩
          have HB3 := Lib.hid (bstep (bstep HB.out HB2.out) hb1)
          clear hb1
          go_wp2_with (fail)
          go_ret
          exact ⟨ret_b HE.out.symm, HB3.out⟩
      · obtain rfl : k = n := by omega
        have HE := Lib.hid (show R = true by rw [← HR.out]; exact decide_eq_true (take_all HX.out HY.out HT.out))
        clear hb
        go_wp2_with (fail)
        go_ret
        exact ⟨ret_b HE.out.symm, HB.out⟩
  · have HE := Lib.hid (show R = false by rw [← hR, decide_eq_false_iff_not]; intro e; exact hn (by rw [← hl, ← hl', e]))
    have dn : ((n : Int) != (n' : Int)) = true := by simp; omega
    clear h h' hR hl hl'
    go_enter Tryz.func120, Tryz.ntmps120
    go_wp2_with (fail)
    go_ret
    exact ⟨ret_b HE.out.symm, Below.refl _ _⟩
set_option maxHeartbeats 1000000 in
theorem sameP (a a' : Option Addr) (c c' n n' : Nat) (xs ys : List Rdg) (w : World) (h : Rdgs w a n xs) (h' : Rdgs w a' n' ys) :
    Calls Tryz.prog 87 #[.slice a n c, .slice a' n' c'] w fun e w' => e = .returned (.bool (decide (xs = ys))) ∧ Below w.heap.size w w' := by
  have HE := Lib.hid (eqRd a a' c c' n n' xs ys w h h')
  generalize decide (xs = ys) = R at *
  clear h h'
  go_enter Tryz.func87, Tryz.ntmps87
  go_wp2_with (fail)
  refine HE.out.mono ?_
  rintro e w1 ⟨rfl, hb⟩
  go_wp2_with (fail)
  go_ret
  exact ⟨rfl, hb⟩
end Go.Proofs.YthfppkcefnmdoaaGreatDoor

/-
  Lists of readings, of places are compared: the reference's way.
-/


namespace Go.Proofs.YthfppkcefnmdoaaGreatDoor
open Go.RowKit Go.Ap Go.Shelf Go.Proofs

attribute [local go_sem] Oper.semAt_some bs_toList empty_toList bs_size bs_extract
theorem Rdgs.drewN {w : World} {q : Nat} {a : Option Addr} {n : Nat} {l : List Rdg} (h : Rdgs w a n l) : Rdgs (w.drewN q) a n l := h.mono (Nat.le_refl _) (bdrewN w q)
theorem Plcs.drewN {w : World} {q : Nat} {a : Option Addr} {n : Nat} {l : List Plc} (h : Plcs w a n l) : Plcs (w.drewN q) a n l := h.mono (Nat.le_refl _) (bdrewN w q)
set_option maxHeartbeats 4000000 in
theorem sameRq (a a' : Option Addr) (c c' n n' : Nat) (xs ys : List Rdg) (w : World) (h : Rdgs w a n xs) (h' : Rdgs w a' n' ys) :
    Calls Tryz.prog 63 #[.slice a n c, .slice a' n' c'] w fun e w' => e = .returned (.bool (decide (xs = ys))) ∧ ∃ q, w' = w.drewN q := by
  have hl := h.len
  have hl' := h'.len
  have hs := h.small
  have hs' := h'.small
  have HX := Lib.hid hl
  have HY := Lib.hid hl'
  have H1 := Lib.hid h
  have H2 := Lib.hid h'
  obtain ⟨R, hR⟩ : ∃ R, decide (xs = ys) = R := ⟨_, rfl⟩
  rw [hR]
  have HR := Lib.hid hR
  by_cases hn : n = n'
  · subst hn
    clear h h' hR hl hl'
    go_enter Tryz.func63, Tryz.ntmps63
    go_wp2_with (fail)
    go_loopw [5] (fun iv wr => ∃ k q : Nat, k ≤ n ∧ iv = .int .i64 k ∧ wr = w.drewN q ∧ xs.take k = ys.take k) (fun iv _ => n - (intOf iv).toNat)
    case atStart => exact ⟨0, 0, Nat.zero_le _, rfl, rfl, by simp⟩
    case round =>
      obtain ⟨k, q, hk, rfl, hwr, ht⟩ := hrel
      have HWR := Lib.hid hwr
      have hx1 := Rdgs.drewN (q := q) H1.out
      have hx2 := Rdgs.drewN (q := q) H2.out
      rw [← hwr] at hx1 hx2
      clear hwr
      have HT := Lib.hid ht
      clear ht
      by_cases hkn : k < n
      · obtain ⟨r, b, off, hu, rfl, ⟨a1, n1, k1, a2, n2, k2, g1, s1, g2, s2⟩⟩ := hx1.at hkn
        obtain ⟨s, b', off', hu', rfl, ⟨a3, n3, k3, a4, n4, k4, g3, s3, g4, s4⟩⟩ := hx2.at hkn
        have HU := Lib.hid hu
        have HU' := Lib.hid hu'
        have HE := Lib.hid (fun q => sameWq a1 a3 k1 k3 n1 n3 r.1 s.1 (wr.drewN q) s1.drewN s3.drewN)
        have HI := Lib.hid (fun q => sameIq a2 a4 k2 k4 n2 n4 r.2 s.2 (wr.drewN q) s2.drewN s4.drewN)
        have i1 : (k : Int) < (n : Int) := by omega
        clear hu hu' s1 s2 s3 s4 hx1 hx2
        by_cases h1 : r.1 = s.1
        · have HE2 := Lib.hid (fun q => HE.out q)
          simp only [decide_eq_true h1] at HE2
          by_cases h2 : r.2 = s.2
          · have HI2 := Lib.hid (fun q => HI.out q)
            simp only [decide_eq_true h2] at HI2
            have HEQ := Lib.hid (show r = s from Prod.ext h1 h2)
            clear h1 h2 HE HI
            go_wp2_with (fail)
            go_quiet ((first | (go_at_call 91; exact quietC (HE2.out _)) | (go_at_call 71; exact quietC (HI2.out _))))
            go_wp2_with (fail)
            exact ⟨⟨k + 1, q + nq, by omega, by simp, by rw [HWR.out, drewN2], take_step HU.out HU'.out HT.out HEQ.out⟩, by simp [intOf]; omega⟩
          · have HI2 := Lib.hid (fun q => HI.out q)
            simp only [decide_eq_false h2] at HI2
            have HEQ := Lib.hid (show R = false by rw [← HR.out]; exact decide_eq_false (take_ne HU.out HU'.out fun e => h2 (by rw [e])))
            clear h1 h2 HE HI
            go_wp2_with (fail)
            go_quiet ((first | (go_at_call 91; exact quietC (HE2.out _)) | (go_at_call 71; exact quietC (HI2.out _))))
            go_wp2_with (fail)
            go_ret
            exact ⟨ret_b HEQ.out.symm, by rw [HWR.out]; exact drewN_ex _ _ _⟩
        · have HE2 := Lib.hid (fun q => HE.out q)
          simp only [decide_eq_false h1] at HE2
          have HEQ := Lib.hid (show R = false by rw [← HR.out]; exact decide_eq_false (take_ne HU.out HU'.out fun e => h1 (by rw [e])))
          clear h1 HE HI
          go_wp2_with (fail)
          go_quiet ((go_at_call 91; exact quietC (HE2.out _)))
          go_wp2_with (fail)
          go_ret
          exact ⟨ret_b HEQ.out.symm, by rw [HWR.out]; exact drewN_ex _ _ _⟩
      · obtain rfl : k = n := by omega
        clear hx1 hx2
        have HE := Lib.hid (show R = true by rw [← HR.out]; exact decide_eq_true (take_all HX.out HY.out HT.out))
        go_wp2_with (fail)
        go_ret
        exact ⟨ret_b HE.out.symm, _, HWR.out⟩
  · have HE := Lib.hid (show R = false by rw [← hR, decide_eq_false_iff_not]; intro e; exact hn (by rw [← hl, ← hl', e]))
    have dn : ((n : Int) != (n' : Int)) = true := by simp; omega
    clear h h' hR hl hl'
    go_enter Tryz.func63, Tryz.ntmps63
    go_wp2_with (fail)
    go_ret
    exact ⟨ret_b HE.out.symm, 0, rfl⟩
theorem Plc.ext' {u v : Plc} (h1 : u.lo = v.lo) (h2 : u.hi = v.hi) (h3 : u.rds = v.rds) : u = v := by
  cases u; cases v; simp only at h1 h2 h3; rw [h1, h2, h3]
/-- two places are equal -/
def plcB (u v : Plc) : Bool := decide (u.lo = v.lo) && decide (u.hi = v.hi) && decide (u.rds = v.rds)
def plcsB : List Plc → List Plc → Bool
  | [], [] => true
  | u :: p, v :: q => plcB u v && plcsB p q
  | _, _ => false
theorem plcB_iff {u v : Plc} : plcB u v = true ↔ u = v := by
  unfold plcB
  simp only [Bool.and_eq_true, decide_eq_true_eq]
  exact ⟨fun h => Plc.ext' h.1.1 h.1.2 h.2, fun h => by subst h; exact ⟨⟨rfl, rfl⟩, rfl⟩⟩
theorem plcsB_iff : ∀ {l m : List Plc}, plcsB l m = true ↔ l = m
  | [], [] => by simp [plcsB]
  | [], _ :: _ => by simp [plcsB]
  | _ :: _, [] => by simp [plcsB]
  | u :: p, v :: q => by
    rw [plcsB, Bool.and_eq_true, plcB_iff, plcsB_iff]
    simp
set_option maxHeartbeats 8000000 in
theorem samePq (a a' : Option Addr) (c c' n n' : Nat) (xs ys : List Plc) (w : World) (h : Plcs w a n xs) (h' : Plcs w a' n' ys) :
    Calls Tryz.prog 23 #[.slice a n c, .slice a' n' c'] w fun e w' => e = .returned (.bool (plcsB xs ys)) ∧ ∃ q, w' = w.drewN q := by
  have hl := h.len
  have hl' := h'.len
  have hs := h.small
  have hs' := h'.small
  have HX := Lib.hid hl
  have HY := Lib.hid hl'
  have H1 := Lib.hid h
  have H2 := Lib.hid h'
  obtain ⟨R, hR⟩ : ∃ R, plcsB xs ys = R := ⟨_, rfl⟩
  rw [hR]
  have HR := Lib.hid hR
  have HF := Lib.hid (show xs ≠ ys → R = false from fun hne => by
    cases hp : plcsB xs ys
    · rw [← hR, hp]
    · exact absurd (plcsB_iff.1 hp) hne)
  by_cases hn : n = n'
  · subst hn
    clear h h' hR hl hl'
    go_enter Tryz.func23, Tryz.ntmps23
    go_wp2_with (fail)
    go_loopw [5] (fun iv wr => ∃ k q : Nat, k ≤ n ∧ iv = .int .i64 k ∧ wr = w.drewN q ∧ xs.take k = ys.take k) (fun iv _ => n - (intOf iv).toNat)
    case atStart => exact ⟨0, 0, Nat.zero_le _, rfl, rfl, by simp⟩
    case round =>
      obtain ⟨k, q, hk, rfl, hwr, ht⟩ := hrel
      have HWR := Lib.hid hwr
      have hx1 := Plcs.drewN (q := q) H1.out
      have hx2 := Plcs.drewN (q := q) H2.out
      rw [← hwr] at hx1 hx2
      clear hwr
      have HT := Lib.hid ht
      clear ht
      by_cases hkn : k < n
      · obtain ⟨u, b, off, hu, rfl, ⟨a1, n1, k1, g1, g2, g3, s1, _, _⟩⟩ := hx1.at hkn
        obtain ⟨v, b', off', hu', rfl, ⟨a2, n2, k2, g4, g5, g6, s2, _, _⟩⟩ := hx2.at hkn
        have HU := Lib.hid hu
        have HU' := Lib.hid hu'
        have HE := Lib.hid (fun q => sameRq a1 a2 k1 k2 n1 n2 u.rds v.rds (wr.drewN q) (Rdgs.drewN s1) (Rdgs.drewN s2))
        have i1 : (k : Int) < (n : Int) := by omega
        clear hu hu' s1 s2 hx1 hx2
        obtain ⟨l1, hl1⟩ : ∃ z, u.lo = z := ⟨_, rfl⟩
        obtain ⟨l2, hl2⟩ : ∃ z, v.lo = z := ⟨_, rfl⟩
        obtain ⟨m1, hm1⟩ : ∃ z, u.hi = z := ⟨_, rfl⟩
        obtain ⟨m2, hm2⟩ : ∃ z, v.hi = z := ⟨_, rfl⟩
        rw [hl1] at g1
        rw [hl2] at g4
        rw [hm1] at g2
        rw [hm2] at g5
        have L1 := Lib.hid hl1
        have L2 := Lib.hid hl2
        have M1 := Lib.hid hm1
        have M2 := Lib.hid hm2
        clear hl1 hl2 hm1 hm2
        by_cases h1 : l1 = l2
        · have e1 : (l1 != l2) = false := by rw [bne_eq_false_iff_eq]; exact h1
          have E1 := Lib.hid h1
          clear h1
          by_cases h2 : m1 = m2
          · have e2 : (m1 != m2) = false := by rw [bne_eq_false_iff_eq]; exact h2
            have E2 := Lib.hid h2
            clear h2
            by_cases h3 : u.rds = v.rds
            · have HE2 := Lib.hid (fun q => HE.out q)
              simp only [decide_eq_true h3] at HE2
              have HEQ := Lib.hid (show u = v from Plc.ext' (by rw [L1.out, L2.out, E1.out]) (by rw [M1.out, M2.out, E2.out]) h3)
              clear h3 HE
              go_wp2_with (fail)
              go_quiet ((go_at_call 63; exact quietC (HE2.out _)))
              go_wp2_with (fail)
              exact ⟨⟨k + 1, q + nq, by omega, by simp, by rw [HWR.out, drewN2], take_step HU.out HU'.out HT.out HEQ.out⟩, by simp [intOf]; omega⟩
            · have HE2 := Lib.hid (fun q => HE.out q)
              simp only [decide_eq_false h3] at HE2
              have HEQ := Lib.hid (HF.out (take_ne HU.out HU'.out fun e => h3 (by rw [e])))
              clear h3 HE
              go_wp2_with (fail)
              go_quiet ((go_at_call 63; exact quietC (HE2.out _)))
              go_wp2_with (fail)
              go_ret
              exact ⟨ret_b HEQ.out.symm, by rw [HWR.out]; exact drewN_ex _ _ _⟩
          · have e2 : (m1 != m2) = true := by rw [bne_iff_ne]; exact h2
            have HEQ := Lib.hid (HF.out (take_ne HU.out HU'.out fun e => h2 (by rw [← M1.out, ← M2.out, e])))
            clear h2 HE
            go_wp2_with (fail)
            go_quiet (fail)
            go_wp2_with (fail)
            go_ret
            exact ⟨ret_b HEQ.out.symm, by rw [HWR.out]; exact drewN_ex _ _ _⟩
        · have e1 : (l1 != l2) = true := by rw [bne_iff_ne]; exact h1
          have HEQ := Lib.hid (HF.out (take_ne HU.out HU'.out fun e => h1 (by rw [← L1.out, ← L2.out, e])))
          clear h1 HE
          go_wp2_with (fail)
          go_quiet (fail)
          go_wp2_with (fail)
          go_ret
          exact ⟨ret_b HEQ.out.symm, by rw [HWR.out]; exact drewN_ex _ _ _⟩
      · obtain rfl : k = n := by omega
        clear hx1 hx2
        have HE := Lib.hid (show R = true by rw [← HR.out]; exact plcsB_iff.2 (take_all HX.out HY.out HT.out))
        go_wp2_with (fail)
        go_ret
        exact ⟨ret_b HE.out.symm, _, HWR.out⟩
  · have HE := Lib.hid (HF.out fun e => hn (by rw [← hl, ← hl', e]))
    have dn : ((n : Int) != (n' : Int)) = true := by simp; omega
    clear h h' hR hl hl'
    go_enter Tryz.func23, Tryz.ntmps23
    go_wp2_with (fail)
    go_ret
    exact ⟨ret_b HE.out.symm, 0, rfl⟩
end Go.Proofs.YthfppkcefnmdoaaGreatDoor
