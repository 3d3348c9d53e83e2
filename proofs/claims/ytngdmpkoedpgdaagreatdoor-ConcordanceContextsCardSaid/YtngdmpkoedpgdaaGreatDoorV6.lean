/-
  The law of contexts.
-/
import Derived.Test.YtngdmpkoedpgdaaGreatDoorCx
namespace Go.Proofs.YtngdmpkoedpgdaaGreatDoor
open Go.RowKit Go.Ap Go.Shelf Go.Proofs

attribute [local go_sem] Oper.semAt_some bs_toList empty_toList bs_size bs_extract

set_option maxRecDepth 100000 in
set_option maxHeartbeats 400000 in
theorem law6 (a : Option Addr) (n c : Nat) (ws : List Str) (z1 z2 : Int) (w : World) (h : StrsL w a n ws) (hc : n ≤ c) (hz1 : 0 ≤ z1 ∧ z1 ≤ 255) (hz2 : 0 ≤ z2 ∧ z2 ≤ 255) (ht : ET w) :
    Calls Tryz.prog 6 #[.slice a n c, .int .u8 z1, .int .u8 z2] w fun e w' => e = .returned (.bool true) ∧ Below w.heap.size w w' := by
  have HM := Lib.hid (many12 ws a n c w h)
  have HA := Lib.hid (fun W (hb : Below w.heap.size w W) => awake13 W (ht.mono (Nat.le_refl _) hb))
  cases hm : manyB ws
  · rw [hm] at HM
    obtain ⟨m1, m2⟩ := manyB_no hm
    have hlen := h.len
    by_cases h0 : n = 0
    · have d1 : ((n : Int) == 0) = true := by rw [h0]; rfl
      clear hm m1 m2 hlen h0 h
      go_enter Tryz.func6, Tryz.ntmps6
      go_wp2_with (fail)
      refine HM.out.mono ?_
      rintro e W ⟨rfl, hb⟩
      have HB := Lib.hid hb
      clear hb
      go_wp2_with (fail)
      refine (HA.out W HB.out).mono ?_
      rintro e W2 ⟨rfl, hb2⟩
      have HB2 := Lib.hid (bstep HB.out hb2)
      clear hb2
      go_wp2_with (fail)
      go_ret
      exact ⟨rfl, HB2.out⟩
    · have d1 : ((n : Int) == 0) = false := by rw [beq_eq_false_iff_ne]; omega
      obtain ⟨p, rfl⟩ := Int.eq_ofNat_of_zero_le hz1.1
      obtain ⟨q, rfl⟩ := Int.eq_ofNat_of_zero_le hz2.1
      obtain ⟨i, hi⟩ : ∃ i, p % n = i := ⟨_, rfl⟩
      obtain ⟨k, hk⟩ : ∃ k, q % 65 = k := ⟨_, rfl⟩
      have r1 : Int.tmod (p : Int) (n : Int) = (i : Int) := by rw [← hi]; exact (Int.ofNat_tmod p n).symm
      have r2 : Int.tmod (q : Int) 65 = (k : Int) := by rw [← hk]; exact (Int.ofNat_tmod q 65).symm
      have hin : i < n := by rw [← hi]; exact Nat.mod_lt _ (by omega)
      have hk65 : k ≤ 64 := by omega
      obtain ⟨b, o, rfl⟩ : ∃ b o, a = some ⟨b, o, none⟩ := by
        obtain ⟨t, b, off, v, ht, he, _⟩ := Sl.at h hin
        exact ⟨b, off, he⟩
      have hx := ctxS_le m1 m2 i k
      have HC := Lib.hid (fun W (hb : Below w.heap.size w W) => contextOk ws i k (some ⟨b, o, none⟩) n c W (h.mono (Nat.le_refl _) hb) hc (by omega) hin hk65 (by omega))
      obtain ⟨lo, hlo⟩ : ∃ lo, i - k = lo := ⟨_, rfl⟩
      obtain ⟨up, hup⟩ : ∃ up, min n (i + k + 1) = up := ⟨_, rfl⟩
      have e0 : ctxS ws i k = Lib.join ((ws.take up).drop lo) [32] := by
        unfold ctxS ctxL
        rw [hlo, ← hup]
        congr 2
        by_cases hh : n ≤ i + k + 1
        · rw [Nat.min_eq_left hh, List.take_of_length_le (by omega), List.take_of_length_le (by omega)]
        · rw [Nat.min_eq_right (by omega)]
      have q1 : lo < up := by omega
      have q2 : up ≤ n := by omega
      have HJ := Lib.hid (fun W (hb : Below w.heap.size w W) => joinSub ws b o n c lo up W (h.mono (Nat.le_refl _) hb) q1 q2 hc (by omega) (by rw [← e0]; omega))
      rw [← e0] at HJ
      have hmax : ∀ (ts : Array TypeId) (t : TypeId) (W : World), (Builtin.max_ ts t #[.int .i64 0, .int .i64 ((i : Int) - (k : Int))]).run Tryz.prog W = .ok (.int .i64 (lo : Int)) W := fun ts t W => by
        simp [Builtin.max_, Builtin.max2]
        split <;> omega
      have hmin : ∀ (ts : Array TypeId) (t : TypeId) (W : World), (Builtin.min_ ts t #[.int .i64 (n : Int), .int .i64 ((i : Int) + (k : Int) + 1)]).run Tryz.prog W = .ok (.int .i64 (up : Int)) W := fun ts t W => by
        simp [Builtin.min_, Builtin.min2]
        split <;> omega
      have hmin2 : ∀ (ts : Array TypeId) (t : TypeId) (W : World), (Builtin.min_ ts t #[.int .i64 (n : Int), .int .i64 (wrap64 (wrap64 ((i : Int) + (k : Int)) + 1))]).run Tryz.prog W = .ok (.int .i64 (up : Int)) W := fun ts t W => by
        rw [IntWalk.wrap64_in ((i : Int) + (k : Int)) (by omega), IntWalk.wrap64_in ((i : Int) + (k : Int) + 1) (by omega)]
        exact hmin ts t W
      obtain ⟨r, hr⟩ : ∃ r, ctxS ws i k = r := ⟨_, rfl⟩
      rw [hr] at HJ HC
      have w1 : IntKind.i64.wrap ((i : Int) - (k : Int)) = (i : Int) - (k : Int) := Go.IntWalk.i64_in _ (by omega)
      have s1 : (lo : Int) ≤ (up : Int) := by omega
      have s2 : (up : Int) ≤ (c : Int) := by omega
      have s3 : ¬c = lo := by omega
      clear hm m1 m2 hlen h hx hlo hup e0 hr q1 hi hk
      go_enter Tryz.func6, Tryz.ntmps6
      go_wp2_with (fail)
      refine HM.out.mono ?_
      rintro e W ⟨rfl, hb⟩
      have HB := Lib.hid hb
      clear hb
      go_wp2_with (fail)
      refine (HC.out W HB.out).mono ?_
      rintro e W2 ⟨rfl, hb2⟩
      have HB2 := Lib.hid (bstep HB.out hb2)
      clear hb2
      go_wp2_with (fail)
      refine (HJ.out W2 HB2.out).mono ?_
      rintro e W3 ⟨rfl, hb3⟩
      have HB3 := Lib.hid (bstep HB2.out hb3)
      clear hb3
      go_wp2_with (fail)
      refine (HA.out W3 HB3.out).mono ?_
      rintro e W4 ⟨rfl, hb4⟩
      have HB4 := Lib.hid (bstep HB3.out hb4)
      clear hb4
      go_wp2_with (fail)
      go_ret
      exact ⟨rfl, HB4.out⟩
  · rw [hm] at HM
    clear hm h
    go_enter Tryz.func6, Tryz.ntmps6
    go_wp2_with (fail)
    refine HM.out.mono ?_
    rintro e W ⟨rfl, hb⟩
    have HB := Lib.hid hb
    clear hb
    go_wp2_with (fail)
    refine (HA.out W HB.out).mono ?_
    rintro e W2 ⟨rfl, hb2⟩
    have HB2 := Lib.hid (bstep HB.out hb2)
    clear hb2
    go_wp2_with (fail)
    go_ret
    exact ⟨rfl, HB2.out⟩
theorem law6r (a : Option Addr) (n c : Nat) (ws : List Str) (z1 z2 : Int) (w : World) (h : StrsL w a n ws ∧ n ≤ c ∧ ∀ s ∈ ws, s.length ≤ 281474976710656) (hz1 : 0 ≤ z1 ∧ z1 ≤ 255) (hz2 : 0 ≤ z2 ∧ z2 ≤ 255) (ht : ET w) :
    Calls Tryz.prog 6 #[.slice a n c, .int .u8 z1, .int .u8 z2] w fun e w' => e = .returned (.bool true) ∧ Below w.heap.size w w' := law6 a n c ws z1 z2 w h.1 h.2.1 hz1 hz2 ht
end Go.Proofs.YtngdmpkoedpgdaaGreatDoor
