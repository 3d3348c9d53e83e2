/-
  slices.Grow of a nil slice, and slices.Concat of two slices of rows.
-/
import Derived.Test.YtbcnbchpcbglhaaC1
namespace Go.Proofs.Ytbcnbchpcbglhaa
open Go.RowKit Go.Ap Go.Shelf Go.Proofs

set_option maxHeartbeats 1000000 in
theorem grow59 (n : Nat) (w : World) (hn : n ≤ 100000) :
    Calls Try.prog 59 #[.slice none 0 0, .int .i64 n] w (GivesOwn 23 w []) := by
  obtain ⟨i0, hi, hz0, hz1, hz2⟩ := info_parts info23
  by_cases h0 : n = 0
  · subst h0
    go_enter Try.func59, Try.ntmps59
    go_wp2_with (fail)
    go_ret
    exact ⟨_, rfl, World.ownsRow_nil _ _ _ _, Below.refl _ _⟩
  · have hp : 0 < n := by omega
    have d1 : decide (0 < (n : Int)) = true := by simp; omega
    have d2 : decide (0 < n) = true := by simpa using hp
    have d3 : decide ((n : Int) < 0) = false := by simp
    have HO := Lib.hid (grown_zeros (t := 23) (z := .slice none 0 0) rfl w n (by unfold maxLen; omega))
    have hbw : Below w.heap.size w (w.drew.alloc (.cells (Builtin.zeroCells (Value.slice none 0 0).cells n ++ Builtin.zeroCells (Value.slice none 0 0).cells (grownCap w n 0 23 - n)) 23)) := bstep (Below.refl _ _).drew (balloc _ _)
    have HBW := Lib.hid hbw
    have hrun := Lib.run_append_nil_zeros (P := Try.prog) w 22 3 22 23 i0 (.slice none 0 0) .i64 .i64 Try.underlying22 Try.underlying3 hi hz0 n hp (by omega) (by omega) (by rw [hz2]; omega)
    obtain ⟨cp, hcp⟩ : ∃ cp, grownCap w n 0 23 = cp := ⟨_, rfl⟩
    obtain ⟨W1, hW1⟩ : ∃ W1, w.drew.alloc (.cells (Builtin.zeroCells (Value.slice none 0 0).cells n ++ Builtin.zeroCells (Value.slice none 0 0).cells (grownCap w n 0 23 - n)) 23) = W1 := ⟨_, rfl⟩
    rw [hW1] at HO HBW
    rw [hW1] at hrun
    rw [hcp] at HO hrun
    have HR := Lib.hid hrun
    clear hbw hrun hW1 hcp h0
    go_enter Try.func59, Try.ntmps59
    go_wp2_with (at_builtin; refine Lib.wpList_append_run _ rfl _ _ 22 3 rfl _ _ rfl rfl _ _ HR.out ?_)
    go_ret
    exact ⟨_, rfl, HO.out, HBW.out⟩

/-- the cells of the first k of the slices, one after the other -/
def preV (F : Nat → List Value) (k : Nat) : List Value := (List.range k).flatMap F
theorem preV_succ (F : Nat → List Value) (k : Nat) : preV F (k + 1) = preV F k ++ F k := by simp [preV, List.range_succ]
theorem preV_len {F : Nat → List Value} {n : Nat} (h : ∀ k, k < 2 → (F k).length = n) {k : Nat} (hk : k ≤ 2) : (preV F k).length ≤ 2 * n := by
  rcases (show k = 0 ∨ k = 1 ∨ k = 2 by omega) with rfl | rfl | rfl
  · simp [preV]
  · have := h 0 (by omega); simp [preV]; omega
  · have h0 := h 0 (by omega); have h1 := h 1 (by omega); simp [preV, List.range_succ]; omega

def TwoV (w : World) (B n : Nat) (F : Nat → List Value) : Prop := ∀ k, k < 2 → ∃ b o c, w.cell? ⟨B, k, none⟩ = some (.slice (some ⟨b, o, none⟩) n c) ∧ (∀ j u, (F k)[j]? = some u → w.cell? ((⟨b, o, none⟩ : Addr).add j) = some u)
theorem TwoV.below {w w' : World} {B n : Nat} {F : Nat → List Value} (h : TwoV w B n F) (hb : Below w.heap.size w w') : TwoV w' B n F := by
  intro k hk
  obtain ⟨b, o, c, h1, h2⟩ := h k hk
  exact ⟨b, o, c, cell_keep hb h1, fun j u hu => by
    have hh := h2 j u hu
    rw [show (⟨b, o, none⟩ : Addr).add j = ⟨b, o + j, none⟩ from by unfold Addr.add; split <;> simp_all] at hh ⊢
    exact cell_keep hb hh⟩

set_option maxHeartbeats 2000000 in
theorem concat39 (B n : Nat) (F : Nat → List Value) (w : World) (h : TwoV w B n F) (hn0 : 0 < n) (hn : n ≤ 32) (hl : ∀ k, k < 2 → (F k).length = n) (hc : ∀ k, k < 2 → ∀ u ∈ F k, u.oneCell' = true) :
    Calls Try.prog 39 #[.slice (some ⟨B, 0, none⟩) 2 2] w (GivesOwn 23 w (preV F 2)) := by
  obtain ⟨i0, hi, hz0, hz1, hz2⟩ := info_parts info23
  have HH := Lib.hid h
  have HNE := Lib.hid hl
  have HC := Lib.hid hc
  have HLE := Lib.hid (fun (k : Nat) (hk : k ≤ 2) => preV_len hl hk)
  clear h hl hc
  go_enter Try.func39, Try.ntmps39
  go_wp2_with (fail)
  go_loop [3, 11] (fun s i => ∃ k : Nat, k ≤ 2 ∧ i = .int .i64 k ∧ s = .int .i64 ((preV F k).length : Nat)) (fun _ i => 2 - (intOf i).toNat)
  case atStart => exact ⟨0, by omega, rfl, rfl⟩
  case round =>
    obtain ⟨k, hk, rfl, rfl⟩ := hrel
    by_cases hlt : k < 2
    · obtain ⟨b1, o1, c1, hcell1, _⟩ := HH.out k hlt
      have hlen : (preV F (k + 1)).length = (preV F k).length + n := by rw [preV_succ, List.length_append, HNE.out k hlt]
      have hle := HLE.out (k + 1) (by omega)
      have HLEN := Lib.hid hlen
      rw [hlen] at hle
      generalize (preV F k).length = l at *
      clear hlen
      go_wp2_with (fail)
      go_round
      case rel => exact ⟨k + 1, by omega, by go_num, by rw [HLEN.out]; go_num⟩
      case measure => simp [intOf]; omega
    · obtain rfl : k = 2 := by omega
      have hl2 := HLE.out 2 (by omega)
      have hG := grow59 (preV F 2).length w (by omega)
      generalize hlq : (preV F 2).length = lq at *
      have HG := Lib.hid hG
      clear hG hlq
      rw [show ((2 : Nat) : Int) = 2 from rfl]
      go_wp2_with (fail)
      refine (HG.out).mono ?_
      rintro e w1 ⟨v, rfl, hown, hb⟩
      have hv : ∃ a0 c0, v = .slice a0 0 c0 := by
        rcases hown.2 with ⟨rfl, _⟩ | ⟨g, cap, cur, rfl, _⟩ <;> exact ⟨_, _, rfl⟩
      obtain ⟨a0, c0, rfl⟩ := hv
      have HO := Lib.hid hown
      have HB := Lib.hid hb
      clear hown hb
      go_wp2_with (fail)
      go_loopw [6, 27] (fun v i wr => ∃ k : Nat, k ≤ 2 ∧ i = .int .i64 k ∧ wr.ownsRow w.heap.size 23 1 v (preV F k).length (preV F k) ∧ Below w.heap.size w wr) (fun _ i _ => 2 - (intOf i).toNat)
      case atStart => exact ⟨0, by omega, rfl, HO.out, HB.out⟩
      case round =>
        clear HO HB
        obtain ⟨k, hk, rfl, ho, hb⟩ := hrel
        have HO := Lib.hid ho
        have HB := Lib.hid hb
        have hsz := hb.size
        clear ho
        by_cases hlt : k < 2
        · obtain ⟨b2, o2, c1, hcell1, hcells⟩ := TwoV.below HH.out hb k hlt
          have HCELLS := Lib.hid hcells
          have HRL := Lib.hid (HNE.out k hlt)
          have HCK := Lib.hid (HC.out k hlt)
          have HS := Lib.hid (preV_succ F k)
          have hle := HLE.out (k + 1) (by omega)
          rw [preV_succ, List.length_append, HNE.out k hlt] at hle
          generalize hfl : preV F k = fl at *
          clear hcells hfl hb
          go_wp2_with (at_builtin; refine wpList_append_own _ rfl _ _ 22 rfl w.heap.size 23 i0 (.slice none 0 0) 1 24 Try.underlying22 hi hz0 hz1 hz2 rfl (by decide) _ _ _ rfl HO.out ⟨b2, o2, none⟩ n c1 (F k) rfl (by rw [HRL.out, Nat.mul_one]) HCELLS.out HCK.out (by unfold maxLen; omega) (by omega) (by omega) ?_; intro v1 w4 hown1 hgrow1 _; have HO2 := Lib.hid hown1; have HG := Lib.hid hgrow1; clear hown1 hgrow1)
          go_roundw
          case rel => exact ⟨k + 1, by omega, by go_num, by rw [HS.out, List.length_append, HRL.out]; exact HO2.out, HB.out.grown HG.out hsz (fun j hj => (HO.out.lt j hj).1)⟩
          case measure => simp [intOf]; omega
        · obtain rfl : k = 2 := by omega
          have ho := HO.out
          obtain ⟨a0, c0, rfl⟩ := owns_slice ho
          have HO3 := Lib.hid ho
          clear ho
          generalize hlq2 : (preV F 2).length = lq2 at *
          have HLQ := Lib.hid hlq2
          clear hlq2
          rw [show ((2 : Nat) : Int) = 2 from rfl]
          go_wp2_with (fail)
          go_ret
          exact ⟨_, rfl, by rw [HLQ.out]; exact HO3.out, HB.out⟩

end Go.Proofs.Ytbcnbchpcbglhaa
