/-
  The sizes that the statements look at: a collation.
-/
import Derived.Test.YthfppkcefnmdoaaGreatDoorGt
namespace Go.Proofs.YthfppkcefnmdoaaGreatDoor
open Go.RowKit Go.Ap Go.Shelf Go.Proofs

attribute [local go_sem] Oper.semAt_some bs_toList empty_toList bs_size bs_extract

set_option maxRecDepth 100000 in
set_option maxHeartbeats 4000000 in
theorem greatR (x : Coll) (a1 : Option Addr) (n1 c1 : Nat) (a2 : Option Addr) (n2 c2 : Nat) (a3 : Option Addr) (n3 c3 : Nat) (w : World) (h : CollM w a1 a2 a3 n1 n2 n3 x) :
    Calls Tryz.prog 11 #[collV x.sec a1 n1 c1 a2 n2 c2 a3 n3 c3] w fun e w' => (∃ b, e = .returned (.bool b) ∧ (b = false → x.columns.length ≤ 24)) ∧ Below w.heap.size w w' := by
  unfold collV
  have hs1 := h.sigla.small
  have hs3 := h.columns.small
  have hl3 := h.columns.len
  have HT := Lib.hid (fun W (hb : Below w.heap.size w W) => gtToks a2 n2 c2 x.tokens W (Toks2.mono h.tokens (Nat.le_refl _) hb))
  have HN := Lib.hid (fun W (hb : Below w.heap.size w W) => gtNames x.sec a1 n1 c1 x.sigla W (h.sigla.mono (Nat.le_refl _) hb))
  have H3 := Lib.hid h.columns
  clear h
  go_enter Tryz.func11, Tryz.ntmps11
  go_wp2_with (fail)
  obtain ⟨W4, hW4⟩ : ∃ W4, w.alloc (.cells #[.string (bs x.sec), .slice a1 n1 c1, .slice a2 n2 c2, .slice a3 n3 c3] 26) = W4 := ⟨_, rfl⟩
  have B4 : Below w.heap.size w W4 := by rw [← hW4]; exact balloc _ _
  have k0 : W4.cell? ⟨w.heap.size, 0, none⟩ = some (.string (bs x.sec)) := by rw [← hW4]; exact cell_fresh rfl rfl
  have k1 : W4.cell? ⟨w.heap.size, 1, none⟩ = some (.slice a1 n1 c1) := by rw [← hW4]; exact cell_fresh rfl rfl
  have k2 : W4.cell? ⟨w.heap.size, 2, none⟩ = some (.slice a2 n2 c2) := by rw [← hW4]; exact cell_fresh rfl rfl
  have k3 : W4.cell? ⟨w.heap.size, 3, none⟩ = some (.slice a3 n3 c3) := by rw [← hW4]; exact cell_fresh rfl rfl
  rw [hW4]
  clear hW4
  go_loopw [3] (fun iv wr => ∃ i : Nat, i ≤ n3 ∧ iv = .int .i64 i ∧ W4 = wr) (fun iv _ => n3 - (intOf iv).toNat)
  case atStart => exact ⟨0, Nat.zero_le _, rfl, rfl⟩
  case round =>
    obtain ⟨i, hi, rfl, rfl⟩ := hrel
    by_cases hlt : i < n3
    · obtain ⟨c, b, off, v, hc, rfl, hcv0, a', n', c', rfl, hI⟩ := H3.out.at hlt
      have hcv := cell_keep B4 hcv0
      clear hc hcv0 hI
      cases h36 : decide ((36 : Int) < (n' : Int))
      · go_wp2_with (fail)
        exact ⟨⟨i + 1, by omega, by simp, trivial⟩, by simp [intOf]; omega⟩
      · go_wp2_with (fail)
        go_ret
        exact ⟨⟨_, rfl, fun h => by cases h⟩, B4⟩
    · obtain rfl : i = n3 := by omega
      go_wp2_with (fail)
      refine (HT.out _ B4).mono ?_
      rintro e w1 ⟨⟨b, rfl⟩, hb1⟩
      have B5 := bstep B4 hb1
      have q0 := cell_keep hb1 k0
      have q1 := cell_keep hb1 k1
      have q3 := cell_keep hb1 k3
      clear k0 k1 k2 k3 hb1 B4
      cases b
      · by_cases h24 : 24 < i
        · have d24 : decide ((24 : Int) < (i : Int)) = true := by simp; omega
          go_wp2_with (fail)
          go_ret
          exact ⟨⟨_, rfl, fun h => by cases h⟩, B5⟩
        · have d24 : decide ((24 : Int) < (i : Int)) = false := by simp; omega
          have HC := Lib.hid (show x.columns.length ≤ 24 by omega)
          cases h36 : decide ((36 : Int) < (n1 : Int))
          · go_wp2_with (fail)
            refine (HN.out _ B5).mono ?_
            rintro e w2 ⟨⟨b, rfl⟩, rfl⟩
            go_wp2_with (fail)
            go_ret
            exact ⟨⟨_, rfl, fun _ => HC.out⟩, B5⟩
          · go_wp2_with (fail)
            go_ret
            exact ⟨⟨_, rfl, fun _ => HC.out⟩, B5⟩
      · go_wp2_with (fail)
        go_ret
        exact ⟨⟨_, rfl, fun h => by cases h⟩, B5⟩
end Go.Proofs.YthfppkcefnmdoaaGreatDoor
