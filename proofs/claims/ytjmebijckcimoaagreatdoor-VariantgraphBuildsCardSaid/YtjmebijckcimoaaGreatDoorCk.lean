/-
  Why a collation is not valid.
-/
import Derived.Test.YtjmebijckcimoaaGreatDoorAl
import Derived.Test.YtjmebijckcimoaaGreatDoorPl
namespace Go.Proofs.YtjmebijckcimoaaGreatDoor
open Go.RowKit Go.Ap Go.Shelf Go.Proofs

attribute [local go_sem] Oper.semAt_some bs_toList empty_toList bs_size bs_extract
/-- a collation as a call hands it over -/
def collV (sec : Str) (a1 : Option Addr) (n1 c1 : Nat) (a2 : Option Addr) (n2 c2 : Nat) (a3 : Option Addr) (n3 c3 : Nat) : Value := .agg #[.string (bs sec), .slice a1 n1 c1, .slice a2 n2 c2, .slice a3 n3 c3]
set_option maxHeartbeats 1000000 in
theorem mwChk (a2 : Option Addr) (n2 c2 : Nat) (tk : List (List Tok)) (a3 : Option Addr) (n3 c3 : Nat) (cols : List (List Int)) (w : World) (h2 : Toks2 w a2 n2 tk) (h3 : Rows2 w a3 n3 cols) (h0 : 0 < n2) (h32 : n2 ≤ 32) (hl : ∀ l ∈ tk, l.length ≤ 1024) :
    Calls Tryz.prog 69 #[.slice a2 n2 c2, .slice a3 n3 c3] w fun e w' => e = .returned (.int .i64 (if alignB (lensT tk) cols = true then 0 else 19)) ∧ Below w.heap.size w w' := by
  have HS := Lib.hid (mwSrc a2 n2 c2 tk w h2 h0 h32 hl)
  have HA := Lib.hid (alP a2 n2 c2 tk a3 n3 c3 cols w h2 h3 h32)
  clear h2 h3 hl
  generalize alignB (lensT tk) cols = al at *
  cases al
  all_goals
    go_enter Tryz.func69, Tryz.ntmps69
    go_wp2_with (fail)
    refine HS.out.mono ?_
    rintro e w1 ⟨rfl, rfl⟩
    go_wp2_with (fail)
    refine HA.out.mono ?_
    rintro e w1 ⟨rfl, hb⟩
    go_wp2_with (fail)
    go_ret
    exact ⟨rfl, hb⟩
set_option maxRecDepth 100000 in
set_option maxHeartbeats 2000000 in
theorem collP (x : Coll) (a1 : Option Addr) (n1 c1 : Nat) (a2 : Option Addr) (n2 c2 : Nat) (a3 : Option Addr) (n3 c3 : Nat) (w : World) (h : CollM w a1 a2 a3 n1 n2 n3 x) (hc1 : n1 ≤ c1) (hv : EV w) :
    Calls Tryz.prog 41 #[collV x.sec a1 n1 c1 a2 n2 c2 a3 n3 c3] w fun e w' => e = .returned (.int .i64 (collC x)) ∧ Below w.heap.size w w' := by
  unfold collV
  have HS := Lib.hid (fun W (hb : Below w.heap.size w W) => srcP x.sec a1 n1 c1 x.sigla a2 n2 c2 x.tokens W h.sec (h.sigla.mono (Nat.le_refl _) hb) hc1 h.ssig (Toks2.mono h.tokens (Nat.le_refl _) hb) (hv.mono (Nat.le_refl _) hb))
  by_cases hh : headC x.sec x.sigla x.tokens = 0
  · obtain ⟨g1, g2, g3, g4, g5, g6⟩ := head_zero hh
    have HM := Lib.hid (fun W (hb : Below w.heap.size w W) => mwChk a2 n2 c2 x.tokens a3 n3 c3 x.columns W (Toks2.mono h.tokens (Nat.le_refl _) hb) (Rows2.mono h.columns (Nat.le_refl _) hb) (by have := h.tokens.len; omega) (by have := h.tokens.len; omega) (fun l hl => (tokE_zero g6 l hl).1))
    rw [hh] at HS
    have HR := Lib.hid (show ∀ b, alignB (lensT x.tokens) x.columns = b → collC x = if b = true then 0 else 19 from fun b hb => by
      cases b
      · exact coll_no hh hb
      · exact coll_al hh hb)
    cases hal : alignB (lensT x.tokens) x.columns
    all_goals
      rw [hal] at HM
      have HRR := Lib.hid (HR.out _ hal)
      clear hal hh h hv g1 g2 g3 g4 g5 g6 HR
      go_enter Tryz.func41, Tryz.ntmps41
      go_wp2_with (fail)
      obtain ⟨W4, hW4⟩ : ∃ W4, w.alloc (.cells #[.string (bs x.sec), .slice a1 n1 c1, .slice a2 n2 c2, .slice a3 n3 c3] 26) = W4 := ⟨_, rfl⟩
      have B4 : Below w.heap.size w W4 := by rw [← hW4]; exact balloc _ _
      have k2 : W4.cell? ⟨w.heap.size, 2, none⟩ = some (.slice a2 n2 c2) := by rw [← hW4]; exact cell_fresh rfl rfl
      have k3 : W4.cell? ⟨w.heap.size, 3, none⟩ = some (.slice a3 n3 c3) := by rw [← hW4]; exact cell_fresh rfl rfl
      rw [hW4]
      clear hW4
      refine (HS.out _ B4).mono ?_
      rintro e w1 ⟨rfl, hb1⟩
      have q2 := cell_keep hb1 k2
      have q3 := cell_keep hb1 k3
      have B5 := bstep B4 hb1
      clear k2 k3 hb1 B4
      go_wp2_with (fail)
      refine (HM.out _ B5).mono ?_
      rintro e w2 ⟨rfl, hb2⟩
      go_wp2_with (fail)
      go_ret
      exact ⟨ret_i (by rw [HRR.out]; rfl), bstep B5 hb2⟩
  · have HR := Lib.hid (coll_head rfl hh)
    obtain ⟨r, hr⟩ : ∃ r, headC x.sec x.sigla x.tokens = r := ⟨_, rfl⟩
    rw [hr] at HS HR hh
    have er : (r != 0) = true := by rw [bne_iff_ne]; exact hh
    clear hr hh h hv
    go_enter Tryz.func41, Tryz.ntmps41
    go_wp2_with (fail)
    refine (HS.out _ (balloc _ _)).mono ?_
    rintro e w1 ⟨rfl, hb1⟩
    go_wp2_with (fail)
    go_ret
    exact ⟨ret_i HR.out.symm, bstep (balloc _ _) hb1⟩
end Go.Proofs.YtjmebijckcimoaaGreatDoor
