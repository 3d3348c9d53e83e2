/-
  The kinds of characters, walked.
-/
import Derived.Test.YtjmebijckcimoaaGreatDoorRows
import Derived.Test.YtjmebijckcimoaaGreatDoorShelf
import Derived.Test.YtjmebijckcimoaaGreatDoorPl
import Derived.Lib.IndexLaws
namespace Go.Proofs.YtjmebijckcimoaaGreatDoor
open Go.RowKit Go.Ap Go.Shelf Go.Proofs

def punctU : List UInt8 := [46, 44, 59, 58, 33, 63, 40, 41, 45]
theorem punct_in {c : Int} (h : c ∈ punctL) : 0 ≤ Lib.indexByte punctU c.toNat.toUInt8 := by
  simp only [punctL, List.mem_cons, List.not_mem_nil, or_false] at h
  rcases h with rfl | rfl | rfl | rfl | rfl | rfl | rfl | rfl | rfl <;> decide
theorem punct_out {c : Int} (h0 : 0 ≤ c) (h1 : c ≤ 255) (h : c ∉ punctL) : Lib.indexByte punctU c.toNat.toUInt8 < 0 := by
  have := Lib.indexByte_ge punctU c.toNat.toUInt8
  by_cases hn : Lib.indexByte punctU c.toNat.toUInt8 = -1
  · omega
  · obtain ⟨o, ho⟩ : ∃ o : Nat, Lib.indexByte punctU c.toNat.toUInt8 = o := ⟨(Lib.indexByte punctU c.toNat.toUInt8).toNat, by omega⟩
    obtain ⟨h2, _⟩ := Lib.indexByte_some ho
    have hm := List.mem_of_getElem? h2
    have hc : c = ((c.toNat.toUInt8).toNat : Int) := by
      rw [show (c.toNat.toUInt8).toNat = c.toNat % 256 from rfl]; omega
    simp only [punctU, List.mem_cons, List.not_mem_nil, or_false] at hm
    exfalso
    apply h
    rw [hc]
    rcases hm with e | e | e | e | e | e | e | e | e <;> rw [e] <;> decide
theorem idx_in (c : Int) (w : World) (h : c ∈ punctL) : Calls Tryz.prog 153 #[.string { data := #[46, 44, 59, 58, 33, 63, 40, 41, 45] }, .int .u8 c] w fun e w' => ∃ x, decide (0 ≤ x) = true ∧ e = .returned (.int .i64 x) ∧ w = w' :=
  (Tryz.strings_IndexByte _ c w).mono fun _ _ ⟨he, hw⟩ => ⟨_, decide_eq_true (punct_in h), he, hw.symm⟩
theorem idx_out (c : Int) (w : World) (h0 : 0 ≤ c) (h1 : c ≤ 255) (h : c ∉ punctL) : Calls Tryz.prog 153 #[.string { data := #[46, 44, 59, 58, 33, 63, 40, 41, 45] }, .int .u8 c] w fun e w' => ∃ x, decide (0 ≤ x) = false ∧ e = .returned (.int .i64 x) ∧ w = w' :=
  (Tryz.strings_IndexByte _ c w).mono fun _ _ ⟨he, hw⟩ => ⟨_, decide_eq_false (by have := punct_out h0 h1 h; show ¬ (0 ≤ Lib.indexByte punctU _); omega), he, hw.symm⟩

set_option maxRecDepth 100000 in
set_option maxHeartbeats 2000000 in
theorem kindP (c : Int) (w : World) (h0 : 0 ≤ c) (h1 : c ≤ 255) : Calls Tryz.prog 140 #[.int .u8 c] w fun e w' => e = .returned (.int .i64 (kindOf c)) ∧ w = w' := by
  rcases kind_cases c with ⟨g1, g2⟩ | ⟨g1, g2⟩ | ⟨g1, g2⟩ | rfl | rfl | rfl | rfl | rfl | g | ⟨g, n1, n2, n3, n4, n5, n6⟩
  · have K : kindOf c = 1 := by unfold kindOf; rw [if_pos (by omega)]
    rw [K]
    clear K
    have d1 : decide (97 ≤ c) = true := by simpa using g1
    have d2 : decide (c ≤ 122) = true := by simpa using g2
    go_enter Tryz.func140, Tryz.ntmps140
    go_wp2_with (fail)
    go_ret
    exact ⟨rfl, rfl⟩
  · have K : kindOf c = 1 := by unfold kindOf; rw [if_pos (by omega)]
    rw [K]
    clear K
    have d1 : decide (97 ≤ c) = false := by simp; omega
    have d2 : decide (65 ≤ c) = true := by simpa using g1
    have d3 : decide (c ≤ 90) = true := by simpa using g2
    go_enter Tryz.func140, Tryz.ntmps140
    go_wp2_with (fail)
    go_ret
    exact ⟨rfl, rfl⟩
  · have K : kindOf c = 3 := by unfold kindOf; rw [if_neg (by omega), if_neg (by omega), if_pos (by omega)]
    rw [K]
    clear K
    have d1 : decide (97 ≤ c) = false := by simp; omega
    have d2 : decide (65 ≤ c) = false := by simp; omega
    have d3 : decide (48 ≤ c) = true := by simpa using g1
    have d4 : decide (c ≤ 57) = true := by simpa using g2
    have e1 : (c == 94) = false := by simp; omega
    have e2 : (c == 126) = false := by simp; omega
    have e3 : (c == 37) = false := by simp; omega
    go_enter Tryz.func140, Tryz.ntmps140
    go_wp2_with (fail)
    go_ret
    exact ⟨rfl, rfl⟩
  · go_enter Tryz.func140, Tryz.ntmps140
    go_wp2_with (fail)
    go_ret
    exact ⟨rfl, rfl⟩
  · go_enter Tryz.func140, Tryz.ntmps140
    go_wp2_with (fail)
    go_ret
    exact ⟨rfl, rfl⟩
  · go_enter Tryz.func140, Tryz.ntmps140
    go_wp2_with (fail)
    go_ret
    exact ⟨rfl, rfl⟩
  · go_enter Tryz.func140, Tryz.ntmps140
    go_wp2_with (fail)
    go_ret
    exact ⟨rfl, rfl⟩
  · go_enter Tryz.func140, Tryz.ntmps140
    go_wp2_with (fail)
    go_ret
    exact ⟨rfl, rfl⟩
  · simp only [punctL, List.mem_cons, List.not_mem_nil, or_false] at g
    rcases g with rfl | rfl | rfl | rfl | rfl | rfl | rfl | rfl | rfl
    · go_enter Tryz.func140, Tryz.ntmps140
      go_wp2_with (fail)
      refine (idx_in _ _ (by decide)).mono ?_
      rintro e w' ⟨x, hx, rfl, rfl⟩
      go_wp2_with (fail)
      go_ret
      exact ⟨rfl, rfl⟩
    · go_enter Tryz.func140, Tryz.ntmps140
      go_wp2_with (fail)
      refine (idx_in _ _ (by decide)).mono ?_
      rintro e w' ⟨x, hx, rfl, rfl⟩
      go_wp2_with (fail)
      go_ret
      exact ⟨rfl, rfl⟩
    · go_enter Tryz.func140, Tryz.ntmps140
      go_wp2_with (fail)
      refine (idx_in _ _ (by decide)).mono ?_
      rintro e w' ⟨x, hx, rfl, rfl⟩
      go_wp2_with (fail)
      go_ret
      exact ⟨rfl, rfl⟩
    · go_enter Tryz.func140, Tryz.ntmps140
      go_wp2_with (fail)
      refine (idx_in _ _ (by decide)).mono ?_
      rintro e w' ⟨x, hx, rfl, rfl⟩
      go_wp2_with (fail)
      go_ret
      exact ⟨rfl, rfl⟩
    · go_enter Tryz.func140, Tryz.ntmps140
      go_wp2_with (fail)
      refine (idx_in _ _ (by decide)).mono ?_
      rintro e w' ⟨x, hx, rfl, rfl⟩
      go_wp2_with (fail)
      go_ret
      exact ⟨rfl, rfl⟩
    · go_enter Tryz.func140, Tryz.ntmps140
      go_wp2_with (fail)
      refine (idx_in _ _ (by decide)).mono ?_
      rintro e w' ⟨x, hx, rfl, rfl⟩
      go_wp2_with (fail)
      go_ret
      exact ⟨rfl, rfl⟩
    · go_enter Tryz.func140, Tryz.ntmps140
      go_wp2_with (fail)
      refine (idx_in _ _ (by decide)).mono ?_
      rintro e w' ⟨x, hx, rfl, rfl⟩
      go_wp2_with (fail)
      go_ret
      exact ⟨rfl, rfl⟩
    · go_enter Tryz.func140, Tryz.ntmps140
      go_wp2_with (fail)
      refine (idx_in _ _ (by decide)).mono ?_
      rintro e w' ⟨x, hx, rfl, rfl⟩
      go_wp2_with (fail)
      go_ret
      exact ⟨rfl, rfl⟩
    · go_enter Tryz.func140, Tryz.ntmps140
      go_wp2_with (fail)
      refine (idx_in _ _ (by decide)).mono ?_
      rintro e w' ⟨x, hx, rfl, rfl⟩
      go_wp2_with (fail)
      go_ret
      exact ⟨rfl, rfl⟩
  · rcases g with g | ⟨g, g'⟩ | ⟨g, g'⟩ | g
    · have K : kindOf c = 0 := by
        unfold kindOf
        rw [if_neg (by omega), if_neg (by omega), if_neg (by omega), if_neg (by omega), if_neg (by omega), if_neg n6]
      rw [K]
      clear K
      have e1 : (c == 94) = false := by simp; omega
      have e2 : (c == 126) = false := by simp; omega
      have e3 : (c == 37) = false := by simp; omega
      have e4 : (c == 39) = false := by simp; omega
      have e5 : (c == 32) = false := by simp; omega
      have d1 : decide (97 ≤ c) = true := by simp; omega
      have d2 : decide (c ≤ 122) = false := by simp; omega
      have d3 : decide (65 ≤ c) = true := by simp; omega
      have d4 : decide (c ≤ 90) = false := by simp; omega
      have d5 : decide (48 ≤ c) = true := by simp; omega
      have d6 : decide (c ≤ 57) = false := by simp; omega
      have z1 : (c != 0) = true := by simp; omega
      go_enter Tryz.func140, Tryz.ntmps140
      go_wp2_with (fail)
      refine (idx_out _ _ h0 h1 n6).mono ?_
      rintro e w' ⟨x, hx, rfl, rfl⟩
      go_wp2_with (fail)
      go_ret
      exact ⟨rfl, rfl⟩
    · have K : kindOf c = 0 := by
        unfold kindOf
        rw [if_neg (by omega), if_neg (by omega), if_neg (by omega), if_neg (by omega), if_neg (by omega), if_neg n6]
      rw [K]
      clear K
      have e1 : (c == 94) = false := by simp; omega
      have e2 : (c == 126) = false := by simp; omega
      have e3 : (c == 37) = false := by simp; omega
      have e4 : (c == 39) = false := by simp; omega
      have e5 : (c == 32) = false := by simp; omega
      have d1 : decide (97 ≤ c) = false := by simp; omega
      have d3 : decide (65 ≤ c) = true := by simp; omega
      have d4 : decide (c ≤ 90) = false := by simp; omega
      have d5 : decide (48 ≤ c) = true := by simp; omega
      have d6 : decide (c ≤ 57) = false := by simp; omega
      have z1 : (c != 0) = true := by simp; omega
      go_enter Tryz.func140, Tryz.ntmps140
      go_wp2_with (fail)
      refine (idx_out _ _ h0 h1 n6).mono ?_
      rintro e w' ⟨x, hx, rfl, rfl⟩
      go_wp2_with (fail)
      go_ret
      exact ⟨rfl, rfl⟩
    · have K : kindOf c = 0 := by
        unfold kindOf
        rw [if_neg (by omega), if_neg (by omega), if_neg (by omega), if_neg (by omega), if_neg (by omega), if_neg n6]
      rw [K]
      clear K
      have e1 : (c == 94) = false := by simp; omega
      have e2 : (c == 126) = false := by simp; omega
      have e3 : (c == 37) = false := by simp; omega
      have e4 : (c == 39) = false := by simp; omega
      have e5 : (c == 32) = false := by simp; omega
      have d1 : decide (97 ≤ c) = false := by simp; omega
      have d3 : decide (65 ≤ c) = false := by simp; omega
      have d5 : decide (48 ≤ c) = true := by simp; omega
      have d6 : decide (c ≤ 57) = false := by simp; omega
      have z1 : (c != 0) = true := by simp; omega
      go_enter Tryz.func140, Tryz.ntmps140
      go_wp2_with (fail)
      refine (idx_out _ _ h0 h1 n6).mono ?_
      rintro e w' ⟨x, hx, rfl, rfl⟩
      go_wp2_with (fail)
      go_ret
      exact ⟨rfl, rfl⟩
    · have K : kindOf c = 0 := by
        unfold kindOf
        rw [if_neg (by omega), if_neg (by omega), if_neg (by omega), if_neg (by omega), if_neg (by omega), if_neg n6]
      rw [K]
      clear K
      have e1 : (c == 94) = false := by simp; omega
      have e2 : (c == 126) = false := by simp; omega
      have e3 : (c == 37) = false := by simp; omega
      have e4 : (c == 39) = false := by simp; omega
      have e5 : (c == 32) = false := by simp; omega
      have d1 : decide (97 ≤ c) = false := by simp; omega
      have d3 : decide (65 ≤ c) = false := by simp; omega
      have d5 : decide (48 ≤ c) = false := by simp; omega
      by_cases hz : c = 0
      · subst hz
        go_enter Tryz.func140, Tryz.ntmps140
        go_wp2_with (fail)
        go_ret
        exact ⟨rfl, rfl⟩
      · have z1 : (c != 0) = true := by simpa using hz
        go_enter Tryz.func140, Tryz.ntmps140
        go_wp2_with (fail)
        refine (idx_out _ _ h0 h1 n6).mono ?_
        rintro e w' ⟨x, hx, rfl, rfl⟩
        go_wp2_with (fail)
        go_ret
        exact ⟨rfl, rfl⟩

set_option maxRecDepth 100000 in
set_option maxHeartbeats 2000000 in
theorem kindR (c : Int) (w : World) (h0 : 0 ≤ c) (h1 : c ≤ 255) : Calls Tryz.prog 136 #[.int .u8 c] w fun e w' => e = .returned (.int .i64 (kindOf c)) ∧ w = w' := by
  rcases kind_cases c with ⟨g1, g2⟩ | ⟨g1, g2⟩ | ⟨g1, g2⟩ | rfl | rfl | rfl | rfl | rfl | g | ⟨g, n1, n2, n3, n4, n5, n6⟩
  · have K : kindOf c = 1 := by unfold kindOf; rw [if_pos (by omega)]
    rw [K]
    clear K
    have d1 : decide (97 ≤ c) = true := by simpa using g1
    have d2 : decide (c ≤ 122) = true := by simpa using g2
    go_enter Tryz.func136, Tryz.ntmps136
    go_wp2_with (fail)
    go_ret
    exact ⟨rfl, rfl⟩
  · have K : kindOf c = 1 := by unfold kindOf; rw [if_pos (by omega)]
    rw [K]
    clear K
    have d1 : decide (97 ≤ c) = false := by simp; omega
    have d2 : decide (65 ≤ c) = true := by simpa using g1
    have d3 : decide (c ≤ 90) = true := by simpa using g2
    go_enter Tryz.func136, Tryz.ntmps136
    go_wp2_with (fail)
    go_ret
    exact ⟨rfl, rfl⟩
  · have K : kindOf c = 3 := by unfold kindOf; rw [if_neg (by omega), if_neg (by omega), if_pos (by omega)]
    rw [K]
    clear K
    have d1 : decide (97 ≤ c) = false := by simp; omega
    have d2 : decide (65 ≤ c) = false := by simp; omega
    have d3 : decide (48 ≤ c) = true := by simpa using g1
    have d4 : decide (c ≤ 57) = true := by simpa using g2
    have e1 : (c == 94) = false := by simp; omega
    have e2 : (c == 126) = false := by simp; omega
    have e3 : (c == 37) = false := by simp; omega
    go_enter Tryz.func136, Tryz.ntmps136
    go_wp2_with (fail)
    go_ret
    exact ⟨rfl, rfl⟩
  · go_enter Tryz.func136, Tryz.ntmps136
    go_wp2_with (fail)
    go_ret
    exact ⟨rfl, rfl⟩
  · go_enter Tryz.func136, Tryz.ntmps136
    go_wp2_with (fail)
    go_ret
    exact ⟨rfl, rfl⟩
  · go_enter Tryz.func136, Tryz.ntmps136
    go_wp2_with (fail)
    go_ret
    exact ⟨rfl, rfl⟩
  · go_enter Tryz.func136, Tryz.ntmps136
    go_wp2_with (fail)
    go_ret
    exact ⟨rfl, rfl⟩
  · go_enter Tryz.func136, Tryz.ntmps136
    go_wp2_with (fail)
    go_ret
    exact ⟨rfl, rfl⟩
  · simp only [punctL, List.mem_cons, List.not_mem_nil, or_false] at g
    rcases g with rfl | rfl | rfl | rfl | rfl | rfl | rfl | rfl | rfl
    · go_enter Tryz.func136, Tryz.ntmps136
      go_wp2_with (fail)
      go_ret
      exact ⟨rfl, rfl⟩
    · go_enter Tryz.func136, Tryz.ntmps136
      go_wp2_with (fail)
      go_ret
      exact ⟨rfl, rfl⟩
    · go_enter Tryz.func136, Tryz.ntmps136
      go_wp2_with (fail)
      go_ret
      exact ⟨rfl, rfl⟩
    · go_enter Tryz.func136, Tryz.ntmps136
      go_wp2_with (fail)
      go_ret
      exact ⟨rfl, rfl⟩
    · go_enter Tryz.func136, Tryz.ntmps136
      go_wp2_with (fail)
      go_ret
      exact ⟨rfl, rfl⟩
    · go_enter Tryz.func136, Tryz.ntmps136
      go_wp2_with (fail)
      go_ret
      exact ⟨rfl, rfl⟩
    · go_enter Tryz.func136, Tryz.ntmps136
      go_wp2_with (fail)
      go_ret
      exact ⟨rfl, rfl⟩
    · go_enter Tryz.func136, Tryz.ntmps136
      go_wp2_with (fail)
      go_ret
      exact ⟨rfl, rfl⟩
    · go_enter Tryz.func136, Tryz.ntmps136
      go_wp2_with (fail)
      go_ret
      exact ⟨rfl, rfl⟩
  · rcases g with g | ⟨g, g'⟩ | ⟨g, g'⟩ | g
    · have K : kindOf c = 0 := by
        unfold kindOf
        rw [if_neg (by omega), if_neg (by omega), if_neg (by omega), if_neg (by omega), if_neg (by omega), if_neg n6]
      rw [K]
      clear K
      have e1 : (c == 94) = false := by simp; omega
      have e2 : (c == 126) = false := by simp; omega
      have e3 : (c == 37) = false := by simp; omega
      have e4 : (c == 39) = false := by simp; omega
      have e5 : (c == 32) = false := by simp; omega
      simp only [punctL, List.mem_cons, List.not_mem_nil, or_false, not_or] at n6
      obtain ⟨m1, m2, m3, m4, m5, m6, m7, m8, m9⟩ := n6
      have p0 : (c == 46) = false := by simp; omega
      have p1 : (c == 44) = false := by simp; omega
      have p2 : (c == 59) = false := by simp; omega
      have p3 : (c == 58) = false := by simp; omega
      have p4 : (c == 33) = false := by simp; omega
      have p5 : (c == 63) = false := by simp; omega
      have p6 : (c == 40) = false := by simp; omega
      have p7 : (c == 41) = false := by simp; omega
      have p8 : (c == 45) = false := by simp; omega
      have d1 : decide (97 ≤ c) = true := by simp; omega
      have d2 : decide (c ≤ 122) = false := by simp; omega
      have d3 : decide (65 ≤ c) = true := by simp; omega
      have d4 : decide (c ≤ 90) = false := by simp; omega
      have d5 : decide (48 ≤ c) = true := by simp; omega
      have d6 : decide (c ≤ 57) = false := by simp; omega
      go_enter Tryz.func136, Tryz.ntmps136
      go_wp2_with (fail)
      go_ret
      exact ⟨rfl, rfl⟩
    · have K : kindOf c = 0 := by
        unfold kindOf
        rw [if_neg (by omega), if_neg (by omega), if_neg (by omega), if_neg (by omega), if_neg (by omega), if_neg n6]
      rw [K]
      clear K
      have e1 : (c == 94) = false := by simp; omega
      have e2 : (c == 126) = false := by simp; omega
      have e3 : (c == 37) = false := by simp; omega
      have e4 : (c == 39) = false := by simp; omega
      have e5 : (c == 32) = false := by simp; omega
      simp only [punctL, List.mem_cons, List.not_mem_nil, or_false, not_or] at n6
      obtain ⟨m1, m2, m3, m4, m5, m6, m7, m8, m9⟩ := n6
      have p0 : (c == 46) = false := by simp; omega
      have p1 : (c == 44) = false := by simp; omega
      have p2 : (c == 59) = false := by simp; omega
      have p3 : (c == 58) = false := by simp; omega
      have p4 : (c == 33) = false := by simp; omega
      have p5 : (c == 63) = false := by simp; omega
      have p6 : (c == 40) = false := by simp; omega
      have p7 : (c == 41) = false := by simp; omega
      have p8 : (c == 45) = false := by simp; omega
      have d1 : decide (97 ≤ c) = false := by simp; omega
      have d3 : decide (65 ≤ c) = true := by simp; omega
      have d4 : decide (c ≤ 90) = false := by simp; omega
      have d5 : decide (48 ≤ c) = true := by simp; omega
      have d6 : decide (c ≤ 57) = false := by simp; omega
      go_enter Tryz.func136, Tryz.ntmps136
      go_wp2_with (fail)
      go_ret
      exact ⟨rfl, rfl⟩
    · have K : kindOf c = 0 := by
        unfold kindOf
        rw [if_neg (by omega), if_neg (by omega), if_neg (by omega), if_neg (by omega), if_neg (by omega), if_neg n6]
      rw [K]
      clear K
      have e1 : (c == 94) = false := by simp; omega
      have e2 : (c == 126) = false := by simp; omega
      have e3 : (c == 37) = false := by simp; omega
      have e4 : (c == 39) = false := by simp; omega
      have e5 : (c == 32) = false := by simp; omega
      simp only [punctL, List.mem_cons, List.not_mem_nil, or_false, not_or] at n6
      obtain ⟨m1, m2, m3, m4, m5, m6, m7, m8, m9⟩ := n6
      have p0 : (c == 46) = false := by simp; omega
      have p1 : (c == 44) = false := by simp; omega
      have p2 : (c == 59) = false := by simp; omega
      have p3 : (c == 58) = false := by simp; omega
      have p4 : (c == 33) = false := by simp; omega
      have p5 : (c == 63) = false := by simp; omega
      have p6 : (c == 40) = false := by simp; omega
      have p7 : (c == 41) = false := by simp; omega
      have p8 : (c == 45) = false := by simp; omega
      have d1 : decide (97 ≤ c) = false := by simp; omega
      have d3 : decide (65 ≤ c) = false := by simp; omega
      have d5 : decide (48 ≤ c) = true := by simp; omega
      have d6 : decide (c ≤ 57) = false := by simp; omega
      go_enter Tryz.func136, Tryz.ntmps136
      go_wp2_with (fail)
      go_ret
      exact ⟨rfl, rfl⟩
    · have K : kindOf c = 0 := by
        unfold kindOf
        rw [if_neg (by omega), if_neg (by omega), if_neg (by omega), if_neg (by omega), if_neg (by omega), if_neg n6]
      rw [K]
      clear K
      have e1 : (c == 94) = false := by simp; omega
      have e2 : (c == 126) = false := by simp; omega
      have e3 : (c == 37) = false := by simp; omega
      have e4 : (c == 39) = false := by simp; omega
      have e5 : (c == 32) = false := by simp; omega
      simp only [punctL, List.mem_cons, List.not_mem_nil, or_false, not_or] at n6
      obtain ⟨m1, m2, m3, m4, m5, m6, m7, m8, m9⟩ := n6
      have p0 : (c == 46) = false := by simp; omega
      have p1 : (c == 44) = false := by simp; omega
      have p2 : (c == 59) = false := by simp; omega
      have p3 : (c == 58) = false := by simp; omega
      have p4 : (c == 33) = false := by simp; omega
      have p5 : (c == 63) = false := by simp; omega
      have p6 : (c == 40) = false := by simp; omega
      have p7 : (c == 41) = false := by simp; omega
      have p8 : (c == 45) = false := by simp; omega
      have d1 : decide (97 ≤ c) = false := by simp; omega
      have d3 : decide (65 ≤ c) = false := by simp; omega
      have d5 : decide (48 ≤ c) = false := by simp; omega
      go_enter Tryz.func136, Tryz.ntmps136
      go_wp2_with (fail)
      go_ret
      exact ⟨rfl, rfl⟩
end Go.Proofs.YtjmebijckcimoaaGreatDoor
