/-
  The size that the laws ask of a row of postings.
-/
import Derived.Test.YtngdmpkoedpgdaaGreatDoorQ4
import Derived.Test.YtngdmpkoedpgdaaGreatDoorIp
namespace Go.Proofs.YtngdmpkoedpgdaaGreatDoor
open Go.RowKit Go.Ap Go.Shelf Go.Proofs

attribute [local go_sem] Oper.semAt_some bs_toList empty_toList bs_size bs_extract
set_option maxRecDepth 100000 in
set_option maxHeartbeats 4000000 in
theorem great21 (l : List Post) (a : Option Addr) (n c : Nat) (w : World) (h : Posts w a n l) :
    Calls Tryz.prog 21 #[.slice a n c] w fun e w' => (∃ b, e = .returned (.bool b) ∧ (b = false → n ≤ 12 ∧ ∀ p ∈ l, p.1.1.length ≤ 70 ∧ p.1.2.length ≤ 30 ∧ p.2.length ≤ 12)) ∧ w = w' := by
  have HX := Lib.hid h
  have HLN := Lib.hid h.len
  have hsm := h.small
  clear h
  by_cases h12 : n ≤ 12
  · have d1 : decide ((n : Int) ≤ 12) = true := decide_eq_true (by omega)
    have d1' : decide (n ≤ 12) = true := decide_eq_true h12
    have d2 : decide ((12 : Int) < (n : Int)) = false := decide_eq_false (by omega)
    have H12 := Lib.hid h12
    go_enter Tryz.func21, Tryz.ntmps21
    go_wp2_with (fail)
    go_loopw [3] (fun iv wr => ∃ i : Nat, i ≤ n ∧ iv = .int .i64 i ∧ wr = w ∧ ∀ j p, j < i → l[j]? = some p → p.1.1.length ≤ 70 ∧ p.1.2.length ≤ 30 ∧ p.2.length ≤ 12) (fun iv _ => n - (intOf iv).toNat)
    case atStart => exact ⟨0, Nat.zero_le _, rfl, rfl, fun j p hj => by omega⟩
    case round =>
      obtain ⟨i, hile, rfl, rfl, hok⟩ := hrel
      have HOK := Lib.hid hok
      clear hok
      by_cases hin : i < n
      · obtain ⟨p, b, off, hp, rfl, a3, k3, c0, c1, c2, hps⟩ := HX.out.at hin
        have hq0 := hps.word
        have hq1 := hps.sec
        have hq2 := hps.lines.small
        obtain ⟨⟨wd, sc⟩, ls⟩ := p
        simp only at c0 c1 c2 hq0 hq1 hq2
        have HP := Lib.hid hp
        obtain ⟨k, hk⟩ : ∃ k, ls.length = k := ⟨_, rfl⟩
        rw [hk] at c2 hq2
        have HK := Lib.hid hk
        have i1 : (i : Int) < (n : Int) := by omega
        have i0' : (0 : Int) ≤ (i : Int) := by omega
        clear hp hps hk
        by_cases g0 : 70 < wd.length
        · have e0 : decide ((70 : Int) < (wd.length : Int)) = true := decide_eq_true (by omega)
          clear g0
          go_wp2_with (fail)
          go_ret
          exact ⟨⟨true, rfl, fun h => by cases h⟩, rfl⟩
        · have e0 : decide ((70 : Int) < (wd.length : Int)) = false := decide_eq_false (by omega)
          by_cases g1 : 30 < sc.length
          · have e1 : decide ((30 : Int) < (sc.length : Int)) = true := decide_eq_true (by omega)
            clear g0 g1
            go_wp2_with (fail)
            go_ret
            exact ⟨⟨true, rfl, fun h => by cases h⟩, rfl⟩
          · have e1 : decide ((30 : Int) < (sc.length : Int)) = false := decide_eq_false (by omega)
            by_cases g2 : 12 < k
            · have e2 : decide ((12 : Int) < (k : Int)) = true := decide_eq_true (by omega)
              clear g0 g1 g2
              go_wp2_with (fail)
              go_ret
              exact ⟨⟨true, rfl, fun h => by cases h⟩, rfl⟩
            · have e2 : decide ((12 : Int) < (k : Int)) = false := decide_eq_false (by omega)
              have HG := Lib.hid (show wd.length ≤ 70 ∧ sc.length ≤ 30 ∧ k ≤ 12 by omega)
              clear g0 g1 g2
              go_wp2_with (fail)
              exact ⟨⟨i + 1, by omega, by simp, by first | rfl | trivial, fun j p hj hp => by
                by_cases hji : j = i
                · subst hji
                  rw [HP.out] at hp
                  cases hp
                  have := HG.out
                  have := HK.out
                  simp only
                  omega
                · exact HOK.out j p (by omega) hp⟩, by simp [intOf]; omega⟩
      · obtain rfl : n = i := by omega
        go_wp2_with (fail)
        go_ret
        refine ⟨⟨false, rfl, fun _ => ⟨H12.out, fun p hp => ?_⟩⟩, rfl⟩
        obtain ⟨j, hj⟩ := List.getElem?_of_mem hp
        exact HOK.out j p (by have := (List.getElem?_eq_some_iff.1 hj).1; have := HLN.out; omega) hj
  · have d1 : decide ((n : Int) ≤ 12) = false := decide_eq_false (by omega)
    have d1' : decide (n ≤ 12) = false := decide_eq_false h12
    have d2 : decide ((12 : Int) < (n : Int)) = true := decide_eq_true (by omega)
    have d3 : decide ((0 : Int) < (n : Int)) = true := decide_eq_true (by omega)
    have d3' : decide (0 < n) = true := decide_eq_true (by omega)
    go_enter Tryz.func21, Tryz.ntmps21
    go_wp2_with (fail)
    go_loopw [3] (fun iv wr => iv = .int .i64 0 ∧ wr = w) (fun iv _ => n - (intOf iv).toNat)
    case atStart => exact ⟨rfl, rfl⟩
    case round =>
      obtain ⟨rfl, rfl⟩ := hrel
      go_wp2_with (fail)
      go_ret
      exact ⟨⟨true, rfl, fun h => by cases h⟩, rfl⟩
end Go.Proofs.YtngdmpkoedpgdaaGreatDoor
