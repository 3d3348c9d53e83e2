/-
  Postings: how they lie; which are valid (program).
-/
import Derived.Test.YtngdmpkoedpgdaaGreatDoorOr
namespace Go.Ap
open Go Go.RowKit
/-- what a posting's lines and strings are in a world -/
structure PostS (w : World) (a : Option Addr) (p : Post) : Prop where
  word : p.1.1.length ≤ 4611686018427387903
  sec : p.1.2.length ≤ 4611686018427387903
  lines : Ints w a p.2.length p.2
/-- three cells that read as a posting -/
def PostM (w : World) (b o : Nat) (p : Post) : Prop := ∃ a k, w.cell? ⟨b, o, none⟩ = some (.string (bs p.1.1)) ∧ w.cell? ⟨b, o + 1, none⟩ = some (.string (bs p.1.2)) ∧ w.cell? ⟨b, o + 2, none⟩ = some (.slice a p.2.length k) ∧ PostS w a p
abbrev Posts := SlM 3 PostM
section
variable {w w' : World} {B : Nat} {a : Option Addr} {n : Nat}
theorem PostS.mono {p : Post} (h : PostS w a p) (hB : w.heap.size ≤ B) (hb : Below B w w') : PostS w' a p := ⟨h.word, h.sec, h.lines.mono hB hb⟩
theorem PostM.mono {b o : Nat} {p : Post} (h : PostM w b o p) (hB : w.heap.size ≤ B) (hb : Below B w w') : PostM w' b o p := by
  obtain ⟨a, k, h1, h2, h3, h4⟩ := h
  exact ⟨a, k, cell_kept hB hb h1, cell_kept hB hb h2, cell_kept hB hb h3, h4.mono hB hb⟩
theorem Posts.mono {l : List Post} (h : Posts w a n l) (hB : w.heap.size ≤ B) (hb : Below B w w') : Posts w' a n l := SlM.mono h fun _ _ _ hr => hr.mono hB hb
end
/-- line i of a posting -/
def lineB (l : List Int) (i : Nat) : Bool := decide (1 ≤ nth l i) && decide (nth l i ≤ 4096) && (decide (i = 0) || decide (nth l (i - 1) < nth l i))
def linesB (l : List Int) : Bool := (List.range l.length).all (lineB l)
def validB (p : Post) : Bool := isWordB p.1.1 && nameB p.1.2 && decide (1 ≤ p.2.length) && decide (p.2.length ≤ 4096) && linesB p.2
theorem linesB_of {l : List Int} (h : ∀ j, j < l.length → lineB l j = true) : linesB l = true := List.all_eq_true.2 fun j hj => h j (List.mem_range.1 hj)
theorem linesB_no {l : List Int} (j : Nat) (hj : j < l.length) (h : lineB l j = false) : linesB l = false := by
  rw [Bool.eq_false_iff]
  intro hc
  have := List.all_eq_true.1 hc j (List.mem_range.2 hj)
  rw [h] at this
  cases this
theorem validB_w {p : Post} (h : isWordB p.1.1 = false) : validB p = false := by simp [validB, h]
theorem validB_n {p : Post} (h : nameB p.1.2 = false) : validB p = false := by simp [validB, h]
theorem validB_0 {p : Post} (h : p.2.length = 0) : validB p = false := by simp [validB, h]
theorem validB_g {p : Post} (h : ¬p.2.length ≤ 4096) : validB p = false := by simp [validB, h]
theorem validB_l {p : Post} (h1 : isWordB p.1.1 = true) (h2 : nameB p.1.2 = true) (h3 : 1 ≤ p.2.length) (h4 : p.2.length ≤ 4096) : validB p = linesB p.2 := by simp [validB, h1, h2, h3, h4]
end Go.Ap
namespace Go.Proofs.YtngdmpkoedpgdaaGreatDoor
open Go.RowKit Go.Ap Go.Shelf Go.Proofs

attribute [local go_sem] Oper.semAt_some bs_toList empty_toList bs_size bs_extract bl_eq

set_option maxRecDepth 100000 in
set_option maxHeartbeats 8000000 in
theorem validP (p : Post) (a : Option Addr) (k : Nat) (w : World) (hp : PostS w a p) :
    Calls Tryz.prog 133 #[.agg (postV p.1 (.slice a p.2.length k))] w fun e w' => e = .returned (.bool (validB p)) ∧ Below w.heap.size w w' := by
  obtain ⟨⟨wd, sc⟩, l⟩ := p
  obtain ⟨s1, s2, hl⟩ := hp
  simp only at s1 s2 hl ⊢
  have HW := Lib.hid (fun W => isWordP wd W s1)
  have HN := Lib.hid (fun W => nameP sc W s2)
  have HL := Lib.hid hl
  obtain ⟨n, hn⟩ : ∃ n, l.length = n := ⟨_, rfl⟩
  rw [hn] at HL ⊢
  have hsm := HL.out.small
  have V1 := Lib.hid (@validB_w ((wd, sc), l))
  have V2 := Lib.hid (@validB_n ((wd, sc), l))
  have V3 := Lib.hid (@validB_0 ((wd, sc), l))
  have V4 := Lib.hid (@validB_g ((wd, sc), l))
  have V5 := Lib.hid (@validB_l ((wd, sc), l))
  have V6 := Lib.hid (@linesB_no l)
  have V7 := Lib.hid (@linesB_of l)
  simp only [hn] at V3 V4 V5 V6 V7
  obtain ⟨R, hR⟩ : ∃ R, validB ((wd, sc), l) = R := ⟨_, rfl⟩
  simp only [hR] at V1 V2 V3 V4 V5 ⊢
  clear hl s1 s2 hn hR
  obtain ⟨X, hX⟩ : ∃ X, w.heap.size = X := ⟨_, rfl⟩
  have K1 := Lib.hid (show BlkK (w.alloc (.cells #[.string (bs wd), .string (bs sc), .slice a n k] 37)) X #[.string (bs wd), .string (bs sc), .slice a n k] 37 by rw [← hX]; exact BlkK.new w _ _)
  have HB0 := Lib.hid (balloc w (.cells #[.string (bs wd), .string (bs sc), .slice a n k] 37))
  obtain ⟨W0, hW0⟩ : ∃ W, w.alloc (.cells #[.string (bs wd), .string (bs sc), .slice a n k] 37) = W := ⟨_, rfl⟩
  rw [hW0] at K1 HB0
  have ca := K1.out.cell (i := 0) (u := .string (bs wd)) rfl
  unfold postV
  cases hw : isWordB wd
  · rw [hw] at HW
    have HE := Lib.hid (V1.out hw)
    clear hw
    go_enter Tryz.func133, Tryz.ntmps133
    go_wp2_with (fail)
    refine (HW.out _).mono ?_
    rintro e W1 ⟨rfl, hb⟩
    have HB1 := Lib.hid (bstep HB0.out hb)
    clear hb
    go_wp2_with (fail)
    go_ret
    exact ⟨ret_b HE.out.symm, HB1.out⟩
  · rw [hw] at HW
    cases hnm : nameB sc
    · rw [hnm] at HN
      have HE := Lib.hid (V2.out hnm)
      clear hw hnm
      go_enter Tryz.func133, Tryz.ntmps133
      go_wp2_with (fail)
      refine (HW.out _).mono ?_
      rintro e W1 ⟨rfl, hb⟩
      have HB1 := Lib.hid (bstep HB0.out hb)
      have cb := (K1.out.below hb).cell (i := 1) (u := .string (bs sc)) rfl
      clear hb
      go_wp2_with (fail)
      refine (HN.out _).mono ?_
      rintro e W2 ⟨rfl, rfl⟩
      go_wp2_with (fail)
      go_ret
      exact ⟨ret_b HE.out.symm, HB1.out⟩
    · rw [hnm] at HN
      by_cases h0 : n = 0
      · have HE := Lib.hid (V3.out h0)
        have d0 : ((n : Int) == 0) = true := by rw [h0]; rfl
        clear hw hnm h0
        go_enter Tryz.func133, Tryz.ntmps133
        go_wp2_with (fail)
        refine (HW.out _).mono ?_
        rintro e W1 ⟨rfl, hb⟩
        have HB1 := Lib.hid (bstep HB0.out hb)
        have K2 := Lib.hid (K1.out.below hb)
        have cb := K2.out.cell (i := 1) (u := .string (bs sc)) rfl
        have cc := K2.out.cell (i := 2) (u := .slice a n k) rfl
        clear hb
        go_wp2_with (fail)
        refine (HN.out _).mono ?_
        rintro e W2 ⟨rfl, rfl⟩
        go_wp2_with (fail)
        go_ret
        exact ⟨ret_b HE.out.symm, HB1.out⟩
      · have d0 : ((n : Int) == 0) = false := by rw [beq_eq_false_iff_ne]; omega
        by_cases h4 : n ≤ 4096
        · have d1 : decide ((4096 : Int) < (n : Int)) = false := by rw [decide_eq_false_iff_not]; omega
          have HE := Lib.hid (V5.out hw hnm (by omega) h4)
          obtain ⟨b, off, rfl, hcs⟩ := HL.out.at (by omega)
          have HCS := Lib.hid hcs
          have HI := Lib.hid (HL.out.i64)
          clear hw hnm h0 hcs
          go_enter Tryz.func133, Tryz.ntmps133
          go_wp2_with (fail)
          refine (HW.out _).mono ?_
          rintro e W1 ⟨rfl, hb⟩
          have HB1 := Lib.hid (bstep HB0.out hb)
          have K2 := Lib.hid (K1.out.below hb)
          have cb := K2.out.cell (i := 1) (u := .string (bs sc)) rfl
          have cc := K2.out.cell (i := 2) (u := .slice (some ⟨b, off, none⟩) n k) rfl
          clear hb
          go_wp2_with (fail)
          refine (HN.out _).mono ?_
          rintro e W2 ⟨rfl, rfl⟩
          go_wp2_with (fail)
          go_loopw [30] (fun kv wr => ∃ i : Nat, i ≤ n ∧ kv = .int .i64 i ∧ W1 = wr ∧ ∀ j, j < i → lineB l j = true) (fun kv _ => n - (intOf kv).toNat)
          case atStart => exact ⟨0, Nat.zero_le _, rfl, rfl, fun j hj => absurd hj (Nat.not_lt_zero _)⟩
          case round =>
            obtain ⟨i, hi, rfl, rfl, hall⟩ := hrel
            have HA := Lib.hid hall
            by_cases hlt : i < n
            · have i1 : (i : Int) < (n : Int) := by omega
              have cx := cell_keep HB1.out (HCS.out i hlt)
              have hix := HI.out i
              have HNO := Lib.hid (V6.out i hlt)
              have HLB := Lib.hid (show lineB l i = (decide (1 ≤ nth l i) && decide (nth l i ≤ 4096) && (decide (i = 0) || decide (nth l (i - 1) < nth l i))) from rfl)
              have HPV := Lib.hid (fun (h : 0 < i) => cell_keep HB1.out (HCS.out (i - 1) (by omega)))
              obtain ⟨x, hx⟩ : ∃ x, nth l i = x := ⟨_, rfl⟩
              rw [hx] at cx hix HLB
              obtain ⟨y, hy⟩ : ∃ y, nth l (i - 1) = y := ⟨_, rfl⟩
              rw [hy] at HPV HLB
              clear hx hy hall hlt
              by_cases g1 : 1 ≤ x
              · by_cases g2 : x ≤ 4096
                · have e1 : decide (x < 1) = false := by rw [decide_eq_false_iff_not]; omega
                  have e2 : decide (4096 < x) = false := by rw [decide_eq_false_iff_not]; omega
                  obtain rfl | ⟨j, rfl⟩ : i = 0 ∨ ∃ j, i = j + 1 := by cases i with | zero => exact .inl rfl | succ j => exact .inr ⟨j, rfl⟩
                  · have HX := Lib.hid (show lineB l 0 = true by rw [HLB.out]; simp [g1, g2])
                    rw [Nat.add_zero] at cx
                    clear g1 g2
                    go_wp2_with (fail)
                    exact ⟨⟨0 + 1, by omega, by simp, trivial, fun q hq => (by
                      by_cases hqi : q = 0
                      · subst hqi; exact HX.out
                      · exact HA.out q (by omega))⟩, by simp [intOf]; try omega⟩
                  · have cy : W1.cell? ⟨b, off + j, none⟩ = some (.int .i64 y) := HPV.out (by omega)
                    by_cases g3 : y < x
                    · have HX := Lib.hid (show lineB l (j + 1) = true by rw [HLB.out]; simp [g1, g2, g3])
                      have e3 : decide (x ≤ y) = false := by rw [decide_eq_false_iff_not]; omega
                      clear g1 g2 g3
                      go_wp2_with (fail)
                      exact ⟨⟨j + 1 + 1, by omega, by simp, trivial, fun q hq => (by
                        by_cases hqi : q = j + 1
                        · subst hqi; exact HX.out
                        · exact HA.out q (by omega))⟩, by simp [intOf]; omega⟩
                    · have HX := Lib.hid (HE.out.trans (HNO.out (by rw [HLB.out]; simp [g3])))
                      have e3 : decide (x ≤ y) = true := by rw [decide_eq_true_eq]; omega
                      clear g1 g2 g3
                      go_wp2_with (fail)
                      go_ret
                      exact ⟨ret_b HX.out.symm, HB1.out⟩
                · have HX := Lib.hid (HE.out.trans (HNO.out (by rw [HLB.out]; simp [g2])))
                  have e1 : decide (x < 1) = false := by rw [decide_eq_false_iff_not]; omega
                  have e2 : decide (4096 < x) = true := by rw [decide_eq_true_eq]; omega
                  clear g1 g2
                  go_wp2_with (fail)
                  go_ret
                  exact ⟨ret_b HX.out.symm, HB1.out⟩
              · have HX := Lib.hid (HE.out.trans (HNO.out (by rw [HLB.out]; simp [g1])))
                have e1 : decide (x < 1) = true := by rw [decide_eq_true_eq]; omega
                clear g1
                go_wp2_with (fail)
                go_ret
                exact ⟨ret_b HX.out.symm, HB1.out⟩
            · obtain rfl : n = i := by omega
              have HX := Lib.hid (HE.out.trans (V7.out hall))
              clear hall
              go_wp2_with (fail)
              go_ret
              exact ⟨ret_b HX.out.symm, HB1.out⟩
        · have d1 : decide ((4096 : Int) < (n : Int)) = true := by rw [decide_eq_true_eq]; omega
          have HE := Lib.hid (V4.out h4)
          clear hw hnm h0 h4
          go_enter Tryz.func133, Tryz.ntmps133
          go_wp2_with (fail)
          refine (HW.out _).mono ?_
          rintro e W1 ⟨rfl, hb⟩
          have HB1 := Lib.hid (bstep HB0.out hb)
          have K2 := Lib.hid (K1.out.below hb)
          have cb := K2.out.cell (i := 1) (u := .string (bs sc)) rfl
          have cc := K2.out.cell (i := 2) (u := .slice a n k) rfl
          clear hb
          go_wp2_with (fail)
          refine (HN.out _).mono ?_
          rintro e W2 ⟨rfl, rfl⟩
          go_wp2_with (fail)
          go_ret
          exact ⟨ret_b HE.out.symm, HB1.out⟩
end Go.Proofs.YtngdmpkoedpgdaaGreatDoor
