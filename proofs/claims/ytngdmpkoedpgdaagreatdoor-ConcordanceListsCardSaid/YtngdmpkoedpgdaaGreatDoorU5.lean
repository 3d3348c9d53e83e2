import Derived.Test.YtngdmpkoedpgdaaGreatDoorU9
import Derived.Test.YtngdmpkoedpgdaaGreatDoorIs
import Derived.Test.YtngdmpkoedpgdaaGreatDoorU4
import Derived.Test.YtngdmpkoedpgdaaGreatDoorU1

/-
  Print (reference).
-/


namespace Go.Proofs.YtngdmpkoedpgdaaGreatDoor
open Go.RowKit Go.Ap Go.Shelf Go.Proofs

attribute [local go_sem] Oper.semAt_some bs_toList empty_toList bs_size bs_extract
theorem decD_small {n : Nat} (h : n < 10) : Lib.decDigits n = [UInt8.ofNat (48 + n)] := by
  rw [Lib.decDigits, dif_pos h]
theorem decD_big {n : Nat} (h : ¬n < 10) : Lib.decDigits n = Lib.decDigits (n / 10) ++ Lib.decDigits (n % 10) := by
  rw [decD_small (Nat.mod_lt n (by decide)), Lib.decDigits, dif_neg h]
theorem dec_small (n : Nat) (h : n < 10) (w : World) :
    Calls Tryz.prog 116 #[.int .i64 (n : Int)] w fun e w' => e = .returned (.string (bs (Lib.decDigits n))) ∧ w = w' := by
  rw [decD_small h]
  have h10 : n = 0 ∨ n = 1 ∨ n = 2 ∨ n = 3 ∨ n = 4 ∨ n = 5 ∨ n = 6 ∨ n = 7 ∨ n = 8 ∨ n = 9 := by omega
  clear h
  rcases h10 with rfl | rfl | rfl | rfl | rfl | rfl | rfl | rfl | rfl | rfl
  all_goals
    go_enter Tryz.func116, Tryz.ntmps116
    go_wp2_with (fail)
    go_ret
    exact ⟨rfl, rfl⟩
set_option maxRecDepth 100000 in
set_option maxHeartbeats 1000000 in
theorem dec116 : ∀ (N n : Nat), n ≤ N → n ≤ 100000 → ∀ w : World, Calls Tryz.prog 116 #[.int .i64 (n : Int)] w fun e w' => e = .returned (.string (bs (Lib.decDigits n))) ∧ w = w' := by
  intro N
  induction N with
  | zero => exact fun n hn _ w => dec_small n (by omega) w
  | succ N ih =>
    intro n hn hb w
    by_cases h : n < 10
    · exact dec_small n h w
    · rw [decD_big h]
      have H1 := Lib.hid (fun w => ih (n / 10) (by omega) (by omega) w)
      have H2 := Lib.hid (fun w => dec_small (n % 10) (by omega) w)
      have r1 : Int.tdiv (n : Int) 10 = ((n / 10 : Nat) : Int) := (Int.ofNat_tdiv n 10).symm
      have r2 : Int.tmod (n : Int) 10 = ((n % 10 : Nat) : Int) := (Int.ofNat_tmod n 10).symm
      have d1 : decide ((n : Int) < 10) = false := decide_eq_false (by omega)
      obtain ⟨q, hq⟩ : ∃ q, n / 10 = q := ⟨_, rfl⟩
      obtain ⟨r, hr⟩ : ∃ r, n % 10 = r := ⟨_, rfl⟩
      rw [hq] at H1 r1
      rw [hr] at H2 r2
      rw [hq, hr]
      have HL := Lib.hid (show (Lib.decDigits q).length ≤ 100 ∧ (Lib.decDigits r).length ≤ 100 from by
        have a := Lib.itoa_length_le (q : Int) (by omega) (by omega)
        have b := Lib.itoa_length_le (r : Int) (by omega) (by omega)
        rw [Lib.itoa_nonneg] at a b
        omega)
      have l1 := HL.out.1
      have l2 := HL.out.2
      have hrb : r < 10 := by omega
      have hqb : q ≤ 100000 := by omega
      generalize Lib.decDigits q = x at *
      generalize Lib.decDigits r = y at *
      clear ih hn h hq hr
      go_enter Tryz.func116, Tryz.ntmps116
      go_wp2_with (fail)
      refine (H1.out _).mono ?_
      rintro e w1 ⟨rfl, rfl⟩
      go_wp2_with (fail)
      refine (H2.out _).mono ?_
      rintro e w1 ⟨rfl, rfl⟩
      go_wp2_with (fail)
      go_ret
      exact ⟨rfl, rfl⟩
end Go.Proofs.YtngdmpkoedpgdaaGreatDoor

/-
  The number of a string (reference).
-/


namespace Go.Ap
open Go Go.RowKit
def numV (l : Str) : Nat := l.foldl (fun n c => n * 10 + (c.toNat - 48)) 0
def numI (s : Str) : Int := match numR s with | some n => n | none => -1
theorem numV_snoc (l : Str) (c : UInt8) : numV (l ++ [c]) = numV l * 10 + (c.toNat - 48) := by
  unfold numV
  rw [List.foldl_append]
  rfl
def digB (c : UInt8) : Bool := decide (48 ≤ c.toNat) && decide (c.toNat ≤ 57)
theorem numI_bad {s : Str} {i : Nat} {c : UInt8} (h : s[i]? = some c) (h5 : i < 5) (hc : digB c = false) : numI s = -1 := by
  unfold numI numR
  rw [if_neg]
  intro ha
  have hm : c ∈ s.take 5 := by
    refine List.mem_of_getElem? (i := i) ?_
    rw [List.getElem?_take_of_lt h5]
    exact h
  have := List.all_eq_true.1 ha c hm
  unfold digB at hc
  rw [hc] at this
  cases this
theorem numI_cases (s : Str) : (∃ n : Nat, numR s = some (n : Int) ∧ numI s = n) ∨ (numR s = none ∧ numI s = -1) := by
  cases h : numR s with
  | none => exact .inr ⟨rfl, by unfold numI; rw [h]⟩
  | some n =>
    obtain ⟨h1, _⟩ := numR_some h
    obtain ⟨m, rfl⟩ := Int.eq_ofNat_of_zero_le h1
    exact .inl ⟨m, rfl, by unfold numI; rw [h]⟩
end Go.Ap
namespace Go.Proofs.YtngdmpkoedpgdaaGreatDoor
open Go.RowKit Go.Ap Go.Shelf Go.Proofs

attribute [local go_sem] Oper.semAt_some bs_toList empty_toList bs_size bs_extract
set_option maxRecDepth 100000 in
set_option maxHeartbeats 4000000 in
theorem number117 (s : Str) (w : World) (hs : s.length ≤ 65536) :
    Calls Tryz.prog 117 #[.string (bs s)] w fun e w' => e = .returned (.int .i64 (numI s)) ∧ w = w' := by
  obtain ⟨NI, hNI⟩ : ∃ x, numI s = x := ⟨_, rfl⟩
  have HNI := Lib.hid hNI
  rw [hNI]
  clear hNI
  go_enter Tryz.func117, Tryz.ntmps117
  go_wp2_with (fail)
  go_loopw [3, 4] (fun nv iv wr => ∃ i : Nat, i ≤ s.length ∧ i ≤ 5 ∧ iv = .int .i64 i ∧ nv = .int .i64 (numV (s.take i) : Nat) ∧ numV (s.take i) < 10 ^ i ∧ (s.take i).all digB = true ∧ w = wr) (fun _ iv _ => s.length - (intOf iv).toNat)
  case atStart => exact ⟨0, Nat.zero_le _, by omega, rfl, rfl, by simp [numV], rfl, rfl⟩
  case round =>
    obtain ⟨i, hi0, hi5, rfl, rfl, hlt, hal, hw⟩ := hrel
    have HAL := Lib.hid hal
    have HWR := Lib.hid hw
    have HLT := Lib.hid hlt
    replace hlt : numV (s.take i) < 100000 := by
      have := Nat.pow_le_pow_right (n := 10) (by decide) hi5
      omega
    clear hal hw
    by_cases h5 : i < 5
    · have p5 : decide ((i : Int) < 5) = true := decide_eq_true (by omega)
      by_cases hl : i < s.length
      · have hix : (bs s)[i]'(by rw [bs_size]; exact hl) = s[i] := bs_get (by rw [bs_size]; exact hl)
        have hc? : s[i]? = some s[i] := List.getElem?_eq_getElem hl
        obtain ⟨c, hc⟩ : ∃ c, s[i] = c := ⟨_, rfl⟩
        rw [hc] at hix hc?
        have i1 : (i : Int) < (s.length : Int) := by omega
        have hcl := c.toNat_lt
        have HBD := Lib.hid (fun h => numI_bad hc? h5 (c := c) h)
        by_cases h1 : 48 ≤ c.toNat
        · by_cases h2 : c.toNat ≤ 57
          · have d1 : decide ((c.toNat : Int) < 48) = false := decide_eq_false (by omega)
            have d2 : decide ((57 : Int) < (c.toNat : Int)) = false := decide_eq_false (by omega)
            have HTK := Lib.hid (show s.take (i + 1) = s.take i ++ [c] by rw [List.take_add_one, hc?]; rfl)
            have HNS := Lib.hid (show numV (s.take (i + 1)) = numV (s.take i) * 10 + (c.toNat - 48) by rw [HTK.out, numV_snoc])
            have HPW := Lib.hid (show 10 ^ (i + 1) = 10 ^ i * 10 from Nat.pow_succ ..)
            have HDG := Lib.hid (show (s.take (i + 1)).all digB = true by
              rw [HTK.out, List.all_append, HAL.out]
              simp [digB, h1, h2])
            have HQ := Lib.hid (show numV (s.take i) < 10000 by
              have := Nat.pow_le_pow_right (n := 10) (by decide) (show i ≤ 4 by omega)
              have := HLT.out
              omega)
            obtain ⟨q, hq⟩ : ∃ q, numV (s.take i) = q := ⟨_, rfl⟩
            rw [hq] at HNS HLT HQ hlt ⊢
            have hq4 := HQ.out
            clear hc hc? hq
            go_wp2_with (fail)
            exact ⟨⟨i + 1, by omega, by omega, by simp, by rw [HNS.out]; congr 1; push_cast; omega, by rw [HNS.out, HPW.out]; have := HLT.out; omega, HDG.out, HWR.out⟩, by simp [intOf]; omega⟩
          · have d1 : decide ((c.toNat : Int) < 48) = false := decide_eq_false (by omega)
            have d2 : decide ((57 : Int) < (c.toNat : Int)) = true := decide_eq_true (by omega)
            obtain rfl : NI = -1 := by rw [← HNI.out, HBD.out (by simp [digB, h2])]
            clear hc hc?
            go_wp2_with (fail)
            go_ret
            exact ⟨rfl, HWR.out⟩
        · have d1 : decide ((c.toNat : Int) < 48) = true := decide_eq_true (by omega)
          obtain rfl : NI = -1 := by rw [← HNI.out, HBD.out (by simp [digB, h1])]
          clear hc hc?
          go_wp2_with (fail)
          go_ret
          exact ⟨rfl, HWR.out⟩
      · have p1 : decide ((i : Int) < (s.length : Int)) = false := decide_eq_false (by omega)
        have HTK := Lib.hid (show s.take i = s.take 5 by rw [List.take_of_length_le (by omega), List.take_of_length_le (by omega)])
        have HNV := Lib.hid (show NI = if s = [] ∨ Lib.decDigits (numV (s.take i)) ≠ s then -1 else (numV (s.take i) : Int) by
          rw [← HNI.out, HTK.out]
          unfold numI numR
          rw [if_pos (show ((s.take 5).all fun c => decide (48 ≤ c.toNat) && decide (c.toNat ≤ 57)) = true by rw [← HTK.out]; exact HAL.out)]
          by_cases hh : s = [] ∨ Lib.decDigits (numV (s.take 5)) ≠ s
          · rw [if_pos hh]
            simp only [numV] at hh
            simp only [if_pos hh]
          · rw [if_neg hh]
            simp only [numV] at hh
            simp only [if_neg hh, numV])
        obtain ⟨q, hq⟩ : ∃ q, numV (s.take i) = q := ⟨_, rfl⟩
        rw [hq] at HNV hlt ⊢
        have HD := Lib.hid (dec116 100000 q (by omega) (by omega) wr)
        clear hq
        by_cases h0 : s = []
        · obtain rfl : NI = -1 := by rw [HNV.out, if_pos (.inl h0)]
          have e0 : s.length = 0 := by rw [h0]; rfl
          have e1 : ((s.length : Int) == 0) = true := by rw [e0]; rfl
          clear h0
          go_wp2_with (fail)
          all_goals go_ret
          all_goals exact ⟨rfl, HWR.out⟩
        · have e0 : ((s.length : Int) == 0) = false := by
            rw [beq_eq_false_iff_ne]
            intro e
            exact h0 (List.eq_nil_of_length_eq_zero (by omega))
          obtain ⟨Dq, hDq⟩ : ∃ x, Lib.decDigits q = x := ⟨_, rfl⟩
          rw [hDq] at HNV HD
          clear hDq
          by_cases hd : Dq = s
          · obtain rfl : NI = (q : Int) := by rw [HNV.out, if_neg (fun h => h.elim h0 (fun h => h hd))]
            subst hd
            clear h0
            go_wp2_with (fail)
            refine HD.out.mono ?_
            rintro e w9 ⟨rfl, rfl⟩
            go_wp2_with (fail)
            go_ret
            exact ⟨rfl, HWR.out⟩
          · obtain rfl : NI = -1 := by rw [HNV.out, if_pos (.inr hd)]
            have e1 : (Dq == s) = false := by rw [beq_eq_false_iff_ne]; exact hd
            have e2 : (Dq != s) = true := by rw [bne_iff_ne]; exact hd
            clear h0
            go_wp2_with (fail)
            refine HD.out.mono ?_
            rintro e w9 ⟨rfl, rfl⟩
            go_wp2_with (fail)
            go_ret
            exact ⟨rfl, HWR.out⟩
    · have p5 : decide ((i : Int) < 5) = false := decide_eq_false (by omega)
      by_cases hl : i < s.length
      · have p1 : decide ((i : Int) < (s.length : Int)) = true := decide_eq_true (by omega)
        have HTK := Lib.hid (show s.take i = s.take 5 by rw [show i = 5 by omega])
        have HNV := Lib.hid (show NI = if s = [] ∨ Lib.decDigits (numV (s.take i)) ≠ s then -1 else (numV (s.take i) : Int) by
          rw [← HNI.out, HTK.out]
          unfold numI numR
          rw [if_pos (show ((s.take 5).all fun c => decide (48 ≤ c.toNat) && decide (c.toNat ≤ 57)) = true by rw [← HTK.out]; exact HAL.out)]
          by_cases hh : s = [] ∨ Lib.decDigits (numV (s.take 5)) ≠ s
          · rw [if_pos hh]
            simp only [numV] at hh
            simp only [if_pos hh]
          · rw [if_neg hh]
            simp only [numV] at hh
            simp only [if_neg hh, numV])
        obtain ⟨q, hq⟩ : ∃ q, numV (s.take i) = q := ⟨_, rfl⟩
        rw [hq] at HNV hlt ⊢
        have HD := Lib.hid (dec116 100000 q (by omega) (by omega) wr)
        clear hq
        by_cases h0 : s = []
        · obtain rfl : NI = -1 := by rw [HNV.out, if_pos (.inl h0)]
          have e0 : s.length = 0 := by rw [h0]; rfl
          have e1 : ((s.length : Int) == 0) = true := by rw [e0]; rfl
          clear h0
          go_wp2_with (fail)
          all_goals go_ret
          all_goals exact ⟨rfl, HWR.out⟩
        · have e0 : ((s.length : Int) == 0) = false := by
            rw [beq_eq_false_iff_ne]
            intro e
            exact h0 (List.eq_nil_of_length_eq_zero (by omega))
          obtain ⟨Dq, hDq⟩ : ∃ x, Lib.decDigits q = x := ⟨_, rfl⟩
          rw [hDq] at HNV HD
          clear hDq
          by_cases hd : Dq = s
          · obtain rfl : NI = (q : Int) := by rw [HNV.out, if_neg (fun h => h.elim h0 (fun h => h hd))]
            subst hd
            clear h0
            go_wp2_with (fail)
            refine HD.out.mono ?_
            rintro e w9 ⟨rfl, rfl⟩
            go_wp2_with (fail)
            go_ret
            exact ⟨rfl, HWR.out⟩
          · obtain rfl : NI = -1 := by rw [HNV.out, if_pos (.inr hd)]
            have e1 : (Dq == s) = false := by rw [beq_eq_false_iff_ne]; exact hd
            have e2 : (Dq != s) = true := by rw [bne_iff_ne]; exact hd
            clear h0
            go_wp2_with (fail)
            refine HD.out.mono ?_
            rintro e w9 ⟨rfl, rfl⟩
            go_wp2_with (fail)
            go_ret
            exact ⟨rfl, HWR.out⟩
      · have p1 : decide ((i : Int) < (s.length : Int)) = false := decide_eq_false (by omega)
        have HTK := Lib.hid (show s.take i = s.take 5 by rw [List.take_of_length_le (by omega), List.take_of_length_le (by omega)])
        have HNV := Lib.hid (show NI = if s = [] ∨ Lib.decDigits (numV (s.take i)) ≠ s then -1 else (numV (s.take i) : Int) by
          rw [← HNI.out, HTK.out]
          unfold numI numR
          rw [if_pos (show ((s.take 5).all fun c => decide (48 ≤ c.toNat) && decide (c.toNat ≤ 57)) = true by rw [← HTK.out]; exact HAL.out)]
          by_cases hh : s = [] ∨ Lib.decDigits (numV (s.take 5)) ≠ s
          · rw [if_pos hh]
            simp only [numV] at hh
            simp only [if_pos hh]
          · rw [if_neg hh]
            simp only [numV] at hh
            simp only [if_neg hh, numV])
        obtain ⟨q, hq⟩ : ∃ q, numV (s.take i) = q := ⟨_, rfl⟩
        rw [hq] at HNV hlt ⊢
        have HD := Lib.hid (dec116 100000 q (by omega) (by omega) wr)
        clear hq
        by_cases h0 : s = []
        · obtain rfl : NI = -1 := by rw [HNV.out, if_pos (.inl h0)]
          have e0 : s.length = 0 := by rw [h0]; rfl
          have e1 : ((s.length : Int) == 0) = true := by rw [e0]; rfl
          clear h0
          go_wp2_with (fail)
          all_goals go_ret
          all_goals exact ⟨rfl, HWR.out⟩
        · have e0 : ((s.length : Int) == 0) = false := by
            rw [beq_eq_false_iff_ne]
            intro e
            exact h0 (List.eq_nil_of_length_eq_zero (by omega))
          obtain ⟨Dq, hDq⟩ : ∃ x, Lib.decDigits q = x := ⟨_, rfl⟩
          rw [hDq] at HNV HD
          clear hDq
          by_cases hd : Dq = s
          · obtain rfl : NI = (q : Int) := by rw [HNV.out, if_neg (fun h => h.elim h0 (fun h => h hd))]
            subst hd
            clear h0
            go_wp2_with (fail)
            refine HD.out.mono ?_
            rintro e w9 ⟨rfl, rfl⟩
            go_wp2_with (fail)
            go_ret
            exact ⟨rfl, HWR.out⟩
          · obtain rfl : NI = -1 := by rw [HNV.out, if_pos (.inr hd)]
            have e1 : (Dq == s) = false := by rw [beq_eq_false_iff_ne]; exact hd
            have e2 : (Dq != s) = true := by rw [bne_iff_ne]; exact hd
            clear h0
            go_wp2_with (fail)
            refine HD.out.mono ?_
            rintro e w9 ⟨rfl, rfl⟩
            go_wp2_with (fail)
            go_ret
            exact ⟨rfl, HWR.out⟩
end Go.Proofs.YtngdmpkoedpgdaaGreatDoor

/-
  Print (reference), the walk.
-/


namespace Go.Ap
open Go Go.RowKit
theorem textS_mono (l : List Post) (i : Nat) : (textS (l.take i)).length ≤ (textS l).length := by
  have h : textS l = textS (l.take i) ++ textS (l.drop i) := by
    unfold textS
    rw [← List.flatMap_append, List.take_append_drop]
  rw [h, List.length_append]
  omega
end Go.Ap
namespace Go.Proofs.YtngdmpkoedpgdaaGreatDoor
open Go.RowKit Go.Ap Go.Shelf Go.Proofs

attribute [local go_sem] Oper.semAt_some bs_toList empty_toList bs_size bs_extract
theorem lit32 : ({ data := #[32] } : ByteArray) = bs [32] := rfl
theorem lit10 : ({ data := #[10] } : ByteArray) = bs [10] := rfl
theorem lit0 : ({ data := #[] } : ByteArray) = bs [] := rfl
set_option maxRecDepth 100000 in
set_option maxHeartbeats 8000000 in
theorem printR (l : List Post) (a : Option Addr) (n c : Nat) (w : World) (h : Posts w a n l) :
    Calls Tryz.prog 55 #[.slice a n c] w fun e w' => e = .returned (.tuple #[.string (bs (printS l)), .int .i64 (printC l)]) ∧ Below w.heap.size w w' := by
  have HI := Lib.hid (indexR l a n c w h)
  have HX := Lib.hid h
  have HLN := Lib.hid h.len
  have hsm := h.small
  cases hx : indexB l
  · rw [hx] at HI
    rw [show printC l = 1 by unfold printC; rw [if_pos hx], show printS l = [] by unfold printS printC; rw [if_pos hx]; rfl]
    clear hx h
    go_enter Tryz.func55, Tryz.ntmps55
    go_wp2_with (fail)
    refine HI.out.mono ?_
    rintro e W ⟨rfl, hb⟩
    go_wp2_with (fail)
    go_ret2
    exact ⟨rfl, hb⟩
  · rw [hx] at HI
    have HVL := Lib.hid (indexB_valid hx).2
    have hn4 : n ≤ 4096 := by have := (indexB_valid hx).1; have := HLN.out; omega
    have HC4 := Lib.hid (show ∀ i, 65536 < (textS (l.take i)).length → printC l = 4 ∧ printS l = [] from fun i hi => by
      have := textS_mono l i
      have e : printC l = 4 := by unfold printC; rw [if_neg (by simp [hx]), if_pos (by omega)]
      exact ⟨e, by unfold printS; rw [if_neg (by rw [e]; decide)]⟩)
    have HC0 := Lib.hid (show (textS l).length ≤ 65536 → printC l = 0 ∧ printS l = textS l from fun hi => by
      have e : printC l = 0 := by unfold printC; rw [if_neg (by simp [hx]), if_neg (by omega)]
      exact ⟨e, by unfold printS; rw [if_pos e]⟩)
    obtain ⟨PC, hPC⟩ : ∃ x, printC l = x := ⟨_, rfl⟩
    obtain ⟨PS, hPS⟩ : ∃ x, printS l = x := ⟨_, rfl⟩
    rw [hPC, hPS] at HC4 HC0 ⊢
    clear hx h hPC hPS
    go_enter Tryz.func55, Tryz.ntmps55
    go_wp2_with (fail)
    refine HI.out.mono ?_
    rintro e W0 ⟨rfl, hb⟩
    have HB0 := Lib.hid hb
    clear hb HI
    go_wp2_with (fail)
    go_loopw [4, 5] (fun tv iv wr => ∃ i : Nat, i ≤ n ∧ iv = .int .i64 i ∧ tv = .string (bs (textS (l.take i))) ∧ (textS (l.take i)).length ≤ 65536 ∧ Below w.heap.size w wr) (fun _ iv _ => n - (intOf iv).toNat)
    case atStart => exact ⟨0, Nat.zero_le _, rfl, rfl, by simp [textS], HB0.out⟩
    case round =>
      obtain ⟨wi, rfl⟩ : ∃ wi : World, wi = wr := ⟨_, rfl⟩
      obtain ⟨i, hile, rfl, rfl, htl, hb⟩ := hrel
      have HB := Lib.hid hb
      by_cases hin : i < n
      · obtain ⟨p, bb, off, hp, rfl, a1, k1, c0, c1, c2, hps⟩ := HX.out.at hin
        obtain ⟨⟨wd, sc⟩, ls⟩ := p
        have HSN := Lib.hid (textS_snoc hp)
        have HVP := Lib.hid (validB_parts (HVL.out _ (List.mem_of_getElem? hp)))
        have HPL := Lib.hid (postT_len (HVL.out _ (List.mem_of_getElem? hp)))
        have HPS := Lib.hid hps
        have hwl : wd.length ≤ 64 := isWordB_64 HVP.out.1
        have hsl : sc.length ≤ 16 := nameB_16 HVP.out.2.1
        simp only at c0 c1 c2
        replace c0 := Go.Ap.cell_kept (Nat.le_refl _) hb c0
        replace c1 := Go.Ap.cell_kept (Nat.le_refl _) hb c1
        have HC2 := Lib.hid c2
        replace c2 := Go.Ap.cell_kept (Nat.le_refl _) hb c2
        have HCS := Lib.hid (show wi.cell? ⟨bb, off + i * 3, none⟩ = some (.string (bs wd)) ∧ wi.cell? ⟨bb, off + i * 3 + 1, none⟩ = some (.string (bs sc)) from ⟨c0, c1⟩)
        obtain ⟨m, hm⟩ : ∃ m, ls.length = m := ⟨_, rfl⟩
        have HM := Lib.hid hm
        have hm4 : m ≤ 4096 := by have := HVP.out.2.2.1; simp only at this; omega
        rw [hm] at HC2
        have HV4 := Lib.hid (show ∀ y ∈ ls, (1 : Int) ≤ y ∧ y ≤ 4096 from HVP.out.2.2.2)
        have HFL := Lib.hid (show ∀ j, ((ls.take j).flatMap lineT).length ≤ 100000 from fun j => by
          have h5 := flat_len (f := lineT) (k := 22) (l := ls.take j) fun n hn => lineT_len (by have := HV4.out n (List.mem_of_mem_take hn); omega) (by have := HV4.out n (List.mem_of_mem_take hn); omega)
          rw [List.length_take] at h5
          omega)
        obtain ⟨T, hT⟩ : ∃ T, textS (l.take i) = T := ⟨_, rfl⟩
        rw [hT] at HSN htl ⊢
        have HT := Lib.hid hT
        have i1 : (i : Int) < (n : Int) := by omega
        obtain ⟨A, hA⟩ : ∃ A, T ++ wd = A := ⟨_, rfl⟩
        have hAl : A.length ≤ 65600 := by rw [← hA, List.length_append]; omega
        obtain ⟨T1, hT1⟩ : ∃ x, A ++ 32 :: sc = x := ⟨_, rfl⟩
        have hT1l : T1.length ≤ 65700 := by rw [← hT1, List.length_append, List.length_cons]; omega
        have HT1 := Lib.hid (show T ++ wd ++ 32 :: sc = T1 by rw [hA, hT1])
        have q1 : bs T ++ bs wd = bs A := by rw [← hA]; exact bs_append
        obtain ⟨A2, hA2⟩ : ∃ x, A ++ [32] = x := ⟨_, rfl⟩
        have q2 : bs A ++ { data := #[32] } = bs A2 := by rw [← hA2]; exact bs_append
        have q3 : bs A2 ++ bs sc = bs T1 := by rw [bs_append, ← hA2, ← hT1, List.append_assoc]; rfl
        have q4 : A2.length ≤ 65601 := by rw [← hA2, List.length_append]; exact Nat.succ_le_succ hAl
        have n1 : ¬9223372036854775807 < T.length + wd.length := by omega
        have n2 : ¬9223372036854775807 < A.length + 1 := by omega
        have n3 : ¬9223372036854775807 < A2.length + sc.length := by omega
        clear hp hps hm hb c0 c1 c2 hT hA hT1 hA2
        go_wp2_with (fail)
        refine (wpIn_wide (n := 20)).1 ?_
        refine wpIn_region_planN (fun W' => W'.cell? ⟨bb, off + i * 3, none⟩ = some (.string (bs wd)) ∧ W'.cell? ⟨bb, off + i * 3 + 1, none⟩ = some (.string (bs sc))) (.take 0 <| .take 1 <| .take 2 <| .take 3 <| .take 4 <| .take 5 <| .take 6 <| .take 7 <| .take 8 <| .take 9 <| .take 10 <| .take 11 <| .take 12 <| .take 13 <| .take 14 .fin) (fun _ => trivial) (by kernel_rfl) (by kernel_rfl) HCS.out ?_
        iterate 5
          apply plan_take rfl rfl (by rfl)
          case hy =>
            rintro W' hb'
            clear hb'
            go_simp
            first | done | with_reducible rfl
          simp only [List.setIfInBounds_toArray, List.set_cons_zero, List.set_cons_succ]
        apply plan_take rfl rfl (by rfl)
        case hy =>
          rintro W' hb'
          have x0 := hb'.1
          have x1 := hb'.2
          clear hb'
          go_simp
          first | done | with_reducible rfl
        simp only [List.setIfInBounds_toArray, List.set_cons_zero, List.set_cons_succ]
        iterate 6
          apply plan_take rfl rfl (by rfl)
          case hy =>
            rintro W' hb'
            clear hb'
            go_simp
            first | done | with_reducible rfl
          simp only [List.setIfInBounds_toArray, List.set_cons_zero, List.set_cons_succ]
        apply plan_take rfl rfl (by rfl)
        case hy =>
          rintro W' hb'
          have x0 := hb'.1
          have x1 := hb'.2
          clear hb'
          go_simp
          first | done | with_reducible rfl
        simp only [List.setIfInBounds_toArray, List.set_cons_zero, List.set_cons_succ]
        iterate 2
          apply plan_take rfl rfl (by rfl)
          case hy =>
            rintro W' hb'
            clear hb'
            go_simp
            first | done | with_reducible rfl
          simp only [List.setIfInBounds_toArray, List.set_cons_zero, List.set_cons_succ]
        refine plan_fin ?_
        gi_wp2_with (fail)
        go_wp2_with (fail)
        clear q1 q2 q3 q4 n1 n2 n3
        go_loopw [4, 6] (fun tv jv wr => ∃ j : Nat, j ≤ m ∧ jv = .int .i64 j ∧ tv = .string (bs (T1 ++ (ls.take j).flatMap lineT)) ∧ Below w.heap.size w wr) (fun _ jv _ => m - (intOf jv).toNat)
        case atStart => exact ⟨0, Nat.zero_le _, rfl, by simp, ⟨HB.out.os, HB.out.tape, HB.out.output, HB.out.size, HB.out.block⟩⟩
        case round =>
          obtain ⟨wj, rfl⟩ : ∃ wj : World, wj = wr := ⟨_, rfl⟩
          obtain ⟨j, hjle, rfl, rfl, hbj⟩ := hrel
          have HBJ := Lib.hid hbj
          have c2 := Go.Ap.cell_kept (Nat.le_refl _) hbj HC2.out
          have hRl : (T1 ++ (ls.take j).flatMap lineT).length ≤ 170000 := by
            rw [List.length_append]
            have := HFL.out j
            omega
          by_cases hjm : j < m
          · obtain ⟨y, b2, off2, v2, hy, rfl, hcy, rfl, hiy⟩ := Sl.at (HPS.out.lines.mono (Nat.le_refl _) hbj) (show j < ls.length by have := HM.out; omega)
            have hyb := HV4.out y (List.mem_of_getElem? hy)
            obtain ⟨q, rfl⟩ : ∃ q : Nat, y = q := ⟨y.toNat, by omega⟩
            have HD := Lib.hid (dec116 4096 q (by omega) (by omega) wj)
            have HTK := Lib.hid (show (ls.take (j + 1)).flatMap lineT = (ls.take j).flatMap lineT ++ 32 :: Lib.decDigits q by
              rw [take_snoc hy, List.flatMap_append]
              simp only [List.flatMap_cons, List.flatMap_nil, List.append_nil, lineT, Lib.itoa_nonneg])
            have hdl : (Lib.decDigits q).length ≤ 21 := by
              have a := Lib.itoa_length_le (q : Int) (by omega) (by omega)
              rwa [Lib.itoa_nonneg] at a
            obtain ⟨R, hR⟩ : ∃ R, T1 ++ (ls.take j).flatMap lineT = R := ⟨_, rfl⟩
            rw [hR] at hRl ⊢
            obtain ⟨Dq, hDq⟩ : ∃ x, Lib.decDigits q = x := ⟨_, rfl⟩
            rw [hDq] at HD HTK hdl
            have j1 : (j : Int) < (m : Int) := by omega
            have q2 : bs R ++ { data := #[32] } = bs (R ++ [32]) := bs_append
            have q3 : bs (R ++ [32]) ++ bs Dq = bs (R ++ 32 :: Dq) := by rw [bs_append, List.append_assoc]; rfl
            have q4 : (R ++ [32]).length ≤ 170001 := by rw [List.length_append]; exact Nat.succ_le_succ hRl
            have HNX := Lib.hid (show T1 ++ (ls.take (j + 1)).flatMap lineT = R ++ 32 :: Dq by rw [HTK.out, ← hR, List.append_assoc])
            clear hy hbj hyb hDq hR hiy
            go_wp2_with (fail)
            refine HD.out.mono ?_
            rintro e w9 ⟨rfl, rfl⟩
            go_wp2_with (fail)
            exact ⟨⟨j + 1, by omega, by simp, by rw [HNX.out], HBJ.out⟩, by simp [intOf]; omega⟩
          · obtain rfl : m = j := by omega
            rw [List.take_of_length_le (Nat.le_of_eq HM.out)] at hRl ⊢
            have HNX := Lib.hid (show textS (l.take (i + 1)) = T1 ++ ls.flatMap lineT ++ [10] by
              rw [HSN.out, ← HT1.out]
              simp [postT])
            obtain ⟨R, hR⟩ : ∃ R, T1 ++ ls.flatMap lineT = R := ⟨_, rfl⟩
            rw [hR] at hRl HNX ⊢
            have q2 : bs R ++ { data := #[10] } = bs (R ++ [10]) := bs_append
            have hLL : (R ++ [10]).length = R.length + 1 := by simp
            obtain ⟨Z, hZ⟩ : ∃ Z, R ++ [10] = Z := ⟨_, rfl⟩
            rw [hZ] at q2 HNX hLL
            have hZl : Z.length ≤ 170001 := by omega
            clear hR hZ hbj
            by_cases hbig : 65536 < Z.length
            · have d1 : decide ((65536 : Int) < (Z.length : Int)) = true := decide_eq_true (by omega)
              obtain ⟨e1, e2⟩ := HC4.out (i + 1) (by rw [HNX.out]; exact hbig)
              subst e1 e2
              clear hLL
              go_wp2_with (fail)
              go_ret2
              exact ⟨rfl, HBJ.out⟩
            · have d1 : decide ((65536 : Int) < (Z.length : Int)) = false := decide_eq_false (by omega)
              clear hLL
              go_wp2_with (fail)
              exact ⟨⟨i + 1, by omega, by simp, by rw [HNX.out], by rw [HNX.out]; omega, HBJ.out⟩, by simp [intOf]; omega⟩
      · obtain rfl : n = i := by omega
        rw [List.take_of_length_le (Nat.le_of_eq HLN.out)] at htl ⊢
        obtain ⟨rfl, rfl⟩ := HC0.out htl
        clear htl
        go_wp2_with (fail)
        go_ret2
        exact ⟨rfl, HB.out⟩
end Go.Proofs.YtngdmpkoedpgdaaGreatDoor
