/-
  The size that the laws ask of a graph.
-/
import Derived.Test.YtjmebijckcimoaaGreatDoorCk24
namespace Go.Proofs.YtjmebijckcimoaaGreatDoor
open Go.RowKit Go.Ap Go.Shelf Go.Proofs

attribute [local go_sem] Oper.semAt_some bs_toList empty_toList bs_size bs_extract
def SmallG (ws : List Str) (al : List Vg.Arc) : Prop := ws.length ≤ 14 ∧ al.length ≤ 24 ∧ (∀ u ∈ ws, u.length ≤ 40) ∧ ∀ a ∈ al, a.2.length ≤ 6
def GreatA (w : World) (ws : List Str) (al : List Vg.Arc) (e : Ending) (w' : World) : Prop := (∃ b, e = .returned (.bool b) ∧ (b = false → SmallG ws al)) ∧ Below w.heap.size w w'
set_option maxRecDepth 100000 in
set_option maxHeartbeats 4000000 in
theorem great21_11 (ws : List Str) (al : List Vg.Arc) (a1 : Option Addr) (n1 c1 : Nat) (a2 : Option Addr) (n2 c2 : Nat) (w : World) (h : GraphM w a1 n1 a2 n2 ws al) (h14 : n1 ≤ 14) (h24 : n2 ≤ 24) :
    Calls Tryz.prog 21 #[graphV a1 n1 c1 a2 n2 c2] w (GreatA w ws al) := by
  have HL1 := Lib.hid h.words.len
  have HL2 := Lib.hid h.arcs.len
  have HS1 := h.words.small
  have HS2 := h.arcs.small
  have H14 := Lib.hid h14
  have H24 := Lib.hid h24
  obtain ⟨W4, hW4⟩ : ∃ W4, w.alloc (.cells #[.slice a1 n1 c1, .slice a2 n2 c2] 31) = W4 := ⟨_, rfl⟩
  have HB4 := Lib.hid (show Below w.heap.size w W4 by rw [← hW4]; exact balloc _ _)
  have HBX := Lib.hid (show BoxG W4 w.heap.size a1 n1 c1 a2 n2 c2 by rw [← hW4]; exact BoxG.new w a1 n1 c1 a2 n2 c2)
  have HG := Lib.hid (show GraphM W4 a1 n1 a2 n2 ws al from h.mono (Nat.le_refl _) HB4.out)
  have d1 : decide ((n1 : Int) ≤ 14) = true := decide_eq_true (by omega)
  have d1' : decide (n1 ≤ 14) = true := decide_eq_true (by omega)
  have d2 : decide ((14 : Int) < (n1 : Int)) = false := decide_eq_false (by omega)
  have d2' : decide (14 < n1) = false := decide_eq_false (by omega)
  have d3 : decide ((n2 : Int) ≤ 24) = true := decide_eq_true (by omega)
  have d3' : decide (n2 ≤ 24) = true := decide_eq_true (by omega)
  have d4 : decide ((24 : Int) < (n2 : Int)) = false := decide_eq_false (by omega)
  have d4' : decide (24 < n2) = false := decide_eq_false (by omega)
  clear h
  unfold graphV
  go_enter Tryz.func21, Tryz.ntmps21
  obtain ⟨k0, k1⟩ := HBX.out
  go_wp2_with (fail)
  go_loopw [3] (fun iv wr => ∃ i : Nat, i ≤ n1 ∧ iv = .int .i64 i ∧ wr = W4 ∧ ∀ j (u : Str), j < i → ws[j]? = some u → u.length ≤ 40) (fun iv _ => n1 - (intOf iv).toNat)
  case atStart => exact ⟨0, Nat.zero_le _, rfl, rfl, fun j p hj => by omega⟩
  case round =>
    obtain ⟨i, hile, rfl, hwr, hok⟩ := hrel
    obtain rfl := hwr.symm
    have HOK1 := Lib.hid hok
    clear hok
    by_cases hin : i < n1
    · obtain ⟨u, b3, o3, v3, hu, rfl, hcw, rfl⟩ := Sl.at HG.out.words hin
      have HX := Lib.hid hu
      have i1 : (i : Int) < (n1 : Int) := by omega
      have hcw' : W4.cell? ⟨b3, o3 + i, none⟩ = some (.string (bs u)) := hcw
      clear hu hcw
      by_cases g0 : 40 < u.length
      · have e0 : decide ((40 : Int) < (u.length : Int)) = true := decide_eq_true (by omega)
        clear g0
        go_wp2_with (fail)
        go_ret
        exact ⟨⟨true, rfl, fun h => by cases h⟩, HB4.out⟩
      · have e0 : decide ((40 : Int) < (u.length : Int)) = false := decide_eq_false (by omega)
        have e0' : decide (40 < u.length) = false := decide_eq_false g0
        have HQ := Lib.hid g0
        clear g0
        go_wp2_with (fail)
        go_roundw
        case rel => exact ⟨i + 1, by omega, by simp, by first | rfl | trivial, fun j x hj hx => by
          by_cases hji : j = i
          · subst hji
            rw [HX.out] at hx
            cases hx
            have := HQ.out
            omega
          · exact HOK1.out j x (by omega) hx⟩
        case measure => simp [intOf]; omega
    · obtain rfl : n1 = i := by omega
      go_wp2_with (fail)
      go_loopw [4] (fun iv wr => ∃ i : Nat, i ≤ n2 ∧ iv = .int .i64 i ∧ wr = W4 ∧ ∀ j (x : Vg.Arc), j < i → al[j]? = some x → x.2.length ≤ 6) (fun iv _ => n2 - (intOf iv).toNat)
      case atStart => exact ⟨0, Nat.zero_le _, rfl, rfl, fun j p hj => by omega⟩
      case round =>
        obtain ⟨i, hile, rfl, hwr, hok⟩ := hrel
        obtain rfl := hwr.symm
        have HOK := Lib.hid hok
        clear hok
        by_cases hin : i < n2
        · obtain ⟨x, b, off, a5, k5, hx, rfl, p0, p1, p2, _⟩ := HG.out.arcs.at hin
          obtain ⟨⟨f0, t0⟩, src⟩ := x
          simp only at p0 p1 p2
          have HX := Lib.hid hx
          obtain ⟨k, hk⟩ : ∃ k, src.length = k := ⟨_, rfl⟩
          rw [hk] at p2
          have HK := Lib.hid hk
          have i1 : (i : Int) < (n2 : Int) := by omega
          clear hx hk p0 p1
          by_cases g0 : 6 < k
          · have e0 : decide ((6 : Int) < (k : Int)) = true := decide_eq_true (by omega)
            clear g0
            go_wp2_with (fail)
            go_ret
            exact ⟨⟨true, rfl, fun h => by cases h⟩, HB4.out⟩
          · have e0 : decide ((6 : Int) < (k : Int)) = false := decide_eq_false (by omega)
            have e0' : decide (6 < k) = false := decide_eq_false g0
            have HQ := Lib.hid g0
            clear g0
            go_wp2_with (fail)
            go_roundw
            case rel => exact ⟨i + 1, by omega, by simp, by first | rfl | trivial, fun j x hj hx => by
              by_cases hji : j = i
              · subst hji
                rw [HX.out] at hx
                cases hx
                have := HQ.out
                have := HK.out
                simp only
                omega
              · exact HOK.out j x (by omega) hx⟩
            case measure => simp [intOf]; omega
        · obtain rfl : n2 = i := by omega
          go_wp2_with (fail)
          go_ret
          exact ⟨⟨false, rfl, fun _ => ⟨HL1.out ▸ H14.out, HL2.out ▸ H24.out, fun u hu => by
            obtain ⟨j, hj⟩ := List.getElem?_of_mem hu
            exact HOK1.out j u (by have := (List.getElem?_eq_some_iff.1 hj).1; have := HL1.out; omega) hj, fun x hx => by
            obtain ⟨j, hj⟩ := List.getElem?_of_mem hx
            exact HOK.out j x (by have := (List.getElem?_eq_some_iff.1 hj).1; have := HL2.out; omega) hj⟩⟩, HB4.out⟩
set_option maxRecDepth 100000 in
set_option maxHeartbeats 4000000 in
theorem great21_10 (ws : List Str) (al : List Vg.Arc) (a1 : Option Addr) (n1 c1 : Nat) (a2 : Option Addr) (n2 c2 : Nat) (w : World) (h : GraphM w a1 n1 a2 n2 ws al) (h14 : n1 ≤ 14) (h24 : ¬n2 ≤ 24) :
    Calls Tryz.prog 21 #[graphV a1 n1 c1 a2 n2 c2] w (GreatA w ws al) := by
  have HL1 := Lib.hid h.words.len
  have HL2 := Lib.hid h.arcs.len
  have HS1 := h.words.small
  have HS2 := h.arcs.small
  have H14 := Lib.hid h14
  have H24 := Lib.hid h24
  obtain ⟨W4, hW4⟩ : ∃ W4, w.alloc (.cells #[.slice a1 n1 c1, .slice a2 n2 c2] 31) = W4 := ⟨_, rfl⟩
  have HB4 := Lib.hid (show Below w.heap.size w W4 by rw [← hW4]; exact balloc _ _)
  have HBX := Lib.hid (show BoxG W4 w.heap.size a1 n1 c1 a2 n2 c2 by rw [← hW4]; exact BoxG.new w a1 n1 c1 a2 n2 c2)
  have HG := Lib.hid (show GraphM W4 a1 n1 a2 n2 ws al from h.mono (Nat.le_refl _) HB4.out)
  have d1 : decide ((n1 : Int) ≤ 14) = true := decide_eq_true (by omega)
  have d1' : decide (n1 ≤ 14) = true := decide_eq_true (by omega)
  have d2 : decide ((14 : Int) < (n1 : Int)) = false := decide_eq_false (by omega)
  have d2' : decide (14 < n1) = false := decide_eq_false (by omega)
  have d3 : decide ((n2 : Int) ≤ 24) = false := decide_eq_false (by omega)
  have d3' : decide (n2 ≤ 24) = false := decide_eq_false (by omega)
  have d4 : decide ((24 : Int) < (n2 : Int)) = true := decide_eq_true (by omega)
  have d4' : decide (24 < n2) = true := decide_eq_true (by omega)
  clear h
  unfold graphV
  go_enter Tryz.func21, Tryz.ntmps21
  obtain ⟨k0, k1⟩ := HBX.out
  go_wp2_with (fail)
  go_loopw [3] (fun iv wr => ∃ i : Nat, i ≤ n1 ∧ iv = .int .i64 i ∧ wr = W4 ∧ ∀ j (u : Str), j < i → ws[j]? = some u → u.length ≤ 40) (fun iv _ => n1 - (intOf iv).toNat)
  case atStart => exact ⟨0, Nat.zero_le _, rfl, rfl, fun j p hj => by omega⟩
  case round =>
    obtain ⟨i, hile, rfl, hwr, hok⟩ := hrel
    obtain rfl := hwr.symm
    have HOK1 := Lib.hid hok
    clear hok
    by_cases hin : i < n1
    · obtain ⟨u, b3, o3, v3, hu, rfl, hcw, rfl⟩ := Sl.at HG.out.words hin
      have HX := Lib.hid hu
      have i1 : (i : Int) < (n1 : Int) := by omega
      have hcw' : W4.cell? ⟨b3, o3 + i, none⟩ = some (.string (bs u)) := hcw
      clear hu hcw
      by_cases g0 : 40 < u.length
      · have e0 : decide ((40 : Int) < (u.length : Int)) = true := decide_eq_true (by omega)
        clear g0
        go_wp2_with (fail)
        go_ret
        exact ⟨⟨true, rfl, fun h => by cases h⟩, HB4.out⟩
      · have e0 : decide ((40 : Int) < (u.length : Int)) = false := decide_eq_false (by omega)
        have e0' : decide (40 < u.length) = false := decide_eq_false g0
        have HQ := Lib.hid g0
        clear g0
        go_wp2_with (fail)
        go_roundw
        case rel => exact ⟨i + 1, by omega, by simp, by first | rfl | trivial, fun j x hj hx => by
          by_cases hji : j = i
          · subst hji
            rw [HX.out] at hx
            cases hx
            have := HQ.out
            omega
          · exact HOK1.out j x (by omega) hx⟩
        case measure => simp [intOf]; omega
    · obtain rfl : n1 = i := by omega
      go_wp2_with (fail)
      have d5 : decide ((0 : Int) < (n2 : Int)) = true := decide_eq_true (by omega)
      have d5' : decide (0 < n2) = true := decide_eq_true (by omega)
      go_loopw [4] (fun iv wr => iv = .int .i64 0 ∧ wr = W4) (fun iv _ => n2 - (intOf iv).toNat)
      case atStart => exact ⟨rfl, rfl⟩
      case round =>
        obtain ⟨rfl, hwr⟩ := hrel
        obtain rfl := hwr.symm
        go_wp2_with (fail)
        go_ret
        exact ⟨⟨true, rfl, fun h => by cases h⟩, HB4.out⟩
set_option maxRecDepth 100000 in
set_option maxHeartbeats 4000000 in
theorem great21_01 (ws : List Str) (al : List Vg.Arc) (a1 : Option Addr) (n1 c1 : Nat) (a2 : Option Addr) (n2 c2 : Nat) (w : World) (h : GraphM w a1 n1 a2 n2 ws al) (h14 : ¬n1 ≤ 14) (h24 : n2 ≤ 24) :
    Calls Tryz.prog 21 #[graphV a1 n1 c1 a2 n2 c2] w (GreatA w ws al) := by
  have HL1 := Lib.hid h.words.len
  have HL2 := Lib.hid h.arcs.len
  have HS1 := h.words.small
  have HS2 := h.arcs.small
  have H14 := Lib.hid h14
  have H24 := Lib.hid h24
  obtain ⟨W4, hW4⟩ : ∃ W4, w.alloc (.cells #[.slice a1 n1 c1, .slice a2 n2 c2] 31) = W4 := ⟨_, rfl⟩
  have HB4 := Lib.hid (show Below w.heap.size w W4 by rw [← hW4]; exact balloc _ _)
  have HBX := Lib.hid (show BoxG W4 w.heap.size a1 n1 c1 a2 n2 c2 by rw [← hW4]; exact BoxG.new w a1 n1 c1 a2 n2 c2)
  have HG := Lib.hid (show GraphM W4 a1 n1 a2 n2 ws al from h.mono (Nat.le_refl _) HB4.out)
  have d1 : decide ((n1 : Int) ≤ 14) = false := decide_eq_false (by omega)
  have d1' : decide (n1 ≤ 14) = false := decide_eq_false (by omega)
  have d2 : decide ((14 : Int) < (n1 : Int)) = true := decide_eq_true (by omega)
  have d2' : decide (14 < n1) = true := decide_eq_true (by omega)
  have d3 : decide ((n2 : Int) ≤ 24) = true := decide_eq_true (by omega)
  have d3' : decide (n2 ≤ 24) = true := decide_eq_true (by omega)
  have d4 : decide ((24 : Int) < (n2 : Int)) = false := decide_eq_false (by omega)
  have d4' : decide (24 < n2) = false := decide_eq_false (by omega)
  clear h
  unfold graphV
  go_enter Tryz.func21, Tryz.ntmps21
  obtain ⟨k0, k1⟩ := HBX.out
  go_wp2_with (fail)
  have d6 : decide ((0 : Int) < (n1 : Int)) = true := decide_eq_true (by omega)
  have d6' : decide (0 < n1) = true := decide_eq_true (by omega)
  go_loopw [3] (fun iv wr => iv = .int .i64 0 ∧ wr = W4) (fun iv _ => n1 - (intOf iv).toNat)
  case atStart => exact ⟨rfl, rfl⟩
  case round =>
    obtain ⟨rfl, hwr⟩ := hrel
    obtain rfl := hwr.symm
    go_wp2_with (fail)
    go_loopw [4] (fun iv wr => ∃ i : Nat, i ≤ n2 ∧ iv = .int .i64 i ∧ wr = W4 ∧ ∀ j (x : Vg.Arc), j < i → al[j]? = some x → x.2.length ≤ 6) (fun iv _ => n2 - (intOf iv).toNat)
    case atStart => exact ⟨0, Nat.zero_le _, rfl, rfl, fun j p hj => by omega⟩
    case round =>
      obtain ⟨i, hile, rfl, hwr, hok⟩ := hrel
      obtain rfl := hwr.symm
      have HOK := Lib.hid hok
      clear hok
      by_cases hin : i < n2
      · obtain ⟨x, b, off, a5, k5, hx, rfl, p0, p1, p2, _⟩ := HG.out.arcs.at hin
        obtain ⟨⟨f0, t0⟩, src⟩ := x
        simp only at p0 p1 p2
        have HX := Lib.hid hx
        obtain ⟨k, hk⟩ : ∃ k, src.length = k := ⟨_, rfl⟩
        rw [hk] at p2
        have HK := Lib.hid hk
        have i1 : (i : Int) < (n2 : Int) := by omega
        clear hx hk p0 p1
        by_cases g0 : 6 < k
        · have e0 : decide ((6 : Int) < (k : Int)) = true := decide_eq_true (by omega)
          clear g0
          go_wp2_with (fail)
          go_ret
          exact ⟨⟨true, rfl, fun h => by cases h⟩, HB4.out⟩
        · have e0 : decide ((6 : Int) < (k : Int)) = false := decide_eq_false (by omega)
          have e0' : decide (6 < k) = false := decide_eq_false g0
          have HQ := Lib.hid g0
          clear g0
          go_wp2_with (fail)
          go_roundw
          case rel => exact ⟨i + 1, by omega, by simp, by first | rfl | trivial, fun j x hj hx => by
            by_cases hji : j = i
            · subst hji
              rw [HX.out] at hx
              cases hx
              have := HQ.out
              have := HK.out
              simp only
              omega
            · exact HOK.out j x (by omega) hx⟩
          case measure => simp [intOf]; omega
      · obtain rfl : n2 = i := by omega
        go_wp2_with (fail)
        go_ret
        exact ⟨⟨true, rfl, fun h => by cases h⟩, HB4.out⟩
set_option maxRecDepth 100000 in
set_option maxHeartbeats 4000000 in
theorem great21_00 (ws : List Str) (al : List Vg.Arc) (a1 : Option Addr) (n1 c1 : Nat) (a2 : Option Addr) (n2 c2 : Nat) (w : World) (h : GraphM w a1 n1 a2 n2 ws al) (h14 : ¬n1 ≤ 14) (h24 : ¬n2 ≤ 24) :
    Calls Tryz.prog 21 #[graphV a1 n1 c1 a2 n2 c2] w (GreatA w ws al) := by
  have HL1 := Lib.hid h.words.len
  have HL2 := Lib.hid h.arcs.len
  have HS1 := h.words.small
  have HS2 := h.arcs.small
  have H14 := Lib.hid h14
  have H24 := Lib.hid h24
  obtain ⟨W4, hW4⟩ : ∃ W4, w.alloc (.cells #[.slice a1 n1 c1, .slice a2 n2 c2] 31) = W4 := ⟨_, rfl⟩
  have HB4 := Lib.hid (show Below w.heap.size w W4 by rw [← hW4]; exact balloc _ _)
  have HBX := Lib.hid (show BoxG W4 w.heap.size a1 n1 c1 a2 n2 c2 by rw [← hW4]; exact BoxG.new w a1 n1 c1 a2 n2 c2)
  have HG := Lib.hid (show GraphM W4 a1 n1 a2 n2 ws al from h.mono (Nat.le_refl _) HB4.out)
  have d1 : decide ((n1 : Int) ≤ 14) = false := decide_eq_false (by omega)
  have d1' : decide (n1 ≤ 14) = false := decide_eq_false (by omega)
  have d2 : decide ((14 : Int) < (n1 : Int)) = true := decide_eq_true (by omega)
  have d2' : decide (14 < n1) = true := decide_eq_true (by omega)
  have d3 : decide ((n2 : Int) ≤ 24) = false := decide_eq_false (by omega)
  have d3' : decide (n2 ≤ 24) = false := decide_eq_false (by omega)
  have d4 : decide ((24 : Int) < (n2 : Int)) = true := decide_eq_true (by omega)
  have d4' : decide (24 < n2) = true := decide_eq_true (by omega)
  clear h
  unfold graphV
  go_enter Tryz.func21, Tryz.ntmps21
  obtain ⟨k0, k1⟩ := HBX.out
  go_wp2_with (fail)
  have d6 : decide ((0 : Int) < (n1 : Int)) = true := decide_eq_true (by omega)
  have d6' : decide (0 < n1) = true := decide_eq_true (by omega)
  go_loopw [3] (fun iv wr => iv = .int .i64 0 ∧ wr = W4) (fun iv _ => n1 - (intOf iv).toNat)
  case atStart => exact ⟨rfl, rfl⟩
  case round =>
    obtain ⟨rfl, hwr⟩ := hrel
    obtain rfl := hwr.symm
    go_wp2_with (fail)
    have d5 : decide ((0 : Int) < (n2 : Int)) = true := decide_eq_true (by omega)
    have d5' : decide (0 < n2) = true := decide_eq_true (by omega)
    go_loopw [4] (fun iv wr => iv = .int .i64 0 ∧ wr = W4) (fun iv _ => n2 - (intOf iv).toNat)
    case atStart => exact ⟨rfl, rfl⟩
    case round =>
      obtain ⟨rfl, hwr⟩ := hrel
      obtain rfl := hwr.symm
      go_wp2_with (fail)
      go_ret
      exact ⟨⟨true, rfl, fun h => by cases h⟩, HB4.out⟩
theorem great21 (ws : List Str) (al : List Vg.Arc) (a1 : Option Addr) (n1 c1 : Nat) (a2 : Option Addr) (n2 c2 : Nat) (w : World) (h : GraphM w a1 n1 a2 n2 ws al) :
    Calls Tryz.prog 21 #[graphV a1 n1 c1 a2 n2 c2] w (GreatA w ws al) := by
  by_cases h14 : n1 ≤ 14
  · by_cases h24 : n2 ≤ 24
    · exact great21_11 ws al a1 n1 c1 a2 n2 c2 w h h14 h24
    · exact great21_10 ws al a1 n1 c1 a2 n2 c2 w h h14 h24
  · by_cases h24 : n2 ≤ 24
    · exact great21_01 ws al a1 n1 c1 a2 n2 c2 w h h14 h24
    · exact great21_00 ws al a1 n1 c1 a2 n2 c2 w h h14 h24
end Go.Proofs.YtjmebijckcimoaaGreatDoor
