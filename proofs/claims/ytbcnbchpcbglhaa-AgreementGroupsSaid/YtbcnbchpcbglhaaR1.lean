/-
  Nearest, of the reference.
-/
import Derived.Test.YtbcnbchpcbglhaaL5
namespace Go.Proofs.Ytbcnbchpcbglhaa
open Go.RowKit Go.Ap Go.Shelf Go.Proofs

theorem nearO_first {S : List (List Int)} {m i k : Nat} (h : k ≠ i) (hb : nearO S m i k = none) : nearO S m i (k + 1) = some k := by rw [nearO, if_neg h, hb]
theorem nearO_less {S : List (List Int)} {m i k b : Nat} (h : k ≠ i) (hb : nearO S m i k = some b) (hd : dist (row S i) (row S k) m < dist (row S i) (row S b) m) : nearO S m i (k + 1) = some k := by
  rw [nearO, if_neg h, hb]; simp only [if_pos hd]
theorem nearO_more {S : List (List Int)} {m i k b : Nat} (h : k ≠ i) (hb : nearO S m i k = some b) (hd : ¬ dist (row S i) (row S k) m < dist (row S i) (row S b) m) : nearO S m i (k + 1) = some b := by
  rw [nearO, if_neg h, hb]; simp only [if_neg hd]

set_option maxHeartbeats 2000000 in
theorem refnear14_ok (a : Option Addr) (n c m i : Nat) (S : List (List Int)) (w : World) (h : Rows2 w a n S) (hch : chkS S = 0) (ok : OkS S m) (hi : i < n) :
    Calls Try.prog 14 #[.slice a n c, .int .i64 i] w fun e w' => e = .returned (.tuple #[.int .i64 (if n = 1 then 0 else bestP (nearO S m i n)), .int .i64 (if n = 1 then 6 else 0)]) ∧ ∃ q, w' = w.drewN q := by
  have H33 := check33 a n c S w h
  rw [hch] at H33
  have H33 := Lib.hid H33
  have hsm := h.small
  have HL := Lib.hid h.len
  have HH := Lib.hid h
  have OK := Lib.hid ok
  have hn32 : n ≤ 32 := by rw [← h.len]; exact ok.le
  have d1 : decide ((i : Int) < 0) = false := by simp
  have d2 : decide ((n : Int) ≤ (i : Int)) = false := by simp; omega
  have d2b : decide (n ≤ i) = false := by simp; omega
  obtain ⟨V, hV⟩ : ∃ V, (if n = 1 then 0 else bestP (nearO S m i n)) = V := ⟨_, rfl⟩
  obtain ⟨E, hE⟩ : ∃ E : Int, (if n = 1 then 6 else 0) = E := ⟨_, rfl⟩
  rw [hV, hE]
  have HV := Lib.hid hV
  have HE := Lib.hid hE
  have HSP := Lib.hid (nearO_spec S m i n)
  clear hch h ok hV hE
  go_enter Try.func14, Try.ntmps14
  go_wp2_with (fail)
  refine (H33.out).mono ?_
  rintro e w' ⟨rfl, q, rfl⟩
  go_wp2_with (fail)
  go_loopw [6, 7] (fun bv kv wr => ∃ k q : Nat, k ≤ n ∧ kv = .int .i64 k ∧ bv = .int .i64 (bestR (nearO S m i k)) ∧ wr = w.drewN q) (fun _ kv _ => n - (intOf kv).toNat)
  case atStart => exact ⟨0, q, by omega, rfl, rfl, rfl⟩
  case round =>
    obtain ⟨k, q, hk, rfl, rfl, rfl⟩ := hrel
    by_cases hlt : k < n
    · have H50 := fun j (hj : j < n) q => refdist50 a n c m i j S (w.drewN q) HH.out.drewN OK.out hi hj
      have HBL := Lib.hid (fun b (hb : nearO S m i k = some b) => (nearO_lt hb))
      have HNE := Lib.hid (nearO_spec S m i k)
      have HSELF := Lib.hid (nearO_self (S := S) (m := m) (i := i))
      have HF := Lib.hid (nearO_first (S := S) (m := m) (i := i) (k := k))
      have HLS := Lib.hid (fun b => nearO_less (S := S) (m := m) (i := i) (k := k) (b := b))
      have HMO := Lib.hid (fun b => nearO_more (S := S) (m := m) (i := i) (k := k) (b := b))
      generalize hO : nearO S m i k = o at *
      have HO := Lib.hid hO
      clear hO
      by_cases he : k = i
      · subst he
        have HN := Lib.hid (show nearO S m k (k + 1) = o by rw [HSELF.out, HO.out])
        have e1 : ((k : Int) != k) = false := by simp
        clear H50
        go_wp2_with (fail)
        go_roundw
        case rel => exact ⟨k + 1, _, by omega, by go_num, by rw [HN.out], rfl⟩
        case measure => simp [intOf]; omega
      · have e1 : ((k : Int) != i) = true := by rw [bne_iff_ne]; omega
        cases o with
        | none =>
          have HN := Lib.hid (HF.out he rfl)
          have e2 : bestR none = -1 := rfl
          rw [e2]
          clear H50 he e2
          go_wp2_with (fail)
          go_roundw
          case rel => exact ⟨k + 1, _, by omega, by go_num, by rw [HN.out]; rfl, rfl⟩
          case measure => simp [intOf]; omega
        | some b =>
          have hbk : b < k := HBL.out b rfl
          have hbi : b ≠ i := HNE.out.2.1
          have e2 : bestR (some b) = (b : Int) := rfl
          rw [e2]
          have P1 := fun q => H50 k hlt q
          have P2 := fun q => H50 b (by omega) q
          rw [show distR S m i k = dist (row S i) (row S k) m by rw [distR, if_neg (Ne.symm he)]] at P1
          rw [show distR S m i b = dist (row S i) (row S b) m by rw [distR, if_neg (Ne.symm hbi)]] at P2
          have HLS := Lib.hid (HLS.out b he rfl)
          have HMO := Lib.hid (HMO.out b he rfl)
          have e3 : decide ((b : Int) < 0) = false := by simp
          generalize dist (row S i) (row S k) m = d1 at *
          generalize dist (row S i) (row S b) m = d2 at *
          have P1 := Lib.hid P1
          have P2 := Lib.hid P2
          clear H50 he hbi e2
          by_cases hd : d1 < d2
          · have e4 : decide (d1 < d2) = true := by simpa using hd
            have HN := Lib.hid (HLS.out hd)
            go_wp2_with (fail)
            refine (P1.out _).mono ?_
            rintro e w' ⟨rfl, q1, rfl⟩
            rw [drewN2]
            go_wp2_with (fail)
            refine (P2.out _).mono ?_
            rintro e w' ⟨rfl, q2, rfl⟩
            rw [drewN2]
            go_wp2_with (fail)
            go_roundw
            case rel => exact ⟨k + 1, _, by omega, by go_num, by rw [HN.out]; rfl, rfl⟩
            case measure => simp [intOf]; omega
          · have e4 : decide (d1 < d2) = false := by simpa using hd
            have HN := Lib.hid (HMO.out hd)
            go_wp2_with (fail)
            refine (P1.out _).mono ?_
            rintro e w' ⟨rfl, q1, rfl⟩
            rw [drewN2]
            go_wp2_with (fail)
            refine (P2.out _).mono ?_
            rintro e w' ⟨rfl, q2, rfl⟩
            rw [drewN2]
            go_wp2_with (fail)
            go_roundw
            case rel => exact ⟨k + 1, _, by omega, by go_num, by rw [HN.out]; rfl, rfl⟩
            case measure => simp [intOf]; omega
    · obtain rfl : n = k := by omega
      generalize hO : nearO S m i n = o at *
      cases o with
      | none =>
        have hs := HSP.out
        have h1 : n = 1 := by
          by_cases h0 : i = 0
          · have := hs 1
            rcases Nat.lt_or_ge 1 n with h | h
            · have := hs 1 h; omega
            · omega
          · have := hs 0 (by omega)
            omega
        have HV0 := Lib.hid (show V = 0 by rw [← HV.out, if_pos h1])
        have HE6 := Lib.hid (show E = 6 by rw [← HE.out, if_pos h1])
        have e2 : bestR none = -1 := rfl
        rw [e2]
        clear hs h1 hO e2
        go_wp2_with (fail)
        go_ret2
        exact ⟨by rw [HV0.out, HE6.out] <;> rfl, _, rfl⟩
      | some b =>
        have hs := HSP.out
        have h1 : n ≠ 1 := by
          have := hs.1
          have := hs.2.1
          omega
        have HV0 := Lib.hid (show V = (b : Int) by rw [← HV.out, if_neg h1]; rfl)
        have HE6 := Lib.hid (show E = 0 by rw [← HE.out, if_neg h1])
        have e2 : bestR (some b) = (b : Int) := rfl
        rw [e2]
        clear hs h1 hO e2
        go_wp2_with (fail)
        go_ret2
        exact ⟨by rw [HV0.out, HE6.out] <;> rfl, _, rfl⟩

theorem refnear14_no (a : Option Addr) (n c : Nat) (i : Int) (S : List (List Int)) (w : World) (h : Rows2 w a n S) (hE : chkS S ≠ 0 ∨ i < 0 ∨ (n : Int) ≤ i) (hi : I64 i) :
    Calls Try.prog 14 #[.slice a n c, .int .i64 i] w fun e w' => e = .returned (.tuple #[.int .i64 0, .int .i64 (nearE S i)]) ∧ ∃ q, w' = w.drewN q := by
  have H33 := check33 a n c S w h
  have hsm := h.small
  have HL := Lib.hid h.len
  have hi1 := hi.1
  have hi2 := hi.2
  clear hi h
  by_cases h1 : chkS S = 0
  · rw [h1] at H33
    have H33 := Lib.hid H33
    have he : nearE S i = 2 := by rw [nearE, if_neg (by simp [h1]), if_pos (by rw [HL.out]; exact hE.resolve_left (fun h => h h1))]
    rw [he]
    by_cases h2 : i < 0
    · have d1 : decide (i < 0) = true := by simpa using h2
      clear he hE h1
      go_enter Try.func14, Try.ntmps14
      go_wp2_with (fail)
      refine (H33.out).mono ?_
      rintro e w' ⟨rfl, q, rfl⟩
      go_wp2_with (fail)
      go_ret2
      exact ⟨rfl, _, rfl⟩
    · have d1 : decide (i < 0) = false := by simpa using h2
      have h3 : (n : Int) ≤ i := by rcases hE with h | h | h <;> first | exact absurd h1 h | omega
      have d2 : decide ((n : Int) ≤ i) = true := by simpa using h3
      clear he hE h1
      go_enter Try.func14, Try.ntmps14
      go_wp2_with (fail)
      refine (H33.out).mono ?_
      rintro e w' ⟨rfl, q, rfl⟩
      go_wp2_with (fail)
      go_ret2
      exact ⟨rfl, _, rfl⟩
  · have he : nearE S i = 1 := by rw [nearE, if_pos h1]
    rw [he]
    have d1 : (chkS S != 0) = true := by simpa using h1
    have H33 := Lib.hid H33
    clear he hE h1
    go_enter Try.func14, Try.ntmps14
    go_wp2_with (fail)
    refine (H33.out).mono ?_
    rintro e w' ⟨rfl, q, rfl⟩
    go_wp2_with (fail)
    go_ret2
    exact ⟨rfl, _, rfl⟩

theorem refnear14 (a : Option Addr) (n c m : Nat) (i : Int) (S : List (List Int)) (w : World) (h : Rows2 w a n S) (hi : I64 i) (hm : m = (row S 0).length) :
    Calls Try.prog 14 #[.slice a n c, .int .i64 i] w fun e w' => e = .returned (.tuple #[.int .i64 (nearV S m i), .int .i64 (nearE S i)]) ∧ ∃ q, w' = w.drewN q := by
  by_cases hE : chkS S ≠ 0 ∨ i < 0 ∨ (n : Int) ≤ i
  · have he : nearE S i ≠ 0 := fun h0 => by
      obtain ⟨g1, g2, g3, _⟩ := nearE_zero h0
      rw [h.len] at g3
      rcases hE with hh | hh | hh
      · exact hh g1
      · omega
      · omega
    rw [nearV, if_neg he]
    exact refnear14_no a n c i S w h hE hi
  · have h1 : chkS S = 0 := Classical.byContradiction fun hh => hE (.inl hh)
    obtain ⟨k, rfl⟩ : ∃ k : Nat, i = k := ⟨i.toNat, by omega⟩
    have ok := chkS_ok h1
    rw [← hm] at ok
    have := refnear14_ok a n c m k S w h h1 ok (by omega)
    by_cases hn : n = 1
    · have he : nearE S (k : Int) = 6 := by rw [nearE, if_neg (by simp [h1]), if_neg (by rw [h.len]; omega), if_pos (by rw [h.len]; exact hn)]
      rw [nearV, he, if_neg (by omega)]
      rw [if_pos hn, if_pos hn] at this
      exact this
    · have he : nearE S (k : Int) = 0 := by rw [nearE, if_neg (by simp [h1]), if_neg (by rw [h.len]; omega), if_neg (by rw [h.len]; exact hn)]
      rw [nearV, he, if_pos rfl, h.len, Int.toNat_natCast]
      rw [if_neg hn, if_neg hn] at this
      exact this

end Go.Proofs.Ytbcnbchpcbglhaa
