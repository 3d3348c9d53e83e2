/-
  The reference's step: the walk.
-/
import Derived.Test.YtamdonlncfmmmaaW8
namespace Go.Proofs.Ytamdonlncfmmmaa
open Go.RowKit Go.Ap Go.Shelf Go.Proofs

attribute [local go_sem] Oper.semAt_some bs_toList empty_toList bs_size ext_drop ext_take bs_append

theorem step_yes {rs : List Rule} {s z : Str} {i k : Nat} {r : Rule} (h0 : upto rs s i k = []) (hi : i < s.length) (hr : rs[k]? = some r) (ha : appl s i r = some z) : stepL rs s = (z, true) := by
  have h1 := upto_pre (rs := rs) (k := k + 1) hi
  rw [upto_yes hr ha, h0] at h1
  obtain ⟨t, ht⟩ := h1
  rw [stepL, ← ht]
  rfl
theorem step_none {rs : List Rule} {s : Str} (h : upto rs s s.length 0 = []) : stepL rs s = (s, false) := by rw [stepL, ← upto_all, h]

theorem ret_step {p : Str × Bool} {x : Str} {b : Bool} (h : p = (x, b)) : Ending.returned (.tuple #[.string (bs x), .bool b]) = .returned (.tuple #[.string (bs p.1), .bool p.2]) := by rw [h]

set_option maxRecDepth 100000 in
set_option maxHeartbeats 2000000 in
theorem refstep44 (a : Option Addr) (n c : Nat) (rs : List Rule) (s : Str) (w : World) (h : Rls w a n rs) (hs : s.length ≤ 4611686018427387903) :
    Calls Try.prog 44 #[.slice a n c, .string (bs s)] w fun e W' => e = .returned (.tuple #[.string (bs (stepL rs s).1), .bool (stepL rs s).2]) ∧ Below w.heap.size w W' := by
  have hsm := h.small
  have HH := Lib.hid h
  have HL := Lib.hid h.len
  clear h
  go_enter Try.func44, Try.ntmps44
  go_wp2_with (fail)
  go_loop [6, 7] (fun iv _ => ∃ i : Nat, i ≤ s.length ∧ iv = .int .i64 i ∧ upto rs s i 0 = []) (fun iv _ => s.length - (intOf iv).toNat)
  case atStart => exact ⟨0, Nat.zero_le _, rfl, upto_zero⟩
  case round =>
    obtain ⟨i, hi, rfl, hup⟩ := hrel
    have HU := Lib.hid hup
    clear hup
    by_cases hlt : i < s.length
    · go_wp2_with (fail)
      go_loop [7] (fun kv => ∃ k : Nat, k ≤ n ∧ kv = .int .i64 k ∧ upto rs s i k = []) (fun kv => n - (intOf kv).toNat)
      case atStart => exact ⟨0, Nat.zero_le _, rfl, HU.out⟩
      case round =>
        obtain ⟨k, hk, rfl, huk⟩ := hrel
        have HK := Lib.hid huk
        clear huk
        by_cases hkn : k < n
        · obtain ⟨⟨x, y⟩, b, off, hxx, rfl, hc1, hc2, hl1, hl2⟩ := HH.out.at hkn
          simp only at hc1 hc2 hl1 hl2
          have HXX := Lib.hid hxx
          have HA := Lib.hid (at57 s x i w hs hl1 hi)
          clear hxx
          cases hp : x.isPrefixOf (s.drop i)
          · have HAO := HA.out
            rw [hp] at HAO
            have HA2 := Lib.hid HAO
            have HP := Lib.hid (upto_no HXX.out (show appl s i (x, y) = none by rw [appl, if_neg (by simp [hp])]))
            clear hp HAO HA
            go_wp2_with (fail)
            refine HA2.out.mono ?_
            rintro e w1 ⟨rfl, rfl⟩
            go_wp2_with (fail)
            go_round
            case rel => exact ⟨k + 1, by omega, by go_num, by rw [HP.out]; exact HK.out⟩
            case measure => simp [intOf]; omega
          · have HAO := HA.out
            rw [hp] at HAO
            have HA2 := Lib.hid HAO
            have HR := Lib.hid (replace58 s x y i w hs hl1 hl2 (pre_len hp hi))
            have HP := Lib.hid (step_yes HK.out hlt HXX.out (show appl s i (x, y) = some (s.take i ++ (y ++ s.drop (i + x.length))) by rw [appl, if_pos hp, List.append_assoc]))
            clear hp HAO HA
            go_wp2_with (fail)
            refine HA2.out.mono ?_
            rintro e w1 ⟨rfl, rfl⟩
            go_wp2_with (fail)
            refine HR.out.mono ?_
            rintro e w2 ⟨rfl, hb2⟩
            go_wp2_with (fail)
            go_ret2
            exact ⟨ret_step HP.out, hb2⟩
        · obtain rfl : n = k := by omega
          go_wp2_with (fail)
          go_round
          case rel => exact ⟨i + 1, by omega, by go_num, by rw [← upto_row, HL.out]; exact HK.out⟩
          case measure => simp [intOf]; omega
    · obtain rfl : i = s.length := by omega
      have HP := Lib.hid (step_none HU.out)
      go_wp2_with (fail)
      go_ret2
      exact ⟨ret_step HP.out, Below.refl _ _⟩

end Go.Proofs.Ytamdonlncfmmmaa
