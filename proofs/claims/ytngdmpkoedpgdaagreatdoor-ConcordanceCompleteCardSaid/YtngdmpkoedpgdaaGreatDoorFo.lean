/-
  Small letters (charset).
-/
import Derived.Test.YtngdmpkoedpgdaaGreatDoorLw
import Derived.Test.YtngdmpkoedpgdaaGreatDoorNa
namespace Go.Ap
open Go Go.RowKit
/-- the first k letters made small -/
def foldN (s : Str) (k : Nat) : Str := (s.take k).map lowC ++ s.drop k
theorem foldN_len (s : Str) (k : Nat) : (foldN s k).length = s.length := by simp [foldN]; omega
theorem foldN_zero (s : Str) : foldN s 0 = s := by simp [foldN]
theorem foldN_end (s : Str) : foldN s s.length = foldS s := by simp [foldN, foldS]
theorem foldN_at {s : Str} {k : Nat} (h : k < s.length) : (foldN s k)[k]'(by rw [foldN_len]; exact h) = s[k] := by
  unfold foldN
  rw [List.getElem_append_right (by simp; omega)]
  simp [Nat.min_eq_left (Nat.le_of_lt h)]
theorem foldN_succ {s : Str} {k : Nat} (h : k < s.length) : (foldN s k).set k (lowC s[k]) = foldN s (k + 1) := by
  unfold foldN
  have hl : ((s.take k).map lowC).length = k := by simp; omega
  rw [List.set_append_right _ _ (by omega), hl, Nat.sub_self, List.take_succ_eq_append_getElem h, List.map_append, List.drop_eq_getElem_cons h, List.set_cons_zero]
  simp
theorem foldN_same {s : Str} {k : Nat} (h : k < s.length) (hc : lowC s[k] = s[k]) : foldN s k = foldN s (k + 1) := by
  rw [← foldN_succ h, hc]
  conv => rhs; rw [← foldN_at h]
  rw [List.set_getElem_self]
theorem low_up {c : UInt8} (h1 : 65 ≤ c.toNat) (h2 : c.toNat ≤ 90) : ((lowC c).toNat : Int) = c.toNat + 32 := by
  unfold lowC
  rw [if_pos ⟨h1, h2⟩, UInt8.toNat_add]
  have : (32 : UInt8).toNat = 32 := rfl
  omega
theorem low_no {c : UInt8} (h : ¬(65 ≤ c.toNat ∧ c.toNat ≤ 90)) : lowC c = c := by
  unfold lowC
  rw [if_neg h]
end Go.Ap
namespace Go.Proofs.YtngdmpkoedpgdaaGreatDoor
open Go.RowKit Go.Ap Go.Shelf Go.Proofs

attribute [local go_sem] Oper.semAt_some bs_toList empty_toList bs_size bs_extract

set_option maxRecDepth 100000 in
set_option maxHeartbeats 4000000 in
theorem foldP (s : Str) (w : World) (hs : s.length ≤ 4611686018427387903) :
    Calls Tryz.prog 94 #[.string (bs s)] w fun e w' => e = .returned (.string (bs (foldS s))) ∧ Lw w w' := by
  have kc := fun (w : World) => Lib.run_convert_string_bytes (P := Tryz.prog) w 9 23 5 (bs s) Tryz.underlying9 Tryz.underlying23 Tryz.underlying5
  have HNEW := Lib.hid (BytesAt.new w 5 s)
  have HBL := Lib.hid (show Below w.heap.size w (Lib.bytesWorld w 5 (bs s)) from ⟨rfl, by unfold Lib.bytesWorld World.freeze; split <;> rfl, by unfold Lib.bytesWorld World.freeze; split <;> rfl, by rw [Lib.bytesWorld_size]; omega, fun k hk => Lib.bytesWorld_at_old _ _ _ _ hk⟩)
  have HDR := Lib.hid (bytes_drawn w 5 (bs s))
  obtain ⟨W, hW⟩ : ∃ W, Lib.bytesWorld w 5 (bs s) = W := ⟨_, rfl⟩
  have kw := kc w
  rw [hW, bs_size] at kw
  rw [hW] at HNEW HBL HDR
  obtain ⟨c0, hc0⟩ : ∃ c, grownCap w s.length 0 5 = c := ⟨_, rfl⟩
  rw [hc0] at kw
  clear kc hW hc0
  obtain ⟨b, hb⟩ : ∃ b, w.heap.size = b := ⟨_, rfl⟩
  rw [hb] at kw HNEW
  have HB := Lib.hid hb
  clear hb
  go_enter Tryz.func94, Tryz.ntmps94
  go_wp2_with (fail)
  go_loopw [10] (fun kv wr => ∃ k : Nat, k ≤ s.length ∧ kv = .int .i64 k ∧ BytesAt wr b (foldN s k) ∧ Below w.heap.size w wr ∧ w.drawn ≤ wr.drawn) (fun kv _ => s.length - (intOf kv).toNat)
  case atStart => exact ⟨0, Nat.zero_le _, rfl, by rw [foldN_zero]; exact HNEW.out, HBL.out, HDR.out⟩
  case round =>
    obtain ⟨wi, rfl⟩ : ∃ wi : World, wi = wr := ⟨_, rfl⟩
    obtain ⟨k, hk, rfl, ha, hbb, hd⟩ := hrel
    have HA := Lib.hid ha
    have HBB := Lib.hid hbb
    have HD := Lib.hid hd
    by_cases hlt : k < s.length
    · obtain ⟨c1, c2⟩ := ha k (by rw [foldN_len]; exact hlt)
      rw [foldN_at hlt] at c1
      have HSU := Lib.hid (foldN_succ hlt)
      have HSA := Lib.hid (foldN_same hlt)
      obtain ⟨c, hc⟩ : ∃ c, s[k] = c := ⟨_, rfl⟩
      rw [hc] at c1 HSU HSA
      have HC0 := Lib.hid hc
      have i1 : (k : Int) < (s.length : Int) := by omega
      have hlo := c.toNat_lt
      clear ha hbb hd hc
      by_cases h1 : 65 ≤ c.toNat
      · by_cases h2 : c.toNat ≤ 90
        · have d1 : (65 : Int) ≤ (c.toNat : Int) := by omega
          have d2 : (c.toNat : Int) ≤ 90 := by omega
          have HW := Lib.hid (low_up h1 h2)
          clear h1 h2
          go_wp2_with (fail)
          rw [show (c.toNat : Int) - 65 + 97 = ((lowC c).toNat : Int) by rw [HW.out]; omega]
          exact ⟨⟨k + 1, by omega, by simp, by rw [← HSU.out]; exact HA.out.set k _, HBB.out.setCell (p := ⟨b, k, none⟩) (by show w.heap.size ≤ b; rw [HB.out]; exact Nat.le_refl _) _, HD.out⟩, by simp [intOf]; omega⟩
        · have d1 : (65 : Int) ≤ (c.toNat : Int) := by omega
          have d2 : ¬(c.toNat : Int) ≤ 90 := by omega
          have HSN := Lib.hid (HSA.out (low_no (fun h => h2 h.2)))
          clear h1 h2
          go_wp2_with (fail)
          exact ⟨⟨k + 1, by omega, by simp, by rw [← HSN.out]; exact HA.out, HBB.out, HD.out⟩, by simp [intOf]; omega⟩
      · have d1 : ¬(65 : Int) ≤ (c.toNat : Int) := by omega
        have HSN := Lib.hid (HSA.out (low_no (fun h => h1 h.1)))
        clear h1
        go_wp2_with (fail)
        exact ⟨⟨k + 1, by omega, by simp, by rw [← HSN.out]; exact HA.out, HBB.out, HD.out⟩, by simp [intOf]; omega⟩
    · obtain rfl : s.length = k := by omega
      rw [foldN_end] at ha
      have hcv := ha.conv (P := Tryz.prog) (src := 23) (dst := 9) (e := 5) c0 Tryz.underlying23 Tryz.underlying5 Tryz.underlying9
      rw [show (foldS s).length = s.length by simp [foldS]] at hcv
      clear ha hbb hd
      go_wp2_with (fail)
      go_ret
      exact ⟨rfl, lw_of HBB.out HD.out⟩
end Go.Proofs.YtngdmpkoedpgdaaGreatDoor
