/-
  Searches in lists of ints and of strings by a function.
-/
import Derived.Test.YtngdmpkoedpgdaaGreatDoorIp
import Derived.Test.YtngdmpkoedpgdaaGreatDoorDt
namespace Go.Proofs.YtngdmpkoedpgdaaGreatDoor
open Go.RowKit Go.Ap Go.Shelf Go.Proofs

attribute [local go_sem] Oper.semAt_some bs_toList empty_toList bs_size bs_extract

set_option maxHeartbeats 400000 in
theorem idxInt (p : Int → Bool) (a : Option Addr) (n c : Nat) (xs : List Int) (g : Nat) (cap : Array Value) (w : World) (h : Ints w a n xs)
    (eg : ∀ args w, (callFunc g args).run Tryz.prog w = .ok (.enter g args) w)
    (hp : ∀ q x, x ∈ xs → Calls Tryz.prog g (#[.int .i64 x] ++ cap) (w.drewN q) fun e w' => e = .returned (.bool (p x)) ∧ ∃ r, w' = (w.drewN q).drewN r) :
    Calls Tryz.prog 120 #[.slice a n c, .func (.func g) #[] cap] w fun e w' => e = .returned (.int .i64 (idxF p xs)) ∧ ∃ q, w' = w.drewN q := by
  have hlen := h.len
  have hsm := h.small
  have HL := Lib.hid hlen
  have HP := Lib.hid hp
  clear hlen hp
  go_enter Tryz.func120, Tryz.ntmps120
  go_wp2_with (fail)
  go_loopw [8] (fun i wr => ∃ (k q : Nat), k ≤ n ∧ i = .int .i64 k ∧ wr = w.drewN q ∧ idxG (pAt p xs) (n - k) k = idxF p xs) (fun i _ => n - (intOf i).toNat)
  case atStart => exact ⟨0, 0, by omega, rfl, rfl, by unfold idxF; rw [HL.out]; rfl⟩
  case round =>
    obtain ⟨k, q, hk, rfl, rfl, hch⟩ := hrel
    have HC := Lib.hid hch
    clear hch
    by_cases hlt : k < n
    · obtain ⟨x, b, off, v, hx, rfl, hc, hr, _⟩ := Sl.at h hlt
      subst hr
      obtain ⟨f, hf⟩ : ∃ f, n - k = f + 1 := ⟨n - k - 1, by omega⟩
      have HF := Lib.hid hf
      have hpa : pAt p xs k = p x := by simp [pAt, hx]
      have HPA := Lib.hid hpa
      have HX := Lib.hid (List.mem_of_getElem? hx)
      clear hf hx hpa
      go_wp2_with (fail)
      refine (HP.out q x HX.out).mono ?_
      rintro e w' ⟨rfl, r, rfl⟩
      cases hpx : p x
      all_goals
        have HPX := Lib.hid hpx
        clear hpx
        go_wp2_with (fail)
      · exact ⟨⟨k + 1, _, by omega, by go_num, rfl, by rw [← HC.out, HF.out, idxG_no (HPA.out.trans HPX.out), show n - (k + 1) = f by have := HF.out; omega]⟩, by simp [intOf]; omega⟩
      · go_ret
        exact ⟨ret_i (by rw [← HC.out, HF.out, idxG_yes (HPA.out.trans HPX.out)]), _, rfl⟩
    · go_wp2_with (fail)
      go_ret
      exact ⟨ret_i (by rw [← HC.out, show n - k = 0 by omega, idxG]), _, rfl⟩
set_option maxHeartbeats 400000 in
theorem contInt (p : Int → Bool) (a : Option Addr) (n c : Nat) (xs : List Int) (g : Nat) (cap : Array Value) (w : World) (h : Ints w a n xs)
    (eg : ∀ args w, (callFunc g args).run Tryz.prog w = .ok (.enter g args) w)
    (hp : ∀ q x, x ∈ xs → Calls Tryz.prog g (#[.int .i64 x] ++ cap) (w.drewN q) fun e w' => e = .returned (.bool (p x)) ∧ ∃ r, w' = (w.drewN q).drewN r) :
    Calls Tryz.prog 61 #[.slice a n c, .func (.func g) #[] cap] w fun e w' => e = .returned (.bool (xs.any p)) ∧ ∃ q, w' = w.drewN q := by
  have H := Lib.hid (idxInt p a n c xs g cap w h eg hp)
  clear hp eg
  go_enter Tryz.func61, Tryz.ntmps61
  go_wp2_with (fail)
  refine (H.out).mono ?_
  rintro e w' ⟨rfl, q, rfl⟩
  go_wp2_with (fail)
  go_ret
  exact ⟨ret_b (idxF_any p xs), _, rfl⟩
set_option maxHeartbeats 1000000 in
theorem idxStr (p : Str → Bool) (a : Option Addr) (n c : Nat) (xs : List Str) (g : Nat) (cap : Array Value) (w : World) (h : StrsL w a n xs)
    (eg : ∀ args w, (callFunc g args).run Tryz.prog w = .ok (.enter g args) w)
    (hp : ∀ u ∈ xs, ∀ W, Below w.heap.size w W → Calls Tryz.prog g (#[.string (bs u)] ++ cap) W fun e w' => e = .returned (.bool (p u)) ∧ Below W.heap.size W w') :
    Calls Tryz.prog 118 #[.slice a n c, .func (.func g) #[] cap] w fun e w' => e = .returned (.int .i64 (idxF p xs)) ∧ Below w.heap.size w w' := by
  have hlen := h.len
  have hsm := h.small
  have HL := Lib.hid hlen
  have HP := Lib.hid hp
  have HX := Lib.hid h
  clear hlen hp h
  go_enter Tryz.func118, Tryz.ntmps118
  go_wp2_with (fail)
  go_loopw [8] (fun i wr => ∃ k : Nat, k ≤ n ∧ i = .int .i64 k ∧ Below w.heap.size w wr ∧ idxG (pAt p xs) (n - k) k = idxF p xs) (fun i _ => n - (intOf i).toNat)
  case atStart => exact ⟨0, by omega, rfl, Below.refl _ _, by unfold idxF; rw [HL.out]; rfl⟩
  case round =>
    obtain ⟨k, hk, rfl, hb, hch⟩ := hrel
    have HC := Lib.hid hch
    have HB := Lib.hid hb
    clear hch
    by_cases hlt : k < n
    · obtain ⟨t, b, off, v, ht, rfl, hcv, rfl, _⟩ := Sl.at (HX.out.mono (Nat.le_refl _) hb) hlt
      obtain ⟨f, hf⟩ : ∃ f, n - k = f + 1 := ⟨n - k - 1, by omega⟩
      have HF := Lib.hid hf
      have HPA := Lib.hid (show pAt p xs k = p t by simp [pAt, ht])
      have HCALL := Lib.hid (HP.out t (List.mem_of_getElem? ht) wr hb)
      unfold sv at hcv
      clear hf ht hb
      go_wp2_with (fail)
      refine HCALL.out.mono ?_
      rintro e w' ⟨rfl, hb2⟩
      have HB2 := Lib.hid (bstep HB.out hb2)
      clear hb2
      cases hpx : p t
      all_goals
        have HPX := Lib.hid hpx
        clear hpx
        go_wp2_with (fail)
      · exact ⟨⟨k + 1, by omega, by go_num, HB2.out, by rw [← HC.out, HF.out, idxG_no (HPA.out.trans HPX.out), show n - (k + 1) = f by have := HF.out; omega]⟩, by simp [intOf]; omega⟩
      · go_ret
        exact ⟨ret_i (by rw [← HC.out, HF.out, idxG_yes (HPA.out.trans HPX.out)]), HB2.out⟩
    · go_wp2_with (fail)
      go_ret
      exact ⟨ret_i (by rw [← HC.out, show n - k = 0 by omega, idxG]), HB.out⟩
set_option maxHeartbeats 1000000 in
theorem contStr (p : Str → Bool) (a : Option Addr) (n c : Nat) (xs : List Str) (g : Nat) (cap : Array Value) (w : World) (h : StrsL w a n xs)
    (eg : ∀ args w, (callFunc g args).run Tryz.prog w = .ok (.enter g args) w)
    (hp : ∀ u ∈ xs, ∀ W, Below w.heap.size w W → Calls Tryz.prog g (#[.string (bs u)] ++ cap) W fun e w' => e = .returned (.bool (p u)) ∧ Below W.heap.size W w') :
    Calls Tryz.prog 58 #[.slice a n c, .func (.func g) #[] cap] w fun e w' => e = .returned (.bool (xs.any p)) ∧ Below w.heap.size w w' := by
  have H := Lib.hid (idxStr p a n c xs g cap w h eg hp)
  clear hp eg h
  go_enter Tryz.func58, Tryz.ntmps58
  go_wp2_with (fail)
  refine H.out.mono ?_
  rintro e w1 ⟨rfl, hb⟩
  go_wp2_with (fail)
  go_ret
  exact ⟨ret_b (idxF_any p xs), hb⟩
/-- a line -/
theorem checkLine63 (x : Int) (w : World) : Calls Tryz.prog 63 #[.int .i64 x] w fun e w' => e = .returned (.bool (lineOk x)) ∧ w = w' := by
  have HE := Lib.hid (show lineOk x = (decide (1 ≤ x) && decide (x ≤ 4096)) from rfl)
  rw [HE.out]
  by_cases h1 : 1 ≤ x
  · have d1 : decide (1 ≤ x) = true := by rw [decide_eq_true_eq]; exact h1
    by_cases h2 : x ≤ 4096
    · have d2 : decide (x ≤ 4096) = true := by rw [decide_eq_true_eq]; exact h2
      clear h1 h2
      go_enter Tryz.func63, Tryz.ntmps63
      go_wp2_with (fail)
      go_ret
      exact ⟨by simp [d1, d2], rfl⟩
    · have d2 : decide (x ≤ 4096) = false := by rw [decide_eq_false_iff_not]; exact h2
      clear h1 h2
      go_enter Tryz.func63, Tryz.ntmps63
      go_wp2_with (fail)
      go_ret
      exact ⟨by simp [d1, d2], rfl⟩
  · have d1 : decide (1 ≤ x) = false := by rw [decide_eq_false_iff_not]; exact h1
    clear h1
    go_enter Tryz.func63, Tryz.ntmps63
    go_wp2_with (fail)
    go_ret
    exact ⟨by simp [d1], rfl⟩
theorem words62 (x : Int) (w : World) : Calls Tryz.prog 62 #[.int .i64 x] w fun e w' => e = .returned (.bool (!lineOk x)) ∧ ∃ q, w' = w.drewN q := by
  have HC := Lib.hid (checkLine63 x w)
  generalize lineOk x = v at *
  go_enter Tryz.func62, Tryz.ntmps62
  go_wp2_with (fail)
  refine HC.out.mono ?_
  rintro e w' ⟨rfl, rfl⟩
  go_wp2_with (fail)
  go_ret
  exact ⟨rfl, 0, rfl⟩
theorem badLines (a : Option Addr) (n c : Nat) (xs : List Int) (w : World) (h : Ints w a n xs) :
    Calls Tryz.prog 61 #[.slice a n c, .func (.func 62) #[] #[]] w fun e w' => e = .returned (.bool (xs.any fun x => !lineOk x)) ∧ Below w.heap.size w w' := by
  refine (contInt (fun x => !lineOk x) a n c xs 62 #[] w h (enters_of Tryz.func62 (by kernel_rfl) rfl) (fun q x _ => words62 x _)).mono ?_
  rintro e w' ⟨he, q, rfl⟩
  exact ⟨he, bdrewN w q⟩
end Go.Proofs.YtngdmpkoedpgdaaGreatDoor
