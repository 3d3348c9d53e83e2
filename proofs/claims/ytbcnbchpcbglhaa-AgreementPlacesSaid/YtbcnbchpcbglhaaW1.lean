import Derived.Test.YtbcnbchpcbglhaaRows
import Derived.Test.YtbcnbchpcbglhaaPlain
namespace Go.Proofs.Ytbcnbchpcbglhaa
open Go.RowKit Go.Ap

set_option maxHeartbeats 400000 in
theorem idxf41 {α : Type} {R : World → Value → α → Prop} (p : α → Bool) (a : Option Addr) (n c : Nat) (xs : List α) (g : Nat) (cap : Array Value) (w : World) (h : Sl R w a n xs)
    (eg : ∀ args w, (callFunc g args).run Try.prog w = .ok (.enter g args) w)
    (hp : ∀ q x v, x ∈ xs → R w v x → Calls Try.prog g (#[v] ++ cap) (w.drewN q) fun e w' => e = .returned (.bool (p x)) ∧ ∃ r, w' = (w.drewN q).drewN r) :
    Calls Try.prog 41 #[.slice a n c, .func (.func g) #[] cap] w fun e w' => e = .returned (.int .i64 (idxF p xs)) ∧ ∃ q, w' = w.drewN q := by
  have hlen := h.len
  have hsm := h.small
  have HL := Lib.hid hlen
  have HP := Lib.hid hp
  clear hlen hp
  go_enter Try.func41, Try.ntmps41
  go_wp2_with (fail)
  go_loopw [8] (fun i wr => ∃ (k q : Nat), k ≤ n ∧ i = .int .i64 k ∧ wr = w.drewN q ∧ idxG (pAt p xs) (n - k) k = idxF p xs) (fun i _ => n - (intOf i).toNat)
  case atStart => exact ⟨0, 0, by omega, rfl, rfl, by unfold idxF; rw [HL.out]; rfl⟩
  case round =>
    obtain ⟨k, q, hk, rfl, rfl, hch⟩ := hrel
    have HC := Lib.hid hch
    clear hch
    by_cases hlt : k < n
    · obtain ⟨x, b, off, v, hx, rfl, hc, hr⟩ := h.at hlt
      obtain ⟨f, hf⟩ : ∃ f, n - k = f + 1 := ⟨n - k - 1, by omega⟩
      have HF := Lib.hid hf
      have hpa : pAt p xs k = p x := by simp [pAt, hx]
      have HPA := Lib.hid hpa
      have HX := Lib.hid (List.mem_of_getElem? hx)
      clear hf hx hpa
      go_wp2_with (fail)
      refine (HP.out q x v HX.out hr).mono ?_
      rintro e w' ⟨rfl, r, rfl⟩
      cases hpx : p x
      all_goals
        have HPX := Lib.hid hpx
        clear hpx
        go_wp2_with (fail)
      · exact ⟨⟨k + 1, _, by omega, by go_num, rfl, by rw [← HC.out, HF.out, idxG_no (HPA.out.trans HPX.out), show n - (k + 1) = f by have := HF.out; omega]⟩, by simp [intOf]; omega⟩
      · go_ret
        exact ⟨ret_i (by rw [← HC.out, HF.out, idxG_yes (HPA.out.trans HPX.out)]), _, rfl⟩
    · go_wp2_with (fail)
      go_ret
      exact ⟨ret_i (by rw [← HC.out, show n - k = 0 by omega, idxG]), _, rfl⟩


set_option maxHeartbeats 400000 in
theorem contf25 {α : Type} {R : World → Value → α → Prop} (p : α → Bool) (a : Option Addr) (n c : Nat) (xs : List α) (g : Nat) (cap : Array Value) (w : World) (h : Sl R w a n xs)
    (eg : ∀ args w, (callFunc g args).run Try.prog w = .ok (.enter g args) w)
    (hp : ∀ q x v, x ∈ xs → R w v x → Calls Try.prog g (#[v] ++ cap) (w.drewN q) fun e w' => e = .returned (.bool (p x)) ∧ ∃ r, w' = (w.drewN q).drewN r) :
    Calls Try.prog 25 #[.slice a n c, .func (.func g) #[] cap] w fun e w' => e = .returned (.bool (xs.any p)) ∧ ∃ q, w' = w.drewN q := by
  have H := Lib.hid (idxf41 p a n c xs g cap w h eg hp)
  clear hp eg
  go_enter Try.func25, Try.ntmps25
  go_wp2_with (fail)
  refine (H.out).mono ?_
  rintro e w' ⟨rfl, q, rfl⟩
  go_wp2_with (fail)
  go_ret
  exact ⟨ret_b (idxF_any p xs), _, rfl⟩

set_option maxHeartbeats 400000 in
theorem idxf58 {α : Type} {R : World → Value → α → Prop} (p : α → Bool) (a : Option Addr) (n c : Nat) (xs : List α) (g : Nat) (cap : Array Value) (w : World) (h : Sl R w a n xs)
    (eg : ∀ args w, (callFunc g args).run Try.prog w = .ok (.enter g args) w)
    (hp : ∀ q x v, x ∈ xs → R w v x → Calls Try.prog g (#[v] ++ cap) (w.drewN q) fun e w' => e = .returned (.bool (p x)) ∧ ∃ r, w' = (w.drewN q).drewN r) :
    Calls Try.prog 58 #[.slice a n c, .func (.func g) #[] cap] w fun e w' => e = .returned (.int .i64 (idxF p xs)) ∧ ∃ q, w' = w.drewN q := by
  have hlen := h.len
  have hsm := h.small
  have HL := Lib.hid hlen
  have HP := Lib.hid hp
  clear hlen hp
  go_enter Try.func58, Try.ntmps58
  go_wp2_with (fail)
  go_loopw [8] (fun i wr => ∃ (k q : Nat), k ≤ n ∧ i = .int .i64 k ∧ wr = w.drewN q ∧ idxG (pAt p xs) (n - k) k = idxF p xs) (fun i _ => n - (intOf i).toNat)
  case atStart => exact ⟨0, 0, by omega, rfl, rfl, by unfold idxF; rw [HL.out]; rfl⟩
  case round =>
    obtain ⟨k, q, hk, rfl, rfl, hch⟩ := hrel
    have HC := Lib.hid hch
    clear hch
    by_cases hlt : k < n
    · obtain ⟨x, b, off, v, hx, rfl, hc, hr⟩ := h.at hlt
      obtain ⟨f, hf⟩ : ∃ f, n - k = f + 1 := ⟨n - k - 1, by omega⟩
      have HF := Lib.hid hf
      have hpa : pAt p xs k = p x := by simp [pAt, hx]
      have HPA := Lib.hid hpa
      have HX := Lib.hid (List.mem_of_getElem? hx)
      clear hf hx hpa
      go_wp2_with (fail)
      refine (HP.out q x v HX.out hr).mono ?_
      rintro e w' ⟨rfl, r, rfl⟩
      cases hpx : p x
      all_goals
        have HPX := Lib.hid hpx
        clear hpx
        go_wp2_with (fail)
      · exact ⟨⟨k + 1, _, by omega, by go_num, rfl, by rw [← HC.out, HF.out, idxG_no (HPA.out.trans HPX.out), show n - (k + 1) = f by have := HF.out; omega]⟩, by simp [intOf]; omega⟩
      · go_ret
        exact ⟨ret_i (by rw [← HC.out, HF.out, idxG_yes (HPA.out.trans HPX.out)]), _, rfl⟩
    · go_wp2_with (fail)
      go_ret
      exact ⟨ret_i (by rw [← HC.out, show n - k = 0 by omega, idxG]), _, rfl⟩


set_option maxHeartbeats 400000 in
theorem contf36 {α : Type} {R : World → Value → α → Prop} (p : α → Bool) (a : Option Addr) (n c : Nat) (xs : List α) (g : Nat) (cap : Array Value) (w : World) (h : Sl R w a n xs)
    (eg : ∀ args w, (callFunc g args).run Try.prog w = .ok (.enter g args) w)
    (hp : ∀ q x v, x ∈ xs → R w v x → Calls Try.prog g (#[v] ++ cap) (w.drewN q) fun e w' => e = .returned (.bool (p x)) ∧ ∃ r, w' = (w.drewN q).drewN r) :
    Calls Try.prog 36 #[.slice a n c, .func (.func g) #[] cap] w fun e w' => e = .returned (.bool (xs.any p)) ∧ ∃ q, w' = w.drewN q := by
  have H := Lib.hid (idxf58 p a n c xs g cap w h eg hp)
  clear hp eg
  go_enter Try.func36, Try.ntmps36
  go_wp2_with (fail)
  refine (H.out).mono ?_
  rintro e w' ⟨rfl, q, rfl⟩
  go_wp2_with (fail)
  go_ret
  exact ⟨ret_b (idxF_any p xs), _, rfl⟩

end Go.Proofs.Ytbcnbchpcbglhaa
