/-
  slices.IndexFunc and slices.ContainsFunc at tokens and at rows of ints; a token that is not valid.
-/
import Derived.Test.YtbahddjbncinbaaGreatDoorTk
import Derived.Test.YtbahddjbncinbaaGreatDoorOi
namespace Go.Proofs.YtbahddjbncinbaaGreatDoor
open Go.RowKit Go.Ap Go.Shelf Go.Proofs

attribute [local go_sem] Oper.semAt_some bs_toList empty_toList bs_size bs_extract
set_option maxHeartbeats 1000000 in
theorem idxTok (p : Tok → Bool) (a : Option Addr) (n c : Nat) (xs : List Tok) (g : Nat) (cap : Array Value) (w : World) (h : Toks w a n xs)
    (eg : ∀ args w, (callFunc g args).run Tryz.prog w = .ok (.enter g args) w)
    (hp : ∀ t ∈ xs, TokS t → ∀ W, Below w.heap.size w W → Calls Tryz.prog g (#[tokV t] ++ cap) W fun e w' => e = .returned (.bool (p t)) ∧ Below W.heap.size W w') :
    Calls Tryz.prog 82 #[.slice a n c, .func (.func g) #[] cap] w fun e w' => e = .returned (.int .i64 (idxF p xs)) ∧ Below w.heap.size w w' := by
  have hlen := h.len
  have hsm := h.small
  have HL := Lib.hid hlen
  have HP := Lib.hid hp
  have HX := Lib.hid h
  clear hlen hp h
  unfold tokV at HP
  go_enter Tryz.func82, Tryz.ntmps82
  go_wp2_with (fail)
  go_loopw [8] (fun i wr => ∃ k : Nat, k ≤ n ∧ i = .int .i64 k ∧ Below w.heap.size w wr ∧ idxG (pAt p xs) (n - k) k = idxF p xs) (fun i _ => n - (intOf i).toNat)
  case atStart => exact ⟨0, by omega, rfl, Below.refl _ _, by unfold idxF; rw [HL.out]; rfl⟩
  case round =>
    obtain ⟨k, hk, rfl, hb, hch⟩ := hrel
    have HC := Lib.hid hch
    have HB := Lib.hid hb
    clear hch
    by_cases hlt : k < n
    · obtain ⟨t, b, off, ht, rfl, ⟨⟨c0, c1, c2, c3, c4, c5⟩, hts⟩⟩ := (HX.out.mono (Nat.le_refl _) hb).at hlt
      obtain ⟨f, hf⟩ : ∃ f, n - k = f + 1 := ⟨n - k - 1, by omega⟩
      have HF := Lib.hid hf
      have HPA := Lib.hid (show pAt p xs k = p t by simp [pAt, ht])
      have HCALL := Lib.hid (HP.out t (List.mem_of_getElem? ht) hts wr hb)
      clear hf ht hts hb
      go_wp2_with (fail)
      refine HCALL.out.mono ?_
      rintro e w' ⟨rfl, hb2⟩
      have HB2 := Lib.hid (bstep HB.out hb2)
      clear hb2
      cases hpx : p t
      all_goals
        have HPX := Lib.hid hpx
        clear hpx
        go_wp2_with (fail)
      · exact ⟨⟨k + 1, by omega, by go_num, HB2.out, by rw [← HC.out, HF.out, idxG_no (HPA.out.trans HPX.out), show n - (k + 1) = f by have := HF.out; omega]⟩, by simp [intOf]; omega⟩
      · go_ret
        exact ⟨ret_i (by rw [← HC.out, HF.out, idxG_yes (HPA.out.trans HPX.out)]), HB2.out⟩
    · go_wp2_with (fail)
      go_ret
      exact ⟨ret_i (by rw [← HC.out, show n - k = 0 by omega, idxG]), HB.out⟩
theorem contTok (p : Tok → Bool) (a : Option Addr) (n c : Nat) (xs : List Tok) (g : Nat) (cap : Array Value) (w : World) (h : Toks w a n xs)
    (eg : ∀ args w, (callFunc g args).run Tryz.prog w = .ok (.enter g args) w)
    (hp : ∀ t ∈ xs, TokS t → ∀ W, Below w.heap.size w W → Calls Tryz.prog g (#[tokV t] ++ cap) W fun e w' => e = .returned (.bool (p t)) ∧ Below W.heap.size W w') :
    Calls Tryz.prog 59 #[.slice a n c, .func (.func g) #[] cap] w fun e w' => e = .returned (.bool (xs.any p)) ∧ Below w.heap.size w w' := by
  have H := Lib.hid (idxTok p a n c xs g cap w h eg hp)
  clear hp eg h
  go_enter Tryz.func59, Tryz.ntmps59
  go_wp2_with (fail)
  refine (H.out).mono ?_
  rintro e w' ⟨rfl, hb⟩
  go_wp2_with (fail)
  go_ret
  exact ⟨ret_b (idxF_any p xs), hb⟩
set_option maxHeartbeats 1000000 in
theorem badTok (t : Tok) (w : World) (hs : TokS t) (hv : EV w) : Calls Tryz.prog 72 #[tokV t] w fun e w' => e = .returned (.bool (decide (tokC t ≠ 0))) ∧ Below w.heap.size w w' := by
  have HT := Lib.hid (fun W hb => tokP t W hs (hv.mono (Nat.le_refl _) hb))
  have HE := Lib.hid (show (tokC t != 0) = decide (tokC t ≠ 0) by rw [Bool.eq_iff_iff]; simp)
  generalize tokC t = k at *
  unfold tokV at HT ⊢
  go_enter Tryz.func72, Tryz.ntmps72
  go_wp2_with (fail)
  refine (HT.out _ (balloc _ _)).mono ?_
  rintro e w1 ⟨rfl, hb⟩
  go_wp2_with (fail)
  go_ret
  exact ⟨ret_b HE.out, bstep (balloc _ _) hb⟩
set_option maxHeartbeats 1000000 in
theorem idxRows {α : Type} {R : World → Value → α → Prop} (p : α → Bool) (a : Option Addr) (n c : Nat) (xs : List α) (g : Nat) (cap : Array Value) (w : World) (h : Sl R w a n xs)
    (eg : ∀ args w, (callFunc g args).run Tryz.prog w = .ok (.enter g args) w)
    (hR : ∀ W v x, Below w.heap.size w W → R w v x → R W v x)
    (hp : ∀ x v W, x ∈ xs → Below w.heap.size w W → R W v x → Calls Tryz.prog g (#[v] ++ cap) W fun e w' => e = .returned (.bool (p x)) ∧ Below W.heap.size W w') :
    Calls Tryz.prog 63 #[.slice a n c, .func (.func g) #[] cap] w fun e w' => e = .returned (.int .i64 (idxF p xs)) ∧ Below w.heap.size w w' := by
  have hlen := h.len
  have hsm := h.small
  have HL := Lib.hid hlen
  have HP := Lib.hid hp
  have HX := Lib.hid h
  have HR := Lib.hid hR
  clear hlen hp h hR
  go_enter Tryz.func63, Tryz.ntmps63
  go_wp2_with (fail)
  go_loopw [8] (fun i wr => ∃ k : Nat, k ≤ n ∧ i = .int .i64 k ∧ Below w.heap.size w wr ∧ idxG (pAt p xs) (n - k) k = idxF p xs) (fun i _ => n - (intOf i).toNat)
  case atStart => exact ⟨0, by omega, rfl, Below.refl _ _, by unfold idxF; rw [HL.out]; rfl⟩
  case round =>
    obtain ⟨k, hk, rfl, hb, hch⟩ := hrel
    have HB := Lib.hid hb
    have HC := Lib.hid hch
    clear hch
    by_cases hlt : k < n
    · obtain ⟨x, b, off, v, hx, rfl, hc0, hr⟩ := HX.out.at hlt
      have hc := cell_keep hb hc0
      have hr := HR.out wr v x hb hr
      obtain ⟨f, hf⟩ : ∃ f, n - k = f + 1 := ⟨n - k - 1, by omega⟩
      have HF := Lib.hid hf
      have hpa : pAt p xs k = p x := by simp [pAt, hx]
      have HPA := Lib.hid hpa
      have HCALL := Lib.hid (HP.out x v wr (List.mem_of_getElem? hx) hb hr)
      clear hf hx hpa hb hc0
      go_wp2_with (fail)
      refine HCALL.out.mono ?_
      rintro e w' ⟨rfl, hb2⟩
      have HB2 := Lib.hid (bstep HB.out hb2)
      clear hb2
      cases hpx : p x
      all_goals
        have HPX := Lib.hid hpx
        clear hpx
        go_wp2_with (fail)
      · exact ⟨⟨k + 1, by omega, by go_num, HB2.out, by rw [← HC.out, HF.out, idxG_no (HPA.out.trans HPX.out), show n - (k + 1) = f by have := HF.out; omega]⟩, by simp [intOf]; omega⟩
      · go_ret
        exact ⟨ret_i (by rw [← HC.out, HF.out, idxG_yes (HPA.out.trans HPX.out)]), HB2.out⟩
    · go_wp2_with (fail)
      go_ret
      exact ⟨ret_i (by rw [← HC.out, show n - k = 0 by omega, idxG]), HB.out⟩
theorem contRows {α : Type} {R : World → Value → α → Prop} (p : α → Bool) (a : Option Addr) (n c : Nat) (xs : List α) (g : Nat) (cap : Array Value) (w : World) (h : Sl R w a n xs)
    (eg : ∀ args w, (callFunc g args).run Tryz.prog w = .ok (.enter g args) w)
    (hR : ∀ W v x, Below w.heap.size w W → R w v x → R W v x)
    (hp : ∀ x v W, x ∈ xs → Below w.heap.size w W → R W v x → Calls Tryz.prog g (#[v] ++ cap) W fun e w' => e = .returned (.bool (p x)) ∧ Below W.heap.size W w') :
    Calls Tryz.prog 25 #[.slice a n c, .func (.func g) #[] cap] w fun e w' => e = .returned (.bool (xs.any p)) ∧ Below w.heap.size w w' := by
  have H := Lib.hid (idxRows p a n c xs g cap w h eg hR hp)
  clear hp eg hR h
  go_enter Tryz.func25, Tryz.ntmps25
  go_wp2_with (fail)
  refine (H.out).mono ?_
  rintro e w' ⟨rfl, hb⟩
  go_wp2_with (fail)
  go_ret
  exact ⟨ret_b (idxF_any p xs), hb⟩
end Go.Proofs.YtbahddjbncinbaaGreatDoor
