/-
  fine: valid rules and strings that are not great.
-/
import Derived.Test.YtamdonlncfmmmaaW22
namespace Go.Proofs.Ytamdonlncfmmmaa
open Go.RowKit Go.Ap Go.Shelf Go.Proofs

attribute [local go_sem] Oper.semAt_some bs_toList empty_toList bs_size ext_drop ext_take bs_append

set_option maxHeartbeats 400000 in
theorem idxf64 (p : Str → Bool) (a : Option Addr) (n c : Nat) (xs : List Str) (g : Nat) (cap : Array Value) (w : World) (h : StrsL w a n xs)
    (eg : ∀ args w, (callFunc g args).run Try.prog w = .ok (.enter g args) w)
    (hp : ∀ x W, x ∈ xs → Below w.heap.size w W → Calls Try.prog g (#[.string (bs x)] ++ cap) W fun e w' => e = .returned (.bool (p x)) ∧ Below W.heap.size W w') :
    Calls Try.prog 64 #[.slice a n c, .func (.func g) #[] cap] w fun e w' => e = .returned (.int .i64 (idxF p xs)) ∧ Below w.heap.size w w' := by
  have hlen := h.len
  have hsm := h.small
  have HL := Lib.hid hlen
  have HP := Lib.hid hp
  have HX := Lib.hid h
  clear hlen hp h
  go_enter Try.func64, Try.ntmps64
  go_wp2_with (fail)
  go_loopw [8] (fun i wr => ∃ k : Nat, k ≤ n ∧ i = .int .i64 k ∧ Below w.heap.size w wr ∧ idxG (pAt p xs) (n - k) k = idxF p xs) (fun i _ => n - (intOf i).toNat)
  case atStart => exact ⟨0, by omega, rfl, Below.refl _ _, by unfold idxF; rw [HL.out]; rfl⟩
  case round =>
    obtain ⟨k, hk, rfl, hb, hch⟩ := hrel
    have HC := Lib.hid hch
    have HB := Lib.hid hb
    clear hch hb
    by_cases hlt : k < n
    · obtain ⟨x, b, off, v, hx, rfl, hc, rfl⟩ := Sl.at (HX.out.mono (Nat.le_refl _) HB.out) hlt
      obtain ⟨f, hf⟩ : ∃ f, n - k = f + 1 := ⟨n - k - 1, by omega⟩
      have HF := Lib.hid hf
      have hpa : pAt p xs k = p x := by simp [pAt, hx]
      have HPA := Lib.hid hpa
      have HM := Lib.hid (List.mem_of_getElem? hx)
      clear hf hx hpa
      unfold sv at hc
      go_wp2_with (fail)
      refine (HP.out x wr HM.out HB.out).mono ?_
      rintro e w' ⟨rfl, hb2⟩
      have HB2 := Lib.hid (bstep HB.out hb2)
      clear hb2
      cases hpx : p x
      all_goals
        have HPX := Lib.hid hpx
        clear hpx
        go_wp2_with (fail)
      · exact ⟨⟨k + 1, by omega, by go_num, HB2.out, by rw [← HC.out, HF.out, idxG_no (HPA.out.trans HPX.out), show n - (k + 1) = f by have := HF.out; omega]⟩, by simp [intOf]; omega⟩
      · go_ret
        exact ⟨ret_i (by rw [← HC.out, HF.out, idxG_yes (HPA.out.trans HPX.out)]), HB2.out⟩
    · go_wp2_with (fail)
      go_ret
      exact ⟨ret_i (by rw [← HC.out, show n - k = 0 by omega, idxG]), HB.out⟩

set_option maxHeartbeats 400000 in
theorem contf48 (p : Str → Bool) (a : Option Addr) (n c : Nat) (xs : List Str) (g : Nat) (cap : Array Value) (w : World) (h : StrsL w a n xs)
    (eg : ∀ args w, (callFunc g args).run Try.prog w = .ok (.enter g args) w)
    (hp : ∀ x W, x ∈ xs → Below w.heap.size w W → Calls Try.prog g (#[.string (bs x)] ++ cap) W fun e w' => e = .returned (.bool (p x)) ∧ Below W.heap.size W w') :
    Calls Try.prog 48 #[.slice a n c, .func (.func g) #[] cap] w fun e w' => e = .returned (.bool (xs.any p)) ∧ Below w.heap.size w w' := by
  have H := Lib.hid (idxf64 p a n c xs g cap w h eg hp)
  clear hp eg h
  go_enter Try.func48, Try.ntmps48
  go_wp2_with (fail)
  refine (H.out).mono ?_
  rintro e w' ⟨rfl, hb⟩
  go_wp2_with (fail)
  go_ret
  exact ⟨ret_b (idxF_any p xs), hb⟩

/-- a string is too long, or cannot be rewritten -/
def offB (rs : List Rule) (s : Str) : Bool := decide (10 < s.length) || (chkW rs s != 0)
def fineB (rs : List Rule) (l : List Str) : Bool := !(greatB rs || (chkR rs != 0) || decide (5 < rs.length)) && !(l.any (offB rs))
theorem noE_err (rs : List Rule) (s : Str) : (NoE rs s).2 = chkW rs s := by
  unfold NoE
  split
  · rename_i h; exact h.symm
  · rfl
set_option maxHeartbeats 400000 in
theorem fineq49 (a : Option Addr) (n c b : Nat) (rs : List Rule) (s : Str) (w : World) (h : Rls w a n rs) (hs : s.length ≤ 4611686018427387903) (hb : w.cell? ⟨b, 0, none⟩ = some (.slice a n c)) :
    Calls Try.prog 49 #[.string (bs s), .pointer (some ⟨b, 0, none⟩)] w fun e w' => e = .returned (.bool (offB rs s)) ∧ Below w.heap.size w w' := by
  have H := Lib.hid (refnormal29 a n c rs s w h hs)
  have HE := Lib.hid (noE_err rs s)
  clear h
  by_cases hl : 10 < s.length
  · have hd : decide ((10 : Int) < (s.length : Int)) = true := by simp; omega
    have HR := Lib.hid (show offB rs s = true by simp [offB, hl])
    clear hl
    go_enter Try.func49, Try.ntmps49
    go_wp2_with (fail)
    go_ret
    exact ⟨ret_b HR.out.symm, Below.refl _ _⟩
  · have hd : decide ((10 : Int) < (s.length : Int)) = false := by simp; omega
    have HR := Lib.hid (show offB rs s = ((NoE rs s).2 != 0) by rw [HE.out]; simp [offB, hl])
    clear hl HE
    go_enter Try.func49, Try.ntmps49
    go_wp2_with (fail)
    refine (H.out).mono ?_
    rintro e w' ⟨rfl, hb⟩
    have HB := Lib.hid hb
    clear hb
    go_wp2_with (fail)
    go_ret
    exact ⟨ret_b HR.out.symm, HB.out⟩

theorem box_cell (w : World) (v : Value) (t : TypeId) : (w.alloc (.cells #[v] t)).cell? ⟨w.heap.size, 0, none⟩ = some v := by
  have hb := World.alloc_heap_new w (.cells #[v] t)
  simp only [World.cell?, hb]; rfl
set_option maxHeartbeats 1000000 in
theorem fine32 (a a' : Option Addr) (n n' c c' : Nat) (rs : List Rule) (l : List Str) (w : World) (h : Rls w a n rs) (h' : StrsL w a' n' l) (hl : ∀ s ∈ l, s.length ≤ 4611686018427387903) :
    Calls Try.prog 32 #[.slice a n c, .slice a' n' c'] w fun e w' => e = .returned (.bool (fineB rs l)) ∧ Below w.heap.size w w' := by
  have B1 := Lib.hid ((Below.refl _ w).alloc (Nat.le_refl _) (.cells #[.slice a n c] 22))
  have HX := Lib.hid (h.mono (Nat.le_refl _) B1.out)
  have HCE := Lib.hid (box_cell w (.slice a n c) 22)
  have H11 := Lib.hid (great11 a n c rs _ HX.out)
  have H30 := Lib.hid (check30 a n c rs _ HX.out)
  have H48 := Lib.hid (fun W (hb : Below (w.alloc (.cells #[.slice a n c] 22)).heap.size (w.alloc (.cells #[.slice a n c] 22)) W) => contf48 (offB rs) a' n' c' l 49 #[.pointer (some ⟨w.heap.size, 0, none⟩)] W (h'.mono (Nat.le_refl _) (B1.out.trans (hb.mono (by simp)))) (fun _ _ => rfl)
    (fun x V hx hV => fineq49 a n c w.heap.size rs x V (HX.out.mono (Nat.le_refl _) (bstep hb hV)) (hl x hx) (cell_keep (bstep hb hV) HCE.out)))
  have HL := Lib.hid h.len
  have HR := Lib.hid (show fineB rs l = (!(greatB rs || (chkR rs != 0) || decide (5 < rs.length)) && !(l.any (offB rs))) from rfl)
  clear h h' hl
  cases hg : greatB rs
  · rw [hg] at H11 HR
    have H11 := Lib.hid H11.out
    have HR := Lib.hid HR.out
    by_cases hq : chkR rs = 0
    · rw [hq] at H30 HR
      by_cases h5 : n ≤ 5
      · have HR2 := Lib.hid (show fineB rs l = !(l.any (offB rs)) by
          rw [HR.out]; simp [HL.out]; omega)
        have hd : decide ((5 : Int) < (n : Int)) = false := by simp; omega
        clear hq hg h5 HR
        go_enter Try.func32, Try.ntmps32
        go_wp2_with (fail)
        refine H11.out.mono ?_
        rintro e w' ⟨rfl, rfl⟩
        go_wp2_with (fail)
        refine H30.out.mono ?_
        rintro e w1 ⟨rfl, hb⟩
        have hc1 := cell_keep hb HCE.out
        have HB := Lib.hid hb
        clear hb
        go_wp2_with (fail)
        refine (H48.out w1 HB.out).mono ?_
        rintro e w2 ⟨rfl, hb2⟩
        have HB2 := Lib.hid (bstep HB.out hb2)
        clear hb2 hc1
        go_wp2_with (fail)
        go_ret
        exact ⟨ret_b HR2.out.symm, B1.out.trans (HB2.out.mono (by simp))⟩
      · have HR2 := Lib.hid (show fineB rs l = false by
          rw [HR.out, HL.out, decide_eq_true (by omega : 5 < n)]; simp)
        have hd : decide ((5 : Int) < (n : Int)) = true := by simp; omega
        clear hq hg h5 HR
        go_enter Try.func32, Try.ntmps32
        go_wp2_with (fail)
        refine H11.out.mono ?_
        rintro e w' ⟨rfl, rfl⟩
        go_wp2_with (fail)
        refine H30.out.mono ?_
        rintro e w1 ⟨rfl, hb⟩
        have hc1 := cell_keep hb HCE.out
        have HB := Lib.hid hb
        clear hb
        go_wp2_with (fail)
        go_ret
        exact ⟨ret_b HR2.out.symm, B1.out.trans (HB.out.mono (by simp))⟩
    · have HR2 := Lib.hid (show fineB rs l = false by
        rw [HR.out, show (chkR rs != 0) = true by simpa using hq]; simp)
      have hd : (chkR rs != 0) = true := by simpa using hq
      clear hq hg HR
      go_enter Try.func32, Try.ntmps32
      go_wp2_with (fail)
      refine H11.out.mono ?_
      rintro e w' ⟨rfl, rfl⟩
      go_wp2_with (fail)
      refine H30.out.mono ?_
      rintro e w1 ⟨rfl, hb⟩
      have HB := Lib.hid hb
      clear hb
      go_wp2_with (fail)
      go_ret
      exact ⟨ret_b HR2.out.symm, B1.out.trans (HB.out.mono (by simp))⟩
  · rw [hg] at H11
    have HR2 := Lib.hid (show fineB rs l = false by rw [HR.out, hg]; simp)
    clear hg HR
    go_enter Try.func32, Try.ntmps32
    go_wp2_with (fail)
    refine H11.out.mono ?_
    rintro e w' ⟨rfl, rfl⟩
    go_wp2_with (fail)
    go_ret
    exact ⟨ret_b HR2.out.symm, B1.out⟩
end Go.Proofs.Ytamdonlncfmmmaa
