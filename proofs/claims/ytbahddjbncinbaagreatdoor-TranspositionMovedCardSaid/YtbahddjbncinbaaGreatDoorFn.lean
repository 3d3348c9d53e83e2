/-
  Fine sources.
-/
import Derived.Test.YtbahddjbncinbaaGreatDoorAk
namespace Go.Ap
open Go Go.RowKit
/-- up to ten tokens, valid ones -/
def FineT (l : List Tok) : Prop := l.length ≤ 10 ∧ ∀ t ∈ l, tokC t = 0
end Go.Ap
namespace Go.Proofs.YtbahddjbncinbaaGreatDoor
open Go.RowKit Go.Ap Go.Shelf Go.Proofs

attribute [local go_sem] Oper.semAt_some bs_toList empty_toList bs_size bs_extract
theorem badTokF (t : Tok) (w : World) (hs : TokS t) (hv : EV w) : Calls Tryz.prog 60 #[tokV t] w fun e w' => e = .returned (.bool (decide (tokC t ≠ 0))) ∧ Below w.heap.size w w' := by
  have HT := Lib.hid (fun W hb => tokP t W hs (hv.mono (Nat.le_refl _) hb))
  have HE := Lib.hid (show (tokC t != 0) = decide (tokC t ≠ 0) by rw [Bool.eq_iff_iff]; simp)
  generalize tokC t = k at *
  unfold tokV at HT ⊢
  go_enter Tryz.func60, Tryz.ntmps60
  go_wp2_with (fail)
  refine (HT.out _ (balloc _ _)).mono ?_
  rintro e w1 ⟨rfl, hb⟩
  go_wp2_with (fail)
  go_ret
  exact ⟨ret_b HE.out, bstep (balloc _ _) hb⟩
set_option maxHeartbeats 4000000 in
theorem fine22 (a : Option Addr) (n c : Nat) (ls : List (List Tok)) (w : World) (h : Toks2 w a n ls) (hev : EV w) :
    Calls Tryz.prog 22 #[.slice a n c] w fun e w' => (e = .returned (.bool false) ∨ (e = .returned (.bool true) ∧ ∀ l ∈ ls, FineT l)) ∧ Below w.heap.size w w' := by
  have eg := enters_of Tryz.func60 (by kernel_rfl) rfl
  have hl := h.len
  have hsn := h.small
  have HX := Lib.hid h
  have HL := Lib.hid hl
  have HC := Lib.hid (fun (a1 : Option Addr) (n1 c1 : Nat) (xs : List Tok) (W : World) (h1 : Toks W a1 n1 xs) (hv : EV W) => contTok (fun t => decide (tokC t ≠ 0)) a1 n1 c1 xs 60 #[] W h1 eg (fun t _ ht W' hb => badTokF t W' ht (hv.mono (Nat.le_refl _) hb)))
  have HG := Lib.hid (fun (a1 : Option Addr) (n1 c1 : Nat) (xs : List Tok) (W : World) (h1 : Toks W a1 n1 xs) => great47 a1 n1 c1 10 xs W h1)
  have HEV := Lib.hid hev
  clear h hl hev
  go_enter Tryz.func22, Tryz.ntmps22
  go_wp2_with (fail)
  go_loopw [7] (fun iv wr => ∃ i : Nat, i ≤ n ∧ iv = .int .i64 i ∧ (∀ l ∈ ls.take i, FineT l) ∧ Below w.heap.size w wr) (fun iv _ => n - (intOf iv).toNat)
  case atStart => exact ⟨0, Nat.zero_le _, rfl, fun l hl => by simp at hl, Below.refl _ _⟩
  case round =>
    obtain ⟨wi, rfl⟩ : ∃ wi : World, wi = wr := ⟨_, rfl⟩
    obtain ⟨i, hi, rfl, hf, hb⟩ := hrel
    have HB := Lib.hid hb
    have HF := Lib.hid hf
    by_cases hin : i < n
    · obtain ⟨l, b, o, v, hx, rfl, hc, a1, m1, k1, rfl, ht⟩ := HX.out.at hin
      have hc := cell_keep hb hc
      have hml := ht.len
      have hms := ht.small
      have HT := Lib.hid (ht.mono (Nat.le_refl _) hb)
      have HXI := Lib.hid (show ls.take (i + 1) = ls.take i ++ [l] by rw [List.take_add_one, hx]; rfl)
      have HML := Lib.hid hml
      have i1 : (i : Int) < (n : Int) := by omega
      clear hx ht hb hf hml
      by_cases h10 : 10 < m1
      · have d1 : decide ((10 : Int) < (m1 : Int)) = true := by rw [decide_eq_true_eq]; omega
        clear h10
        go_wp2_with (fail)
        go_ret
        exact ⟨.inl rfl, HB.out⟩
      · have d1 : decide ((10 : Int) < (m1 : Int)) = false := by rw [decide_eq_false_iff_not]; omega
        go_wp2_with (fail)
        refine (HG.out a1 m1 k1 l wi HT.out).mono ?_
        rintro e w1 ⟨⟨b1, rfl⟩, hb⟩
        have HB1 := Lib.hid (bstep HB.out hb)
        have HT1 := Lib.hid (HT.out.mono (Nat.le_refl _) hb)
        clear hb
        cases b1
        · go_wp2_with (fail)
          refine (HC.out a1 m1 k1 l w1 HT1.out (HEV.out.mono (Nat.le_refl _) HB1.out)).mono ?_
          rintro e w2 ⟨rfl, hb⟩
          have HB2 := Lib.hid (bstep HB1.out hb)
          clear hb
          cases hany : l.any fun t => decide (tokC t ≠ 0)
          · have HAN := Lib.hid (show FineT l from ⟨by have := HML.out; omega, fun t ht => by
              have := List.any_eq_false.1 hany t ht
              simpa using this⟩)
            clear hany
            go_wp2_with (fail)
            go_roundw
            case rel => exact ⟨i + 1, by omega, by simp, (by rw [HXI.out]; intro l' hl'; rcases List.mem_append.1 hl' with h | h; exact HF.out l' h; rw [List.mem_singleton.1 h]; exact HAN.out), HB2.out⟩
            case measure => simp [intOf]; omega
          · clear hany
            go_wp2_with (fail)
            go_ret
            exact ⟨.inl rfl, HB2.out⟩
        · go_wp2_with (fail)
          go_ret
          exact ⟨.inl rfl, HB1.out⟩
    · obtain rfl : n = i := by omega
      rw [show ls.take n = ls from List.take_of_length_le (by rw [HL.out]; exact Nat.le_refl _)] at HF
      clear hb hf
      go_wp2_with (fail)
      go_ret
      exact ⟨.inr ⟨rfl, HF.out⟩, HB.out⟩
/-- two fine sources -/
theorem fineTwo {w : World} {a1 a2 : Option Addr} {n1 c1 n2 c2 : Nat} {xs ys : List Tok} (h1 : Toks w a1 n1 xs) (h2 : Toks w a2 n2 ys) :
    Toks2 (w.alloc (.cells #[.slice a1 n1 c1, .slice a2 n2 c2] 22)) (some ⟨w.heap.size, 0, none⟩) 2 [xs, ys] :=
  sl_at (heap_fresh rfl) ⟨⟨_, _, _, rfl, h1.mono (Nat.le_refl _) (balloc _ _)⟩, ⟨_, _, _, rfl, h2.mono (Nat.le_refl _) (balloc _ _)⟩, trivial⟩ rfl (by omega)
theorem chk_fine {xs ys : List Tok} (h : ∀ l ∈ [xs, ys], FineT l) : chkT xs ys = 0 ∧ chkT ys xs = 0 ∧ chkT xs xs = 0 := by
  obtain ⟨h1, h2⟩ := h xs (by simp)
  obtain ⟨h3, h4⟩ := h ys (by simp)
  exact ⟨chkT_of (by omega) (by omega) h2 h4, chkT_of (by omega) (by omega) h4 h2, chkT_of (by omega) (by omega) h2 h2⟩
end Go.Proofs.YtbahddjbncinbaaGreatDoor
