/-
  The reference: the only word with a Norm; the pairs.
-/
import Derived.Test.YtbahddjbncinbaaGreatDoorTr
import Derived.Test.YtbahddjbncinbaaGreatDoorOi
namespace Go.Proofs.YtbahddjbncinbaaGreatDoor
open Go.RowKit Go.Ap Go.Shelf Go.Proofs

attribute [local go_sem] Oper.semAt_some bs_toList empty_toList bs_size bs_extract
set_option maxRecDepth 100000 in
set_option maxHeartbeats 4000000 in
theorem onlyR (ts : List Tok) (s : Str) (a : Option Addr) (n c : Nat) (w : World) (h : Toks w a n ts) (hf : ∀ t ∈ ts, 0 ≤ t.flags) :
    Calls Tryz.prog 76 #[.slice a n c, .string (bs s)] w fun e w' => e = .returned (.int .i64 (onlyF (keysT ts) s)) ∧ Below w.heap.size w w' := by
  have hl := h.len
  have hs := h.small
  have HX := Lib.hid h
  have HF := Lib.hid hf
  have HW := Lib.hid (fun t (ht : TokS t) (h0 : 0 ≤ t.flags) W => wordR t W ht.flags h0)
  have HL := Lib.hid (show (keysT ts).length = n by rw [keysT_len, hl])
  unfold tokV at HW
  clear h hf
  go_enter Tryz.func76, Tryz.ntmps76
  go_wp2_with (fail)
  go_loopw [5, 6] (fun av iv wr => ∃ i : Nat, i ≤ n ∧ iv = .int .i64 i ∧ av = .int .i64 ((lastF (keysT ts) i s).getD (-1)) ∧ OneS (keysT ts) i s ∧ Below w.heap.size w wr) (fun _ iv _ => n - (intOf iv).toNat)
  case atStart => exact ⟨0, Nat.zero_le _, rfl, rfl, OneS.zero _ _, Below.refl _ _⟩
  case round =>
    obtain ⟨wi, rfl⟩ : ∃ wi : World, wi = wr := ⟨_, rfl⟩
    obtain ⟨i, hi, rfl, rfl, ho, hb⟩ := hrel
    have HB := Lib.hid hb
    have HO := Lib.hid ho
    clear ho
    by_cases hin : i < n
    · obtain ⟨t, b, off, ht, rfl, ⟨⟨e0, e1, e2, e3, e4, e5⟩, hts⟩⟩ := (Toks.mono HX.out (Nat.le_refl _) hb).at hin
      have HC := Lib.hid (HW.out t hts (HF.out t (List.mem_of_getElem? ht)) wi)
      have HKT := Lib.hid (keysT_at ht)
      have HN := Lib.hid hts.norm
      have HKV := Lib.hid (show keyT t = if isGap t.flags || isMark t.flags then none else some t.norm from rfl)
      have i1 : (i : Int) < (n : Int) := by omega
      obtain ⟨k, hk⟩ : ∃ k, keyT t = k := ⟨_, rfl⟩
      obtain ⟨nm, hnm⟩ : ∃ nm, t.norm = nm := ⟨_, rfl⟩
      have HE1 := Lib.hid e1
      rw [hk] at HC HKT HKV
      rw [hnm] at HC HKV HN HE1 e1
      obtain ⟨lf, hlf⟩ : ∃ lf, lastF (keysT ts) i s = lf := ⟨_, rfl⟩
      have HLF := Lib.hid hlf
      rw [hlf]
      clear ht hts hk hb hlf hnm
      cases k with
      | none =>
        have HS := Lib.hid (only_skip HKT.out (show (none : Option Str) ≠ some s by simp))
        have HO2 := Lib.hid (OneS.skip HO.out HKT.out (show (none : Option Str) ≠ some s by simp))
        simp only [Option.isSome_none] at HC
        go_wp2_with (fail)
        refine HC.out.mono ?_
        rintro e w2 ⟨rfl, hb2⟩
        have HB2 := Lib.hid (bstep HB.out hb2)
        clear hb2 e0 e1 e2 e3 e4 e5
        go_wp2_with (fail)
        exact ⟨⟨i + 1, by omega, by simp, by rw [HS.out, HLF.out], HO2.out, HB2.out⟩, by simp [intOf]; omega⟩
      | some x =>
        have hx : x = nm := by
          have := HKV.out
          split at this
          · cases this
          · cases this; rfl
        subst hx
        simp only [Option.isSome_some] at HC
        by_cases hxs : x = s
        · subst hxs
          have d1 : (x == x) = true := by simp
          cases lf with
          | none =>
            have HS := Lib.hid (only_step HKT.out)
            have HO2 := Lib.hid (OneS.step HKT.out HLF.out)
            simp only [Option.getD_none]
            go_wp2_with (fail)
            refine HC.out.mono ?_
            rintro e w2 ⟨rfl, hb2⟩
            have HB2 := Lib.hid (bstep HB.out hb2)
            have e1' := cell_keep hb2 HE1.out
            clear hb2 e0 e1 e2 e3 e4 e5
            go_wp2_with (fail)
            exact ⟨⟨i + 1, by omega, by simp, by rw [HS.out]; rfl, HO2.out, HB2.out⟩, by simp [intOf]; omega⟩
          | some v =>
            have HR := Lib.hid (only_two HKT.out HLF.out)
            have hv0 : 0 ≤ v := by obtain ⟨i, rfl, _⟩ := lastF_some HLF.out; omega
            have d2 : decide (0 ≤ v) = true := by simpa using hv0
            simp only [Option.getD_some]
            go_wp2_with (fail)
            refine HC.out.mono ?_
            rintro e w2 ⟨rfl, hb2⟩
            have HB2 := Lib.hid (bstep HB.out hb2)
            have e1' := cell_keep hb2 HE1.out
            clear hb2 e0 e1 e2 e3 e4 e5
            go_wp2_with (fail)
            go_ret
            exact ⟨by rw [HR.out]; rfl, HB2.out⟩
        · have HS := Lib.hid (only_skip HKT.out (show some x ≠ some s from fun e => hxs (Option.some.inj e)))
          have HO2 := Lib.hid (OneS.skip HO.out HKT.out (show some x ≠ some s from fun e => hxs (Option.some.inj e)))
          have d1 : (x == s) = false := by rw [beq_eq_false_iff_ne]; exact hxs
          clear hxs
          go_wp2_with (fail)
          refine HC.out.mono ?_
          rintro e w2 ⟨rfl, hb2⟩
          have HB2 := Lib.hid (bstep HB.out hb2)
          have e1' := cell_keep hb2 HE1.out
          clear hb2 e0 e1 e2 e3 e4 e5
          go_wp2_with (fail)
          exact ⟨⟨i + 1, by omega, by simp, by rw [HS.out, HLF.out], HO2.out, HB2.out⟩, by simp [intOf]; omega⟩
    · obtain rfl : n = i := by omega
      have HR := Lib.hid (show (lastF (keysT ts) n s).getD (-1) = onlyF (keysT ts) s by
        have := HO.out
        rw [← HL.out] at this ⊢
        exact (OneS.fin this).symm)
      clear hb
      go_wp2_with (fail)
      go_ret
      exact ⟨by rw [← HR.out]; rfl, HB.out⟩
end Go.Proofs.YtbahddjbncinbaaGreatDoor
