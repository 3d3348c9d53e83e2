/-
  The program: the pairs of two sources, as rows of the call's own; Pairs of both sides.
-/
import Derived.Test.YtbahddjbncinbaaGreatDoorTm
namespace Go.Proofs.YtbahddjbncinbaaGreatDoor
open Go.RowKit Go.Ap Go.Shelf Go.Proofs

attribute [local go_sem] Oper.semAt_some bs_toList empty_toList bs_size bs_extract
theorem keyT_cases (t : Tok) : keyT t = none ∨ keyT t = some t.norm := by
  unfold keyT
  split
  · exact .inl rfl
  · exact .inr rfl
theorem prF_is {a b : List (Option Str)} {i : Nat} {s : Str} {x : Option Str} (hx : a[i]? = some x) (hs : x = none ∨ x = some s) {ra rb : Option Int} (ha : sglF a s = ra) (hb : sglF b s = rb) :
    prF a b i = if ra = some (i : Int) then rb.map fun k => (i, k.toNat) else none := by
  rw [prF_prog hx hs, ha, hb]
set_option maxRecDepth 100000 in
set_option maxHeartbeats 8000000 in
theorem pairsP (xs ys : List Tok) (a1 : Option Addr) (n1 c1 : Nat) (a2 : Option Addr) (n2 c2 : Nat) (w : World) (h1 : Toks w a1 n1 xs) (h2 : Toks w a2 n2 ys) (hf1 : ∀ t ∈ xs, 0 ≤ t.flags ∧ t.flags ≤ 31) (hf2 : ∀ t ∈ ys, 0 ≤ t.flags ∧ t.flags ≤ 31) (hn1 : n1 ≤ 1048576) (hn2 : n2 ≤ 1048576) :
    Calls Tryz.prog 51 #[.slice a1 n1 c1, .slice a2 n2 c2] w fun e w' => ∃ v, e = .returned v ∧ OwnTb w' w.heap.size v (rowsP (pairsL (keysT xs) (keysT ys))) ∧ Below w.heap.size w w' := by
  obtain ⟨ir, hir, hr0, hr1, hr2⟩ := info_parts infoRw
  have hl := h1.len
  have hl2 := h2.len
  have hs := h1.small
  have HX := Lib.hid h1
  have HSA := Lib.hid (fun W (hb : Below w.heap.size w W) => singleP xs a1 n1 c1 W (Toks.mono h1 (Nat.le_refl _) hb) hf1 hn1)
  have HSB := Lib.hid (singleP ys a2 n2 c2 w h2 hf2 hn2)
  have HL := Lib.hid (show (keysT xs).length = n1 by rw [keysT_len, hl])
  have HL2 := Lib.hid (show (keysT ys).length = n2 by rw [keysT_len, hl2])
  clear h1 h2 hf1 hf2
  go_enter Tryz.func51, Tryz.ntmps51
  go_wp2_with (fail)
  refine HSB.out.mono ?_
  rintro e wb ⟨mb, rfl, hmb, hbb⟩
  have HBB := Lib.hid hbb
  have HMB0 := Lib.hid hmb
  clear hmb hbb
  go_wp2_with (fail)
  refine (HSA.out _ HBB.out).mono ?_
  rintro e wa ⟨ma, rfl, hma, hba⟩
  have HBA := Lib.hid (bstep HBB.out hba)
  have HMB := Lib.hid (HMB0.out.below hba)
  have HMA := Lib.hid hma
  clear hma hba HSA HSB HMB0
  go_wp2_with (fail)
  go_loopw [7, 20] (fun ov iv wr => ∃ i : Nat, i ≤ n1 ∧ iv = .int .i64 i ∧ OwnTb wr wa.heap.size ov (rowsP (prsF (keysT xs) (keysT ys) i)) ∧ Below wa.heap.size wa wr) (fun _ iv _ => n1 - (intOf iv).toNat)
  case atStart => exact ⟨0, Nat.zero_le _, rfl, ⟨[], World.ownsRow_nil _ _ _ _, fun k x hx => by simp [prsF, rowsP] at hx, .nil⟩, Below.refl _ _⟩
  case round =>
    obtain ⟨wi, rfl⟩ : ∃ wi : World, wi = wr := ⟨_, rfl⟩
    obtain ⟨i, hi, rfl, ho, hb⟩ := hrel
    have HB := Lib.hid hb
    have HO := Lib.hid ho
    clear ho
    by_cases hin : i < n1
    · obtain ⟨t, b, off, ht, rfl, ⟨⟨e0, e1, e2, e3, e4, e5⟩, hts⟩⟩ := (Toks.mono HX.out (Nat.le_refl _) (bstep HBA.out hb)).at hin
      have hnm := hts.norm
      have HSU := Lib.hid (prsF_succ (keysT xs) (keysT ys) i)
      have HIS := Lib.hid (fun ra rb => prF_is (b := keysT ys) (ra := ra) (rb := rb) (keysT_at ht) (keyT_cases t))
      have i1 : (i : Int) < (n1 : Int) := by omega
      obtain ⟨nm, hnm2⟩ : ∃ nm, t.norm = nm := ⟨_, rfl⟩
      rw [hnm2] at hnm e1 HIS
      have hb1 := balloc wi (.cells #[.string (bs t.text), .string (bs nm), .string (bs t.page), .int .i64 t.line, .int .i64 t.flags, .string (bs t.name)] 39)
      have HB1 := Lib.hid (bstep hb hb1)
      have HO1 := Lib.hid (HO.out.below hb1)
      have hla := (HMA.out.below (bstep hb hb1)).look_ok (T := tSI) (s := nm) hnm
      have hlb := (HMB.out.below (bstep hb hb1)).look_ok (T := tSI) (s := nm) hnm
      have hna := fun v => @sglF_nat (keysT xs) nm v
      have hnb := fun v => @sglF_nat (keysT ys) nm v
      have HA2 := Lib.hid (show sglF (keysT xs) nm = sglF (keysT xs) nm from rfl)
      obtain ⟨ra, hra⟩ : ∃ r, sglF (keysT xs) nm = r := ⟨_, rfl⟩
      obtain ⟨rb, hrb⟩ : ∃ r, sglF (keysT ys) nm = r := ⟨_, rfl⟩
      have HPF := Lib.hid (HIS.out ra rb hra hrb)
      rw [hra] at hla hna
      rw [hrb] at hlb hnb
      replace hla : (Instr.lookup 96 (.map (some ma)) (.string (bs nm)) true).run Tryz.prog _ = .ok (.tuple #[.int .i64 (ra.getD 0), .bool ra.isSome]) _ := hla
      replace hlb : (Instr.lookup 96 (.map (some mb)) (.string (bs nm)) true).run Tryz.prog _ = .ok (.tuple #[.int .i64 (rb.getD 0), .bool rb.isSome]) _ := hlb
      clear ht hts hb hb1 hra hrb hnm2 HIS HA2 hi
      have skip : prF (keysT xs) (keysT ys) i = none → OwnTb (wi.alloc (.cells #[.string (bs t.text), .string (bs nm), .string (bs t.page), .int .i64 t.line, .int .i64 t.flags, .string (bs t.name)] 39)) wa.heap.size _ (rowsP (prsF (keysT xs) (keysT ys) (i + 1))) := fun h => by
        rw [HSU.out, h]; simpa using HO1.out
      have SKIP := Lib.hid skip
      clear skip
      cases ra with
      | none =>
        simp only [Option.getD_none, Option.isSome_none] at hla
        have HP0 := Lib.hid (show prF (keysT xs) (keysT ys) i = none by rw [HPF.out, if_neg (by simp)])
        clear hna hnb
        go_wp2_with (fail)
        go_roundw
        case rel => exact ⟨i + 1, by omega, by simp, SKIP.out HP0.out, HB1.out⟩
        case measure => simp [intOf]; omega
      | some v =>
        simp only [Option.getD_some, Option.isSome_some] at hla
        by_cases hvi : v = (i : Int)
        · subst hvi
          have d1 : ((i : Int) == (i : Int)) = true := by simp
          cases rb with
          | none =>
            simp only [Option.getD_none, Option.isSome_none] at hlb
            have HP0 := Lib.hid (show prF (keysT xs) (keysT ys) i = none by rw [HPF.out, if_pos rfl]; rfl)
            clear hna hnb
            go_wp2_with (fail)
            go_roundw
            case rel => exact ⟨i + 1, by omega, by simp, SKIP.out HP0.out, HB1.out⟩
            case measure => simp [intOf]; omega
          | some u =>
            simp only [Option.getD_some, Option.isSome_some] at hlb
            obtain ⟨kb, rfl, hkb, _⟩ := hnb u rfl
            have hkl : kb < n2 := by rw [← HL2.out]; exact (List.getElem?_eq_some_iff.1 hkb).1
            have HP0 := Lib.hid (show prF (keysT xs) (keysT ys) i = some (i, kb) by rw [HPF.out, if_pos rfl]; rfl)
            clear hna hnb hkb
            obtain ⟨W4, hW4⟩ : ∃ W4, wi.alloc (.cells #[.string (bs t.text), .string (bs nm), .string (bs t.page), .int .i64 t.line, .int .i64 t.flags, .string (bs t.name)] 39) = W4 := ⟨_, rfl⟩
            have hbo := HB1.out
            have hoo := HO1.out
            rw [hW4] at hbo hoo
            have hsz4 := hbo.size
            have hb5 := balloc W4 (.cells #[.int .i64 (i : Int), .int .i64 (kb : Int)] 3)
            obtain ⟨vs, hrow, hnx⟩ := OwnTb.ready hoo hsz4 hb5 (OwnI.two (Nat.le_refl _) (i : Int) (kb : Int) ⟨by omega, by omega⟩ ⟨by omega, by omega⟩)
            obtain ⟨nu, hnu⟩ : ∃ nu, (rowsP (prsF (keysT xs) (keysT ys) i)).length = nu := ⟨_, rfl⟩
            have hnub : nu ≤ i := by rw [← hnu, rowsP_len]; exact prsF_len _ _ _
            have hsz : W4.heap.size = wi.heap.size + 1 := by rw [← hW4, World.size_alloc]
            rw [hnu] at hrow hnx
            rw [hsz] at hnx
            have HROW := Lib.hid hrow
            have HNX := Lib.hid hnx
            have HB5 := Lib.hid (bstep hbo hb5)
            have HNEW := Lib.hid (show ∀ (j : Nat) (u : Value), [Value.slice (some ⟨wi.heap.size + 1, 0, none⟩) 2 2][j]? = some u → ((W4.alloc (.cells #[.int .i64 (i : Int), .int .i64 (kb : Int)] 3)).alloc (.cells #[.slice (some ⟨wi.heap.size + 1, 0, none⟩) 2 2] 29)).cell? ((⟨wi.heap.size + 1 + 1, 0, none⟩ : Addr).add j) = some u from World.news_of_block (cs := #[.slice (some ⟨wi.heap.size + 1, 0, none⟩) 2 2]) (heap_fresh (by simp [hsz])))
            have hwsz := HB.out.size
            clear hrow hnx hnu hb5 hbo hoo hsz hsz4
            subst hW4
            go_wp2_with (at_builtin; refine wpList_append_own _ rfl _ _ 25 rfl wa.heap.size 29 ir (.slice none 0 0) 1 24 Tryz.underlying25 hir hr0 hr1 hr2 rfl (by decide) _ _ _ rfl (HROW.out.alloc _) ⟨wi.heap.size + 1 + 1, 0, none⟩ 1 1 [.slice (some ⟨wi.heap.size + 1, 0, none⟩) 2 2] rfl rfl HNEW.out (by simp [Value.oneCell']) (by unfold maxLen; omega) (by omega) (by simp; omega) ?_; intro v1 w6 hown1 hgrow1 _; have HO6 := Lib.hid hown1; have HG := Lib.hid hgrow1; clear hown1 hgrow1)
            obtain ⟨j1, j2⟩ := HNX.out _ _ _ HO6.out HG.out
            go_roundw
            case rel => exact ⟨i + 1, by omega, by simp, by rw [HSU.out, HP0.out]; simpa [rowsP, rowP] using j1, HB5.out.trans j2⟩
            case measure => simp [intOf]; omega
        · have d1 : (v == (i : Int)) = false := by rw [beq_eq_false_iff_ne]; exact hvi
          have HP0 := Lib.hid (show prF (keysT xs) (keysT ys) i = none by rw [HPF.out, if_neg (fun e => hvi (Option.some.inj e))])
          clear hna hnb hvi
          go_wp2_with (fail)
          go_roundw
          case rel => exact ⟨i + 1, by omega, by simp, SKIP.out HP0.out, HB1.out⟩
          case measure => simp [intOf]; omega
    · obtain rfl : n1 = i := by omega
      have HALL := Lib.hid (show prsF (keysT xs) (keysT ys) n1 = pairsL (keysT xs) (keysT ys) by rw [← HL.out]; exact prsF_all _ _)
      clear hb
      go_wp2_with (fail)
      go_ret
      exact ⟨_, rfl, by rw [← HALL.out]; exact HO.out.mono HBA.out.size, bstep HBA.out HB.out⟩
end Go.Proofs.YtbahddjbncinbaaGreatDoor
