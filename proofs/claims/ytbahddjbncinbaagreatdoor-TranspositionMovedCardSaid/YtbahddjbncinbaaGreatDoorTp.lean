/-
  The reference: the pairs of two sources, as rows of the call's own.
-/
import Derived.Test.YtbahddjbncinbaaGreatDoorTo
namespace Go.Ap
open Go Go.RowKit
theorem OwnI.two {w : World} {base : Nat} (hw : base ≤ w.heap.size) (x y : Int) (hx : I64 x) (hy : I64 y) : OwnI 3 (w.alloc (.cells #[.int .i64 x, .int .i64 y] 3)) base (.slice (some ⟨w.heap.size, 0, none⟩) 2 2) [x, y] :=
  ⟨⟨rfl, .inr ⟨w.heap.size, 2, _, rfl, hw, World.alloc_heap_new w _, Nat.le_refl _, by unfold maxLen; omega, rfl, rfl⟩⟩, by intro z hz; simp at hz; rcases hz with rfl | rfl <;> assumption⟩
def rowP (p : Nat × Nat) : List Int := [(p.1 : Int), (p.2 : Int)]
/-- pairs as rows -/
def rowsP (l : List (Nat × Nat)) : List (List Int) := l.map rowP
theorem rowsP_len (l : List (Nat × Nat)) : (rowsP l).length = l.length := by simp [rowsP]
theorem prF_ref {a b : List (Option Str)} {i : Nat} {s : Str} (hx : a[i]? = some (some s)) : prF a b i = if onlyF a s = (i : Int) then (if 0 ≤ onlyF b s then some (i, (onlyF b s).toNat) else none) else none := by
  rw [prF_prog hx (.inr rfl)]
  have ha : onlyF a s = (i : Int) ↔ sglF a s = some (i : Int) := by
    unfold onlyF
    cases h : sglF a s with
    | none => simp
    | some v => simp
  by_cases h : sglF a s = some (i : Int)
  · rw [if_pos h, if_pos (ha.2 h)]
    unfold onlyF
    cases hb : sglF b s with
    | none => simp
    | some v =>
      obtain ⟨k, rfl, _⟩ := sglF_nat hb
      simp
  · rw [if_neg h, if_neg fun e => h (ha.1 e)]
theorem prF_not {a b : List (Option Str)} {i : Nat} (hx : a[i]? = some none) : prF a b i = none := by
  unfold prF
  rw [hx]
theorem only_lt (ks : List (Option Str)) (s : Str) : onlyF ks s < ks.length ∧ -1 ≤ onlyF ks s := by
  unfold onlyF
  cases h : sglF ks s with
  | none => simp; omega
  | some v =>
    obtain ⟨k, rfl, h1, _⟩ := sglF_nat h
    have := (List.getElem?_eq_some_iff.1 h1).1
    simp only
    omega
end Go.Ap
namespace Go.Proofs.YtbahddjbncinbaaGreatDoor
open Go.RowKit Go.Ap Go.Shelf Go.Proofs

attribute [local go_sem] Oper.semAt_some bs_toList empty_toList bs_size bs_extract
theorem infoRw : (Tryz.prog.info? 29).map (fun i => (i.zero, i.size, i.bytes)) = some (some (.slice none 0 0), 1, 24) := by kernel_rfl
theorem infoInt : (Tryz.prog.info? 3).map (fun i => (i.zero, i.size, i.bytes)) = some (some (.int .i64 0), 1, 8) := by kernel_rfl
set_option maxRecDepth 100000 in
set_option maxHeartbeats 8000000 in
theorem pairsR (xs ys : List Tok) (a1 : Option Addr) (n1 c1 : Nat) (a2 : Option Addr) (n2 c2 : Nat) (w : World) (h1 : Toks w a1 n1 xs) (h2 : Toks w a2 n2 ys) (hf1 : ∀ t ∈ xs, 0 ≤ t.flags) (hf2 : ∀ t ∈ ys, 0 ≤ t.flags) (hn1 : n1 ≤ 1048576) (hn2 : n2 ≤ 1048576) :
    Calls Tryz.prog 53 #[.slice a1 n1 c1, .slice a2 n2 c2] w fun e w' => ∃ v, e = .returned v ∧ OwnTb w' w.heap.size v (rowsP (pairsL (keysT xs) (keysT ys))) ∧ Below w.heap.size w w' := by
  obtain ⟨ir, hir, hr0, hr1, hr2⟩ := info_parts infoRw
  have hl := h1.len
  have hl2 := h2.len
  have hs := h1.small
  have HX := Lib.hid h1
  have HF := Lib.hid hf1
  have HW := Lib.hid (fun t (ht : TokS t) (h0 : 0 ≤ t.flags) W => wordR t W ht.flags h0)
  have HO1 := Lib.hid (fun s W (hb : Below w.heap.size w W) => onlyR xs s a1 n1 c1 W (Toks.mono h1 (Nat.le_refl _) hb) hf1)
  have HO2 := Lib.hid (fun s W (hb : Below w.heap.size w W) => onlyR ys s a2 n2 c2 W (Toks.mono h2 (Nat.le_refl _) hb) hf2)
  have HL := Lib.hid (show (keysT xs).length = n1 by rw [keysT_len, hl])
  have HL2 := Lib.hid (show (keysT ys).length = n2 by rw [keysT_len, hl2])
  unfold tokV at HW
  clear h1 h2 hf1 hf2
  go_enter Tryz.func53, Tryz.ntmps53
  go_wp2_with (fail)
  go_loopw [5, 6] (fun ov iv wr => ∃ i : Nat, i ≤ n1 ∧ iv = .int .i64 i ∧ OwnTb wr w.heap.size ov (rowsP (prsF (keysT xs) (keysT ys) i)) ∧ Below w.heap.size w wr) (fun _ iv _ => n1 - (intOf iv).toNat)
  case atStart => exact ⟨0, Nat.zero_le _, rfl, ⟨[], World.ownsRow_nil _ _ _ _, fun k x hx => by simp [prsF, rowsP] at hx, .nil⟩, Below.refl _ _⟩
  case round =>
    obtain ⟨wi, rfl⟩ : ∃ wi : World, wi = wr := ⟨_, rfl⟩
    obtain ⟨i, hi, rfl, ho, hb⟩ := hrel
    have HB := Lib.hid hb
    have HO := Lib.hid ho
    clear ho
    by_cases hin : i < n1
    · obtain ⟨t, b, off, ht, rfl, ⟨⟨e0, e1, e2, e3, e4, e5⟩, hts⟩⟩ := (Toks.mono HX.out (Nat.le_refl _) hb).at hin
      have HC := Lib.hid (HW.out t hts (HF.out t (List.mem_of_getElem? ht)) wi)
      have HKT := Lib.hid (keysT_at ht)
      have HKV := Lib.hid (show keyT t = if isGap t.flags || isMark t.flags then none else some t.norm from rfl)
      have HSU := Lib.hid (prsF_succ (keysT xs) (keysT ys) i)
      have i1 : (i : Int) < (n1 : Int) := by omega
      obtain ⟨k, hk⟩ : ∃ k, keyT t = k := ⟨_, rfl⟩
      obtain ⟨nm, hnm⟩ : ∃ nm, t.norm = nm := ⟨_, rfl⟩
      have HE1 := Lib.hid e1
      rw [hk] at HC HKT HKV
      rw [hnm] at HC HKV HE1 e1
      clear ht hts hk hb hnm
      cases k with
      | none =>
        have HPN := Lib.hid (prF_not (b := keysT ys) HKT.out)
        simp only [Option.isSome_none] at HC
        go_wp2_with (fail)
        refine HC.out.mono ?_
        rintro e w2 ⟨rfl, hb2⟩
        have HB2 := Lib.hid (bstep HB.out hb2)
        have HO3 := Lib.hid (HO.out.below hb2)
        clear hb2 e0 e1 e2 e3 e4 e5
        go_wp2_with (fail)
        go_roundw
        case rel => exact ⟨i + 1, by omega, by simp, by rw [HSU.out, HPN.out]; simpa using HO3.out, HB2.out⟩
        case measure => simp [intOf]; omega
      | some x =>
        have hx : x = nm := by
          have := HKV.out
          split at this
          · cases this
          · cases this; rfl
        subst hx
        simp only [Option.isSome_some] at HC
        have HPR := Lib.hid (prF_ref (b := keysT ys) HKT.out)
        have HA := Lib.hid (HO1.out x)
        have HBB := Lib.hid (HO2.out x)
        have hla := only_lt (keysT xs) x
        have hlb := only_lt (keysT ys) x
        rw [HL2.out] at hlb
        obtain ⟨qa, hqa⟩ : ∃ q, onlyF (keysT xs) x = q := ⟨_, rfl⟩
        obtain ⟨qb, hqb⟩ : ∃ q, onlyF (keysT ys) x = q := ⟨_, rfl⟩
        rw [hqa] at HA HPR hla
        rw [hqb] at HBB HPR hlb
        clear hqa hqb
        go_wp2_with (fail)
        refine HC.out.mono ?_
        rintro e w2 ⟨rfl, hb2⟩
        have HB2 := Lib.hid (bstep HB.out hb2)
        have HO3 := Lib.hid (HO.out.below hb2)
        have e1' := cell_keep hb2 HE1.out
        clear e0 e1 e2 e3 e4 e5
        go_wp2_with (fail)
        refine (HA.out _ HB2.out).mono ?_
        rintro e w3 ⟨rfl, hb3⟩
        have HB3 := Lib.hid (bstep HB2.out hb3)
        have HO4 := Lib.hid (HO3.out.below hb3)
        have e1'' := cell_keep hb3 e1'
        clear e1' hb2 hb3
        by_cases hqi : qa = (i : Int)
        · have d1 : (qa == (i : Int)) = true := by rw [beq_iff_eq]; exact hqi
          rw [if_pos hqi] at HPR
          clear hqi hla
          go_wp2_with (fail)
          refine (HBB.out _ HB3.out).mono ?_
          rintro e w4 ⟨rfl, hb4⟩
          have HB4 := Lib.hid (bstep HB3.out hb4)
          have HO5 := Lib.hid (HO4.out.below hb4)
          clear hb4 e1''
          by_cases hq0 : 0 ≤ qb
          · obtain ⟨kb, rfl⟩ := Int.eq_ofNat_of_zero_le hq0
            have d2 : decide (0 ≤ (kb : Int)) = true := by simp
            rw [if_pos hq0, Int.toNat_natCast] at HPR
            have hsz4 := HB4.out.size
            have hb5 := balloc w4 (.cells #[.int .i64 (i : Int), .int .i64 (kb : Int)] 3)
            obtain ⟨vs, hrow, hnx⟩ := OwnTb.ready HO5.out hsz4 hb5 (OwnI.two (Nat.le_refl _) (i : Int) (kb : Int) ⟨by omega, by omega⟩ ⟨by omega, by omega⟩)
            obtain ⟨nu, hnu⟩ : ∃ nu, (rowsP (prsF (keysT xs) (keysT ys) i)).length = nu := ⟨_, rfl⟩
            have hnub : nu ≤ i := by rw [← hnu, rowsP_len]; exact prsF_len _ _ _
            rw [hnu] at hrow hnx
            have HROW := Lib.hid hrow
            have HNX := Lib.hid hnx
            have HB5 := Lib.hid (bstep HB4.out hb5)
            have HNEW := Lib.hid (show ∀ (j : Nat) (u : Value), [Value.slice (some ⟨w4.heap.size, 0, none⟩) 2 2][j]? = some u → ((w4.alloc (.cells #[.int .i64 (i : Int), .int .i64 (kb : Int)] 3)).alloc (.cells #[.slice (some ⟨w4.heap.size, 0, none⟩) 2 2] 29)).cell? ((⟨w4.heap.size + 1, 0, none⟩ : Addr).add j) = some u from World.news_of_block (cs := #[.slice (some ⟨w4.heap.size, 0, none⟩) 2 2]) (heap_fresh (by simp)))
            clear hrow hnx hnu hb5 hq0
            go_wp2_with (at_builtin; refine wpList_append_own _ rfl _ _ 25 rfl w.heap.size 29 ir (.slice none 0 0) 1 24 Tryz.underlying25 hir hr0 hr1 hr2 rfl (by decide) _ _ _ rfl (HROW.out.alloc _) ⟨w4.heap.size + 1, 0, none⟩ 1 1 [.slice (some ⟨w4.heap.size, 0, none⟩) 2 2] rfl rfl HNEW.out (by simp [Value.oneCell']) (by unfold maxLen; omega) (by omega) (by simp; omega) ?_; intro v1 w6 hown1 hgrow1 _; have HO6 := Lib.hid hown1; have HG := Lib.hid hgrow1; clear hown1 hgrow1)
            obtain ⟨j1, j2⟩ := HNX.out _ _ _ HO6.out HG.out
            go_roundw
            case rel => exact ⟨i + 1, by omega, by simp, by rw [HSU.out, HPR.out]; simpa [rowsP, rowP] using j1, HB5.out.trans j2⟩
            case measure => simp [intOf]; omega
          · have d2 : decide (0 ≤ qb) = false := by simpa using hq0
            rw [if_neg hq0] at HPR
            clear hq0
            go_wp2_with (fail)
            go_roundw
            case rel => exact ⟨i + 1, by omega, by simp, by rw [HSU.out, HPR.out]; simpa using HO5.out, HB4.out⟩
            case measure => simp [intOf]; omega
        · have d1 : (qa == (i : Int)) = false := by rw [beq_eq_false_iff_ne]; exact hqi
          rw [if_neg hqi] at HPR
          clear hqi
          go_wp2_with (fail)
          go_roundw
          case rel => exact ⟨i + 1, by omega, by simp, by rw [HSU.out, HPR.out]; simpa using HO4.out, HB3.out⟩
          case measure => simp [intOf]; omega
    · obtain rfl : n1 = i := by omega
      have HALL := Lib.hid (show prsF (keysT xs) (keysT ys) n1 = pairsL (keysT xs) (keysT ys) by rw [← HL.out]; exact prsF_all _ _)
      clear hb
      go_wp2_with (fail)
      go_ret
      exact ⟨_, rfl, by rw [← HALL.out]; exact HO.out, HB.out⟩
end Go.Proofs.YtbahddjbncinbaaGreatDoor
