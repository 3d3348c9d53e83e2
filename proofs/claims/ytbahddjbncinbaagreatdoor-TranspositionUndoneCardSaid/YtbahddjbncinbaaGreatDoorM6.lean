/-
  TranspositionUndone: the law.
-/
import Derived.Test.YtbahddjbncinbaaGreatDoorPe
namespace Go.Ap
open Go Go.RowKit
def tok0 : Tok := ⟨[], [], [], 0, 0, []⟩
/-- tokens in another order -/
def ordT (ys : List Tok) (U : List Nat) : List Tok := U.map fun k => ys.getD k tok0
theorem ordT_keys {ys : List Tok} {U : List Nat} (h : ∀ k ∈ U, k < ys.length) : keysT (ordT ys U) = undoK (keysT ys) U := by
  unfold ordT undoK keysT
  rw [List.map_map]
  refine List.map_congr_left fun k hk => ?_
  have := h k hk
  simp [this]
theorem ordT_mem {ys : List Tok} {U : List Nat} (h : ∀ k ∈ U, k < ys.length) {t : Tok} (ht : t ∈ ordT ys U) : t ∈ ys := by
  obtain ⟨k, hk, rfl⟩ := List.mem_map.1 ht
  have := h k hk
  simp [this]
end Go.Ap
namespace Go.Proofs.YtbahddjbncinbaaGreatDoor
open Go.RowKit Go.Ap Go.Shelf Go.Proofs

attribute [local go_sem] Oper.semAt_some bs_toList empty_toList bs_size bs_extract
/-- what the law says, in plain words -/
theorem undone_plain {xs ys : List Tok} (h : ∀ l ∈ [xs, ys], FineT l) : ∃ U : List Nat, undE xs ys = U ∧ U.length = ys.length ∧ U.Nodup ∧ (∀ k ∈ U, k < ys.length) ∧ (∀ i k : Nat, U[i]? = some k → i ≠ k → ((rowsP (prsE xs ys)).any fun r => decide (nth r 1 = (k : Int))) = true) ∧
    chkT xs (ordT ys U) = 0 ∧ bksE xs (ordT ys U) = [] ∧ (rowsP (prsE xs (ordT ys U))).length = (rowsP (prsE xs ys)).length := by
  obtain ⟨k1, k2, k3⟩ := chk_fine h
  obtain ⟨l1, g1⟩ := h xs (by simp)
  obtain ⟨l2, g2⟩ := h ys (by simp)
  have e1 : prsE xs ys = pairsL (keysT xs) (keysT ys) := by unfold prsE; rw [if_pos k1]
  have hn := ks_nodup (keysT xs) (keysT ys)
  have hk : ∀ k ∈ ksL (pairsL (keysT xs) (keysT ys)), k < ys.length := fun k h => by have := ks_lt h; rwa [keysT_len] at this
  have hu : ∀ k ∈ undoF (ksL (pairsL (keysT xs) (keysT ys))) ys.length, k < ys.length := fun k h => List.mem_range.1 ((undo_perm hn hk).mem_iff.1 h)
  refine ⟨undoF (ksL (pairsL (keysT xs) (keysT ys))) ys.length, by unfold undE; rw [if_pos k1, e1], undo_len _ _, undo_nodup hn, hu, fun i k hi hik => ?_, ?_⟩
  · rw [e1]
    rcases undo_mem hn hi with ⟨_, h2⟩ | ⟨_, h2⟩
    · exact absurd h2.symm hik
    · have hkm := List.mem_of_getElem? h2
      obtain ⟨p, hp, rfl⟩ := List.mem_map.1 hkm
      refine List.any_eq_true.2 ⟨rowP p, List.mem_map.2 ⟨p, hp, rfl⟩, ?_⟩
      simp [rowP, nth]
  · have hc0 : chkT xs (ordT ys (undoF (ksL (pairsL (keysT xs) (keysT ys))) ys.length)) = 0 := chkT_of (by omega) (by unfold ordT; rw [List.length_map, undo_len]; omega) g1 (fun t ht => g2 t (ordT_mem hu ht))
    have e2 : prsE xs (ordT ys (undoF (ksL (pairsL (keysT xs) (keysT ys))) ys.length)) = pairsL (keysT xs) (undoK (keysT ys) (undoF (ksL (pairsL (keysT xs) (keysT ys))) (keysT ys).length)) := by
      unfold prsE
      rw [if_pos hc0, ordT_keys hu, keysT_len]
    have hud := undone (keysT xs) (keysT ys)
    refine ⟨hc0, ?_, ?_⟩
    · unfold bksE
      rw [blkF_nil_iff, e2]
      exact hud.1
    · rw [rowsP_len, rowsP_len, e2, e1]
      exact hud.2
set_option maxRecDepth 100000 in
set_option maxHeartbeats 8000000 in
theorem law6 (a1 : Option Addr) (n1 c1 : Nat) (xs : List Tok) (a2 : Option Addr) (n2 c2 : Nat) (ys : List Tok) (w : World) (h1 : Toks w a1 n1 xs) (h2 : Toks w a2 n2 ys) (hev : EV w) :
    Calls Tryz.prog 6 #[.slice a1 n1 c1, .slice a2 n2 c2] w fun e w' => e = .returned (.bool true) ∧ Below w.heap.size w w' := by
  obtain ⟨i9, hi9, hy0, hy1, hy2⟩ := info_parts infoTok
  have HF := Lib.hid (fine22 (some ⟨w.heap.size, 0, none⟩) 2 2 [xs, ys] _ (fineTwo (c1 := c1) (c2 := c2) h1 h2) (hev.mono (Nat.le_refl _) (balloc _ _)))
  have HAW := Lib.hid (fun W (hb : Below w.heap.size w W) => awake13 W (hev.mono (Nat.le_refl _) hb))
  have HPP := Lib.hid (fun W (hb : Below w.heap.size w W) => PairsP xs ys a1 n1 c1 a2 n2 c2 W (h1.mono (Nat.le_refl _) hb) (h2.mono (Nat.le_refl _) hb) (hev.mono (Nat.le_refl _) hb))
  have HUP := Lib.hid (fun W (hb : Below w.heap.size w W) => UndoP xs ys a1 n1 c1 a2 n2 c2 W (h1.mono (Nat.le_refl _) hb) (h2.mono (Nat.le_refl _) hb) (hev.mono (Nat.le_refl _) hb))
  have HPC := Lib.hid (fun W (hb : Below w.heap.size w W) zs ac nc cc (hz : Toks W ac nc zs) => PairsP xs zs a1 n1 c1 ac nc cc W (h1.mono (Nat.le_refl _) hb) hz (hev.mono (Nat.le_refl _) hb))
  have HDC := Lib.hid (fun W (hb : Below w.heap.size w W) zs ac nc cc (hz : Toks W ac nc zs) => DistanceP xs zs a1 n1 c1 ac nc cc W (h1.mono (Nat.le_refl _) hb) hz (hev.mono (Nat.le_refl _) hb))
  have hl2 := h2.len
  have HY := Lib.hid h2
  clear h1 h2 hev
  go_enter Tryz.func6, Tryz.ntmps6
  go_wp2_with (fail)
  refine HF.out.mono ?_
  rintro e w1 ⟨hf, hb⟩
  have HB1 := Lib.hid (bstep (balloc w _) hb)
  clear hb
  rcases hf with rfl | ⟨rfl, hf⟩
  · go_wp2_with (fail)
    refine (HAW.out _ HB1.out).mono ?_
    rintro e w2 ⟨rfl, hb⟩
    have HB2 := Lib.hid (bstep HB1.out hb)
    clear hb
    go_wp2_with (fail)
    go_ret
    exact ⟨rfl, HB2.out⟩
  · obtain ⟨k1, _, _⟩ := chk_fine hf
    have hn10 : n2 ≤ 10 := by have := (hf ys (by simp)).1; omega
    obtain ⟨U, hU, hul, hund, hult, huany, hc0, hbk, hpc⟩ := undone_plain hf
    rw [hl2] at hul hult
    have hpl : (rowsP (prsE xs ys)).length ≤ 1024 := by rw [rowsP_len]; exact prsE_len
    have HR2 := Lib.hid (show ∀ r ∈ rowsP (prsE xs ys), r.length ≤ 4611686018427387903 from rows_two)
    have HR3 := Lib.hid (show ∀ r ∈ rowsP (prsE xs (ordT ys U)), r.length ≤ 4611686018427387903 from rows_two)
    have HPC := Lib.hid (fun W (hb : Below w.heap.size w W) => HPC.out W hb (ordT ys U))
    have HDC := Lib.hid (fun W (hb : Below w.heap.size w W) => HDC.out W hb (ordT ys U))
    rw [k1] at HPP HUP
    rw [hU] at HUP
    rw [hc0] at HPC
    rw [hc0, hbk] at HDC
    have hp3 : (rowsP (prsE xs (ordT ys U))).length ≤ 1024 := by rw [hpc]; exact hpl
    generalize prsE xs (ordT ys U) = P3 at *
    generalize prsE xs ys = P at *
    have HUL := Lib.hid hul
    have HUND := Lib.hid hund
    have HULT := Lib.hid hult
    have HUANY := Lib.hid huany
    have HPCL := Lib.hid hpc
    clear hf k1 hc0 hbk hpc hul hund hult huany hU
    go_wp2_with (fail)
    refine (HPP.out _ HB1.out).mono ?_
    rintro e w2 ⟨v, rfl, ho, hb⟩
    obtain ⟨ap, cp, rfl, hr⟩ := ho.rows (by omega) HR2.out
    have HRP := Lib.hid hr
    have HB2 := Lib.hid (bstep HB1.out hb)
    clear ho hb hr
    go_wp2_with (fail)
    refine (HUP.out _ HB2.out).mono ?_
    rintro e w3 ⟨v, rfl, ho, hb⟩
    obtain ⟨au, cu, rfl, hu⟩ := ho.ints (by rw [castL_len, HUL.out]; omega)
    rw [castL_len, HUL.out] at hu ⊢
    have HU := Lib.hid hu
    have HX3 := Lib.hid hb
    have HB3 := Lib.hid (bstep HB2.out hb)
    have d0 : ((n2 : Int) != (n2 : Int)) = false := by simp
    clear ho hb hu
    go_wp2_with (fail)
    refine (perm28 U au n2 cu w3 HU.out (by omega) HUND.out HULT.out).mono ?_
    rintro e w4 ⟨rfl, hb⟩
    have HX4 := Lib.hid hb
    have HB4 := Lib.hid (bstep HB3.out hb)
    clear hb d0
    go_wp2_with (fail)
    go_loopw [9, 54] (fun ov iv wr => ∃ i : Nat, i ≤ n2 ∧ iv = .int .i64 i ∧ OwnTk wr w4.heap.size ov (ordT ys (U.take i)) ∧ Below w4.heap.size w4 wr) (fun _ iv _ => n2 - (intOf iv).toNat)
    case atStart => exact ⟨0, Nat.zero_le _, rfl, World.ownsRow_nil _ _ _ _, Below.refl _ _⟩
    case round =>
      obtain ⟨wi, rfl⟩ : ∃ wi : World, wi = wr := ⟨_, rfl⟩
      obtain ⟨i, hi, rfl, ho, hb⟩ := hrel
      have HBI := Lib.hid hb
      have hsz := hb.size
      by_cases hin : i < n2
      · obtain ⟨z, b, o, v, hz, rfl, hc, rfl, hw⟩ := Sl.at HU.out hin
        unfold castL at hz
        rw [List.getElem?_map] at hz
        obtain ⟨k, hk, rfl⟩ := Option.map_eq_some_iff.1 hz
        have hkn := HULT.out k (List.mem_of_getElem? hk)
        obtain ⟨t, b2, o2, ht, rfl, ⟨q0, q1, q2, q3, q4, q5⟩, hts⟩ := HY.out.at hkn
        have c1 := cell_keep (bstep HX4.out hb) hc
        have hbw := bstep HB4.out hb
        have bx := balloc wi (.cells #[.int .i64 (k : Int)] 3)
        have HBW := Lib.hid (bstep hbw bx)
        have q0 := cell_keep HBW.out q0
        have q1 := cell_keep HBW.out q1
        have q2 := cell_keep HBW.out q2
        have q3 := cell_keep HBW.out q3
        have q4 := cell_keep HBW.out q4
        have q5 := cell_keep HBW.out q5
        have hql : (ordT ys (U.take i)).length = i := by unfold ordT; rw [List.length_map, List.length_take, HUL.out]; omega
        have HO := Lib.hid (show (wi.alloc (.cells #[.int .i64 (k : Int)] 3)).ownsRow w4.heap.size 39 6 _ i ((ordT ys (U.take i)).flatMap tokC6) by unfold OwnTk at ho; rw [hql] at ho; exact owns_below ho bx)
        have HE := Lib.hid (show ((ordT ys (U.take (i + 1))).length = i + 1 ∧ (ordT ys (U.take (i + 1))).flatMap tokC6 = (ordT ys (U.take i)).flatMap tokC6 ++ tokC6 t) by
          constructor
          · unfold ordT; rw [List.length_map, List.length_take, HUL.out]; omega
          · rw [List.take_add_one, hk]; simp [ordT, ht])
        have HANY := Lib.hid (fun (hne : i ≠ k) => HUANY.out i k hk hne)
        have i1 : (i : Int) < (n2 : Int) := by omega
        have i2 : (k : Int) < (n2 : Int) := by omega
        have HKC := Lib.hid (show (wi.alloc (.cells #[.int .i64 (k : Int)] 3)).cell? ⟨wi.heap.size, 0, none⟩ = some (.int .i64 (k : Int)) from blk_cell (World.alloc_heap_new wi _) rfl)
        have HNW := Lib.hid (show ∀ (j : Nat) (u : Value), [.string (bs t.text), .string (bs t.norm), .string (bs t.page), .int .i64 t.line, .int .i64 t.flags, .string (bs t.name)][j]? = some u → ((wi.alloc (.cells #[.int .i64 (k : Int)] 3)).alloc (.cells #[.string (bs t.text), .string (bs t.norm), .string (bs t.page), .int .i64 t.line, .int .i64 t.flags, .string (bs t.name)] 39)).cell? ((⟨(wi.alloc (.cells #[.int .i64 (k : Int)] 3)).heap.size, 0, none⟩ : Addr).add j) = some u from World.news_of_block (cs := #[.string (bs t.text), .string (bs t.norm), .string (bs t.page), .int .i64 t.line, .int .i64 t.flags, .string (bs t.name)]) (heap_fresh rfl))
        have HBJ := Lib.hid (show Below w4.heap.size w4 (wi.alloc (.cells #[.int .i64 (k : Int)] 3)) from bstep hb bx)
        clear hz hk hc hw ht hts ho hb hbw bx hql
        have hszJ : w4.heap.size ≤ (wi.alloc (.cells #[.int .i64 (k : Int)] 3)).heap.size := by simp; omega
        by_cases hik : i = k
        · have dk : ((i : Int) != (k : Int)) = false := by simp; omega
          clear hik
          go_wp2_with (at_builtin; refine wpList_append_own _ rfl _ _ 22 rfl w4.heap.size 39 i9 (.agg #[.string { data := #[] }, .string { data := #[] }, .string { data := #[] }, .int .i64 0, .int .i64 0, .string { data := #[] }]) 6 80 Tryz.underlying22 hi9 hy0 hy1 hy2 rfl (by decide) _ _ _ rfl (HO.out.alloc _) ⟨wi.heap.size + 1, 0, none⟩ 1 1 [.string (bs t.text), .string (bs t.norm), .string (bs t.page), .int .i64 t.line, .int .i64 t.flags, .string (bs t.name)] rfl rfl (by simpa using HNW.out) (by simp [Value.oneCell']) (by unfold maxLen; omega) (by omega) (by simp; omega) ?_; intro v1 w5 hown1 hgrow1 _; have HO3 := Lib.hid hown1; have HG := Lib.hid hgrow1; have kc5 := (((BlkK.new wi #[.int .i64 (k : Int)] 3).below (balloc _ _)).keptE hgrow1 (BlkK.apart (BlkK.new wi #[.int .i64 (k : Int)] 3) HO.out (by decide))).cell (i := 0) (u := .int .i64 (k : Int)) rfl; clear hown1 hgrow1)
          have j2 : Below w4.heap.size _ w5 := ((Below.refl w4.heap.size (wi.alloc (.cells #[.int .i64 (k : Int)] 3))).alloc hszJ _).grown HG.out (by simp; omega) fun k hk => (HO.out.lt k hk).1
          go_roundw
          case rel => exact ⟨i + 1, by omega, by simp, by unfold OwnTk; rw [HE.out.1, HE.out.2]; exact HO3.out, HBJ.out.trans j2⟩
          case measure => simp [intOf]; omega
        · have dk : ((i : Int) != (k : Int)) = true := by simp; omega
          have HIK := Lib.hid (HANY.out hik)
          clear hik
          go_wp2_with (at_builtin; refine wpList_append_own _ rfl _ _ 22 rfl w4.heap.size 39 i9 (.agg #[.string { data := #[] }, .string { data := #[] }, .string { data := #[] }, .int .i64 0, .int .i64 0, .string { data := #[] }]) 6 80 Tryz.underlying22 hi9 hy0 hy1 hy2 rfl (by decide) _ _ _ rfl (HO.out.alloc _) ⟨wi.heap.size + 1, 0, none⟩ 1 1 [.string (bs t.text), .string (bs t.norm), .string (bs t.page), .int .i64 t.line, .int .i64 t.flags, .string (bs t.name)] rfl rfl (by simpa using HNW.out) (by simp [Value.oneCell']) (by unfold maxLen; omega) (by omega) (by simp; omega) ?_; intro v1 w5 hown1 hgrow1 _; have HO3 := Lib.hid hown1; have HG := Lib.hid hgrow1; have kc5 := (((BlkK.new wi #[.int .i64 (k : Int)] 3).below (balloc _ _)).keptE hgrow1 (BlkK.apart (BlkK.new wi #[.int .i64 (k : Int)] 3) HO.out (by decide))).cell (i := 0) (u := .int .i64 (k : Int)) rfl; clear hown1 hgrow1)
          have j2 : Below w4.heap.size _ w5 := ((Below.refl w4.heap.size (wi.alloc (.cells #[.int .i64 (k : Int)] 3))).alloc hszJ _).grown HG.out (by simp; omega) fun k hk => (HO.out.lt k hk).1
          have HB5 := Lib.hid (HBJ.out.trans j2)
          refine (any29 P (k : Int) wi.heap.size ap _ cp w5 (HRP.out.mono (Nat.le_refl _) (bstep (bstep HX3.out HX4.out) HB5.out)) kc5).mono ?_
          rw [HIK.out]
          rintro e w6 ⟨rfl, hb6⟩
          have HX6 := Lib.hid hb6
          clear hb6 kc5 j2
          go_wp2_with (fail)
          go_roundw
          case rel => exact ⟨i + 1, by omega, by simp, by unfold OwnTk; rw [HE.out.1, HE.out.2]; exact owns_below HO3.out HX6.out, bstep HB5.out HX6.out⟩
          case measure => simp [intOf]; omega
      · obtain rfl : n2 = i := by omega
        rw [show U.take n2 = U from List.take_of_length_le (by rw [HUL.out]; exact Nat.le_refl _)] at ho
        have hol : (ordT ys U).length = n2 := by unfold ordT; rw [List.length_map, HUL.out]
        obtain ⟨ac, cc, rfl, ht⟩ := ho.toks (by rw [hol]; omega) (fun t ht => by
          obtain ⟨k, hk⟩ := List.getElem?_of_mem (ordT_mem (by rw [hl2]; exact HULT.out) ht)
          obtain ⟨_, _, _, hr⟩ := HY.out.cells k t hk
          exact hr.2)
        rw [hol] at ht ⊢
        have HTC := Lib.hid ht
        have HB6 := Lib.hid (bstep HB4.out HBI.out)
        clear hb ho ht hol
        go_wp2_with (fail)
        refine (HDC.out _ HB6.out ac n2 cc HTC.out).mono ?_
        rintro e w7 ⟨rfl, hb⟩
        have HTC := Lib.hid (HTC.out.mono (Nat.le_refl _) hb)
        have HB7 := Lib.hid (bstep HB6.out hb)
        clear hb
        go_wp2_with (fail)
        refine (HPC.out _ HB7.out ac n2 cc HTC.out).mono ?_
        rintro e w8 ⟨v, rfl, ho, hb⟩
        obtain ⟨aq, cq, rfl, -⟩ := ho.rows (by omega) HR3.out
        have HB8 := Lib.hid (bstep HB7.out hb)
        have dl : ((((rowsP P3).length : Nat) : Int) == (((rowsP P).length : Nat) : Int)) = true := by rw [HPCL.out]; simp
        clear ho hb
        generalize (rowsP P3).length = N3 at *
        generalize (rowsP P).length = N1 at *
        go_wp2_with (fail)
        refine (HAW.out _ HB8.out).mono ?_
        rintro e w9 ⟨rfl, hb⟩
        have HB9 := Lib.hid (bstep HB8.out hb)
        clear hb
        go_wp2_with (fail)
        go_ret
        exact ⟨rfl, HB9.out⟩
end Go.Proofs.YtbahddjbncinbaaGreatDoor
