/-
  Chain of both sides.
-/
import Derived.Test.YtbahddjbncinbaaGreatDoorCe
namespace Go.Ap
open Go Go.RowKit
/-- what Chain answers -/
def chnE (xs ys : List Tok) : List (Nat × Nat) := inL (prsE xs ys)
def GivesRows (w : World) (rows : List (List Int)) (er : Int) (e : Ending) (w' : World) : Prop := ∃ a c, e = .returned (.tuple #[.slice a rows.length c, .int .i64 er]) ∧ Rows2 w' a rows.length rows ∧ rows.length ≤ c ∧ Below w.heap.size w w'
theorem rows_two {l : List (Nat × Nat)} : ∀ xs ∈ rowsP l, xs.length ≤ 4611686018427387903 := fun xs h => by
  obtain ⟨p, _, rfl⟩ := List.mem_map.1 h
  simp [rowP]
theorem OwnTb.capL {w : World} {base n c : Nat} {a : Option Addr} {xss : List (List Int)} (h : OwnTb w base (.slice a n c) xss) : n ≤ c := by
  obtain ⟨vs, h1, _⟩ := h
  rcases h1.2 with ⟨he, h0⟩ | ⟨g, cap, cur, he, _, _, hr⟩
  · cases he; exact Nat.zero_le _
  · cases he
    exact hr.1
theorem OwnW.capL {w0 w : World} {base n c : Nat} {a : Option Addr} {xss : List (List Int)} (h : OwnW w0 w base (.slice a n c) xss) : n ≤ c := by
  obtain ⟨vs, h1, _⟩ := h
  rcases h1.2 with ⟨he, h0⟩ | ⟨g, cap, cur, he, _, _, hr⟩
  · cases he; exact Nat.zero_le _
  · cases he
    exact hr.1
theorem chnE_nil {xs ys : List Tok} (h : chkT xs ys ≠ 0) : rowsP (chnE xs ys) = [] := by
  unfold chnE prsE
  rw [if_neg h]
  rfl
theorem prsE_len {xs ys : List Tok} : (prsE xs ys).length ≤ 1024 := by
  unfold prsE
  split
  · rename_i h
    have h1 := (chkT_zero h).1
    have := prsF_len (keysT xs) (keysT ys) (keysT xs).length
    rw [prsF_all, keysT_len] at this
    omega
  · simp
end Go.Ap
namespace Go.Proofs.YtbahddjbncinbaaGreatDoor
open Go.RowKit Go.Ap Go.Shelf Go.Proofs

attribute [local go_sem] Oper.semAt_some bs_toList empty_toList bs_size bs_extract
set_option maxRecDepth 100000 in
set_option maxHeartbeats 4000000 in
theorem ChainP (xs ys : List Tok) (a1 : Option Addr) (n1 c1 : Nat) (a2 : Option Addr) (n2 c2 : Nat) (w : World) (h1 : Toks w a1 n1 xs) (h2 : Toks w a2 n2 ys) (hv : EV w) :
    Calls Tryz.prog 16 #[.slice a1 n1 c1, .slice a2 n2 c2] w (GivesRows w (rowsP (chnE xs ys)) (chkT xs ys)) := by
  have HC := Lib.hid (checkP xs ys a1 n1 c1 a2 n2 c2 w h1 h2 hv)
  by_cases hk : chkT xs ys = 0
  · obtain ⟨g1, g2, g3, g4⟩ := chkT_zero hk
    have HP := Lib.hid (fun W (hb : Below w.heap.size w W) => pairsP xs ys a1 n1 c1 a2 n2 c2 W (Toks.mono h1 (Nat.le_refl _) hb) (Toks.mono h2 (Nat.le_refl _) hb) (fun t ht => tok_flags (g3 t ht)) (fun t ht => tok_flags (g4 t ht)) (by have := h1.len; omega) (by have := h2.len; omega))
    have HE := Lib.hid (show prsE xs ys = pairsL (keysT xs) (keysT ys) by unfold prsE; rw [if_pos hk])
    have hpl := @prsE_len xs ys
    have HCE := Lib.hid (show chnE xs ys = inL (prsE xs ys) from rfl)
    obtain ⟨l, hll⟩ : ∃ l, prsE xs ys = l := ⟨_, rfl⟩
    rw [hll] at HE hpl HCE
    rw [← HE.out] at HP
    rw [hk] at HC ⊢
    rw [HCE.out]
    clear h1 h2 hv hk g1 g2 g3 g4 hll
    unfold GivesRows
    go_enter Tryz.func16, Tryz.ntmps16
    go_wp2_with (fail)
    refine HC.out.mono ?_
    rintro e wa ⟨rfl, hba⟩
    have HBA := Lib.hid hba
    clear hba
    go_wp2_with (fail)
    refine (HP.out _ HBA.out).mono ?_
    rintro e wb ⟨v, rfl, ho, hb⟩
    obtain ⟨ap, kp, rfl, hr⟩ := ho.rows (by rw [rowsP_len]; omega) rows_two
    rw [rowsP_len] at hr ⊢
    have HCH := Lib.hid (chainP l ap l.length kp wb hr hpl)
    have HB := Lib.hid (bstep HBA.out hb)
    clear ho hb hr
    go_wp2_with (fail)
    refine HCH.out.mono ?_
    rintro e wc ⟨v1, v2, rfl, hch, hb⟩
    have hil : (rowsP (inL l)).length ≤ 4611686018427387903 := by have := in_out_len l; rw [rowsP_len]; omega
    obtain ⟨ai, ki, rfl, hri⟩ := hch.1.rows hb hil
    have hcap := hch.1.capL
    have HRI := Lib.hid hri
    have HB2 := Lib.hid (bstep HB.out hb)
    clear hch hb hri hil
    go_wp2_with (fail)
    go_ret2
    exact ⟨_, _, rfl, HRI.out, hcap, HB2.out⟩
  · have HE := Lib.hid (chnE_nil hk)
    have dn : (chkT xs ys != 0) = true := by simpa using hk
    obtain ⟨k, hk2⟩ : ∃ k, chkT xs ys = k := ⟨_, rfl⟩
    rw [hk2] at HC dn ⊢
    rw [HE.out]
    clear h1 h2 hv hk hk2
    unfold GivesRows
    go_enter Tryz.func16, Tryz.ntmps16
    go_wp2_with (fail)
    refine HC.out.mono ?_
    rintro e wa ⟨rfl, hba⟩
    have HBA := Lib.hid hba
    clear hba
    go_wp2_with (fail)
    go_ret2
    exact ⟨_, _, rfl, Sl.nil _ _, Nat.le_refl _, HBA.out⟩
set_option maxRecDepth 100000 in
set_option maxHeartbeats 4000000 in
theorem ChainR (xs ys : List Tok) (a1 : Option Addr) (n1 c1 : Nat) (a2 : Option Addr) (n2 c2 : Nat) (w : World) (h1 : Toks w a1 n1 xs) (h2 : Toks w a2 n2 ys) :
    Calls Tryz.prog 17 #[.slice a1 n1 c1, .slice a2 n2 c2] w (GivesRows w (rowsP (chnE xs ys)) (chkT xs ys)) := by
  obtain ⟨ir, hir, hr0, hr1, hr2⟩ := info_parts infoRw
  have HC := Lib.hid (checkR xs ys a1 n1 c1 a2 n2 c2 w h1 h2)
  by_cases hk : chkT xs ys = 0
  · obtain ⟨g1, g2, g3, g4⟩ := chkT_zero hk
    have HP := Lib.hid (fun W (hb : Below w.heap.size w W) => pairsR xs ys a1 n1 c1 a2 n2 c2 W (Toks.mono h1 (Nat.le_refl _) hb) (Toks.mono h2 (Nat.le_refl _) hb) (fun t ht => (tok_flags (g3 t ht)).1) (fun t ht => (tok_flags (g4 t ht)).1) (by have := h1.len; omega) (by have := h2.len; omega))
    have HE := Lib.hid (show prsE xs ys = pairsL (keysT xs) (keysT ys) by unfold prsE; rw [if_pos hk])
    have hpl := @prsE_len xs ys
    have HCE := Lib.hid (show chnE xs ys = inL (prsE xs ys) from rfl)
    obtain ⟨l, hll⟩ : ∃ l, prsE xs ys = l := ⟨_, rfl⟩
    rw [hll] at HE hpl HCE
    rw [← HE.out] at HP
    rw [hk] at HC ⊢
    rw [HCE.out]
    clear h1 h2 hk g1 g2 g3 g4 hll
    unfold GivesRows
    go_enter Tryz.func17, Tryz.ntmps17
    go_wp2_with (fail)
    refine HC.out.mono ?_
    rintro e wa ⟨rfl, hba⟩
    have HBA := Lib.hid hba
    clear hba
    go_wp2_with (fail)
    refine (HP.out _ HBA.out).mono ?_
    rintro e wb ⟨v, rfl, ho, hb⟩
    obtain ⟨ap, kp, rfl, hr⟩ := ho.rows (by rw [rowsP_len]; omega) rows_two
    rw [rowsP_len] at hr ⊢
    have HCH := Lib.hid (chainedR l ap l.length kp wb hr hpl)
    have HB := Lib.hid (bstep HBA.out hb)
    have HR := Lib.hid hr
    obtain ⟨n, hn⟩ : ∃ n, l.length = n := ⟨_, rfl⟩
    rw [hn] at HCH HR hpl ⊢
    have HN := Lib.hid hn
    clear ho hb hr hn
    go_wp2_with (fail)
    refine HCH.out.mono ?_
    rintro e wc ⟨S, rfl, hS, hb⟩
    obtain ⟨L, hL⟩ : ∃ L, incF (secsL l) = L := ⟨_, rfl⟩
    have HINL := Lib.hid (show inL l = selF (fun i => L.contains i) l 0 by unfold inL; rw [hL])
    rw [hL] at hS
    have HS := Lib.hid hS
    have HBC := Lib.hid hb
    have HB2 := Lib.hid (bstep HB.out hb)
    clear hS hb hL
    go_wp2_with (fail)
    go_loopw [9, 10] (fun ov iv wr => ∃ i : Nat, i ≤ n ∧ iv = .int .i64 i ∧ OwnW wb wr wc.heap.size ov (rowsP (selF (fun i => L.contains i) (l.take i) 0)) ∧ Below wc.heap.size wc wr) (fun _ iv _ => n - (intOf iv).toNat)
    case atStart => exact ⟨0, Nat.zero_le _, rfl, OwnW.nil _ _ _, Below.refl _ _⟩
    case round =>
      obtain ⟨wi, rfl⟩ : ∃ wi : World, wi = wr := ⟨_, rfl⟩
      obtain ⟨i, hi, rfl, ho, hb⟩ := hrel
      have HO := Lib.hid ho
      have HBI := Lib.hid hb
      have hsz := hb.size
      by_cases hin : i < n
      · obtain ⟨row, b1, o1, v1, hx, rfl, hc1, ar, nr, kr, rfl, hr⟩ := HR.out.at hin
        obtain ⟨p, hp, rfl⟩ : ∃ p, l[i]? = some p ∧ rowP p = row := by
          unfold rowsP at hx
          rw [List.getElem?_map] at hx
          exact Option.map_eq_some_iff.1 hx
        have HRW := Lib.hid (show RowR wb (.slice ar nr kr) (rowP p) from ⟨ar, nr, kr, rfl, hr⟩)
        have v1 := cell_keep (bstep HBC.out hb) hc1
        have cs := (HS.out.kept hb).cell (k := i) (by rw [hasB_len]; exact hin)
        rw [hasB_at hin, List.take_length] at cs
        have HTI := Lib.hid (selF_take (p := fun i => L.contains i) (i := 0) hp)
        have i1 : (i : Int) < (n : Int) := by omega
        obtain ⟨bb, hbb⟩ : ∃ b, L.contains i = b := ⟨_, rfl⟩
        rw [hbb] at cs
        have HBBB := Lib.hid hbb
        clear hx hp hr hc1 hb ho hbb
        cases bb
        · go_wp2_with (fail)
          go_roundw
          case rel => exact ⟨i + 1, by omega, by simp, by rw [HTI.out]; simp only [Nat.zero_add, HBBB.out, Bool.false_eq_true, if_false, List.append_nil]; exact HO.out, HBI.out⟩
          case measure => simp [intOf]; omega
        · obtain ⟨vs, hrow, hnx⟩ := OwnV.ready HO.out
          obtain ⟨nu, hnu⟩ : ∃ nu, (rowsP (selF (fun i => L.contains i) (l.take i) 0)).length = nu := ⟨_, rfl⟩
          have hnub : nu ≤ 1024 := by have := (selF_sub (p := fun i => L.contains i) (l.take i) 0).length_le; rw [← hnu, rowsP_len]; have := List.length_take_le i l; omega
          rw [hnu] at hrow hnx
          have HROW := Lib.hid hrow
          have HNX := Lib.hid hnx
          clear hrow hnx hnu
          go_wp2_with (at_builtin; refine wpList_append_own _ rfl _ _ 25 rfl wc.heap.size 29 ir (.slice none 0 0) 1 24 Tryz.underlying25 hir hr0 hr1 hr2 rfl (by decide) _ _ _ rfl (HROW.out.alloc _) ⟨wi.heap.size, 0, none⟩ 1 1 [.slice ar nr kr] rfl rfl (cell_one_new _ _ _) (by simp [Value.oneCell']) (by unfold maxLen; omega) (by omega) (by simp; omega) ?_; intro v9 w4 hown hgrow _; have HOWN := Lib.hid hown; have HG := Lib.hid hgrow; clear hown hgrow)
          have j1 := HNX.out _ _ _ (rowP p) HOWN.out HRW.out
          have j2 : Below wc.heap.size wi w4 := ((Below.refl wc.heap.size wi).alloc hsz _).grown HG.out (by simp; omega) fun k hk => (HROW.out.lt k hk).1
          go_roundw
          case rel => exact ⟨i + 1, by omega, by simp, by rw [HTI.out]; simp only [Nat.zero_add, HBBB.out, if_true]; unfold rowsP at j1 ⊢; rw [List.map_append]; exact j1, HBI.out.trans j2⟩
          case measure => simp [intOf]; omega
      · obtain rfl : n = i := by omega
        have ho := HO.out
        rw [show l.take n = l from List.take_of_length_le (by rw [HN.out]; exact Nat.le_refl _), ← HINL.out] at ho
        have hil : (rowsP (inL l)).length ≤ 4611686018427387903 := by have := in_out_len l; have := HN.out; rw [rowsP_len]; omega
        obtain ⟨ai, ki, rfl, hri⟩ := ho.rows (bstep HBC.out hb) hil
        have hcap := ho.capL
        have HRI := Lib.hid hri
        clear ho hb hri hil HO
        go_wp2_with (fail)
        go_ret2
        exact ⟨_, _, rfl, HRI.out, hcap, bstep HB2.out HBI.out⟩
  · have HE := Lib.hid (chnE_nil hk)
    have dn : (chkT xs ys != 0) = true := by simpa using hk
    obtain ⟨k, hk2⟩ : ∃ k, chkT xs ys = k := ⟨_, rfl⟩
    rw [hk2] at HC dn ⊢
    rw [HE.out]
    clear h1 h2 hk hk2
    unfold GivesRows
    go_enter Tryz.func17, Tryz.ntmps17
    go_wp2_with (fail)
    refine HC.out.mono ?_
    rintro e wa ⟨rfl, hba⟩
    have HBA := Lib.hid hba
    clear hba
    go_wp2_with (fail)
    go_ret2
    exact ⟨_, _, rfl, Sl.nil _ _, Nat.le_refl _, HBA.out⟩
end Go.Proofs.YtbahddjbncinbaaGreatDoor
