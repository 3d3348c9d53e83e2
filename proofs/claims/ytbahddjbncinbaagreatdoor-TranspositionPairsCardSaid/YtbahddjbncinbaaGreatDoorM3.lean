/-
  TranspositionPairs: the law.
-/
import Derived.Test.YtbahddjbncinbaaGreatDoorAk
namespace Go.Proofs.YtbahddjbncinbaaGreatDoor
open Go.RowKit Go.Ap Go.Shelf Go.Proofs

attribute [local go_sem] Oper.semAt_some bs_toList empty_toList bs_size bs_extract
set_option maxRecDepth 100000 in
set_option maxHeartbeats 8000000 in
theorem law3 (a1 : Option Addr) (n1 c1 : Nat) (xs : List Tok) (a2 : Option Addr) (n2 c2 : Nat) (ys : List Tok) (w : World) (h1 : Toks w a1 n1 xs) (h2 : Toks w a2 n2 ys) (hev : EV w) :
    Calls Tryz.prog 3 #[.slice a1 n1 c1, .slice a2 n2 c2] w fun e w' => e = .returned (.bool true) ∧ Below w.heap.size w w' := by
  have HG := Lib.hid (great12 a1 n1 c1 a2 n2 c2 xs ys w h1 h2)
  have HAW := Lib.hid (fun W (hb : Below w.heap.size w W) => awake13 W (hev.mono (Nat.le_refl _) hb))
  have HPP := Lib.hid (fun W (hb : Below w.heap.size w W) => PairsP xs ys a1 n1 c1 a2 n2 c2 W (h1.mono (Nat.le_refl _) hb) (h2.mono (Nat.le_refl _) hb) (hev.mono (Nat.le_refl _) hb))
  have HPR := Lib.hid (fun W (hb : Below w.heap.size w W) => PairsR xs ys a1 n1 c1 a2 n2 c2 W (h1.mono (Nat.le_refl _) hb) (h2.mono (Nat.le_refl _) hb))
  have HCP := Lib.hid (fun W (hb : Below w.heap.size w W) => ChainP xs ys a1 n1 c1 a2 n2 c2 W (h1.mono (Nat.le_refl _) hb) (h2.mono (Nat.le_refl _) hb) (hev.mono (Nat.le_refl _) hb))
  have HCR := Lib.hid (fun W (hb : Below w.heap.size w W) => ChainR xs ys a1 n1 c1 a2 n2 c2 W (h1.mono (Nat.le_refl _) hb) (h2.mono (Nat.le_refl _) hb))
  have HUP := Lib.hid (fun W (hb : Below w.heap.size w W) => UndoP xs ys a1 n1 c1 a2 n2 c2 W (h1.mono (Nat.le_refl _) hb) (h2.mono (Nat.le_refl _) hb) (hev.mono (Nat.le_refl _) hb))
  have HUR := Lib.hid (fun W (hb : Below w.heap.size w W) => UndoR xs ys a1 n1 c1 a2 n2 c2 W (h1.mono (Nat.le_refl _) hb) (h2.mono (Nat.le_refl _) hb))
  have hp1 : (rowsP (prsE xs ys)).length ≤ 1024 := by rw [rowsP_len]; exact prsE_len
  have hpu : (castL (undE xs ys)).length ≤ 1024 := by
    rw [castL_len]
    unfold undE
    split
    · rename_i hk
      rw [undo_len]
      exact (chkT_zero hk).2.1
    · simp
  have hr2 : ∀ r ∈ rowsP (prsE xs ys), r.length ≤ 4611686018427387903 := rows_two
  obtain ⟨er, hrr⟩ : ∃ er, chkT xs ys = er := ⟨_, rfl⟩
  obtain ⟨P, hP⟩ : ∃ P, rowsP (prsE xs ys) = P := ⟨_, rfl⟩
  obtain ⟨C, hC⟩ : ∃ C, rowsP (chnE xs ys) = C := ⟨_, rfl⟩
  obtain ⟨U, hU⟩ : ∃ U, castL (undE xs ys) = U := ⟨_, rfl⟩
  rw [hrr, hP] at HPP HPR
  rw [hrr, hC] at HCP HCR
  rw [hrr, hU] at HUP HUR
  rw [hP] at hp1 hr2
  rw [hU] at hpu
  have HR2 := Lib.hid hr2
  have d1 : (er == er) = true := by simp
  clear h1 h2 hev hrr hP hC hU hr2
  go_enter Tryz.func3, Tryz.ntmps3
  go_wp2_with (fail)
  refine HG.out.mono ?_
  rintro e w1 ⟨⟨b1, rfl⟩, hb⟩
  have HB1 := Lib.hid hb
  clear hb
  cases b1
  · go_wp2_with (fail)
    refine (HPP.out _ HB1.out).mono ?_
    rintro e w2 ⟨v, rfl, ho, hb⟩
    obtain ⟨ap, cp, rfl, hr⟩ := ho.rows (by omega) HR2.out
    have HRP := Lib.hid hr
    have HX2 := Lib.hid hb
    have HB2 := Lib.hid (bstep HB1.out hb)
    clear ho hb hr
    go_wp2_with (fail)
    refine (HPR.out _ HB2.out).mono ?_
    rintro e w3 ⟨v, rfl, ho, hb⟩
    obtain ⟨ar, cr, rfl, hr⟩ := ho.rows (by omega) HR2.out
    have HRR := Lib.hid hr
    have HX3 := Lib.hid hb
    have HB3 := Lib.hid (bstep HB2.out hb)
    clear ho hb hr
    go_wp2_with (fail)
    refine (HCP.out _ HB3.out).mono ?_
    rintro e w4 ⟨acp, ccp, rfl, hr, _, hb⟩
    have HCC := Lib.hid hr
    have HX4 := Lib.hid hb
    have HB4 := Lib.hid (bstep HB3.out hb)
    clear hb hr
    go_wp2_with (fail)
    refine (HCR.out _ HB4.out).mono ?_
    rintro e w5 ⟨acr, ccr, rfl, hr, _, hb⟩
    have HCD := Lib.hid hr
    have HX5 := Lib.hid hb
    have HB5 := Lib.hid (bstep HB4.out hb)
    clear hb hr
    go_wp2_with (fail)
    refine (HUP.out _ HB5.out).mono ?_
    rintro e w6 ⟨v, rfl, ho, hb⟩
    obtain ⟨aup, cup, rfl, hr⟩ := ho.ints (by omega)
    have HUU := Lib.hid hr
    have HX6 := Lib.hid hb
    have HB6 := Lib.hid (bstep HB5.out hb)
    clear ho hb hr
    go_wp2_with (fail)
    refine (HUR.out _ HB6.out).mono ?_
    rintro e w7 ⟨v, rfl, ho, hb⟩
    obtain ⟨aur, cur, rfl, hr⟩ := ho.ints (by omega)
    have HUV := Lib.hid hr
    have HX7 := Lib.hid hb
    have HB7 := Lib.hid (bstep HB6.out hb)
    have HX57 := Lib.hid (bstep (bstep HX5.out HX6.out) HX7.out)
    have HX37 := Lib.hid (bstep (bstep HX3.out HX4.out) HX57.out)
    clear ho hb hr
    go_wp2_with (fail)
    refine (sameCols P P ap _ cp ar _ cr w7 (HRP.out.mono (Nat.le_refl _) HX37.out) (HRR.out.mono (Nat.le_refl _) (bstep HX4.out HX57.out)) rfl).mono ?_
    rintro e w8 ⟨rfl, hb⟩
    have HX8 := Lib.hid hb
    have HB8 := Lib.hid (bstep HB7.out hb)
    clear hb
    go_wp2_with (fail)
    refine (sameCols C C acp _ ccp acr _ ccr w8 (HCC.out.mono (Nat.le_refl _) (bstep HX57.out HX8.out)) (HCD.out.mono (Nat.le_refl _) (bstep (bstep HX6.out HX7.out) HX8.out)) rfl).mono ?_
    rintro e w9 ⟨rfl, hb⟩
    have HX9 := Lib.hid hb
    have HB9 := Lib.hid (bstep HB8.out hb)
    clear hb
    go_wp2_with (fail)
    refine (eqInts aup aur cup cur _ _ U U w9 (HUU.out.mono (Nat.le_refl _) (bstep (bstep HX7.out HX8.out) HX9.out)) (HUV.out.mono (Nat.le_refl _) (bstep HX8.out HX9.out))).mono ?_
    rw [show decide (U = U) = true by simp]
    rintro e w10 ⟨rfl, q, rfl⟩
    have HB10 := Lib.hid (bstep HB9.out (bdrewN _ q))
    go_wp2_with (fail)
    refine (HAW.out _ HB10.out).mono ?_
    rintro e w11 ⟨rfl, hb⟩
    have HB11 := Lib.hid (bstep HB10.out hb)
    clear hb
    go_wp2_with (fail)
    go_ret
    exact ⟨rfl, HB11.out⟩
  · go_wp2_with (fail)
    refine (HAW.out _ HB1.out).mono ?_
    rintro e w2 ⟨rfl, hb⟩
    have HB2 := Lib.hid (bstep HB1.out hb)
    clear hb
    go_wp2_with (fail)
    go_ret
    exact ⟨rfl, HB2.out⟩
end Go.Proofs.YtbahddjbncinbaaGreatDoor
