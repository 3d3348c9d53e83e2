/-
  TranspositionBlocks: the law.
-/
import Derived.Test.YtbahddjbncinbaaGreatDoorAk
import Derived.Test.YtbahddjbncinbaaGreatDoorEvt
import Derived.Test.YtbahddjbncinbaaGreatDoorBw
import Derived.Test.YtbahddjbncinbaaGreatDoorKc
import Derived.Test.YtbahddjbncinbaaGreatDoorKr
namespace Go.Proofs.YtbahddjbncinbaaGreatDoor
open Go.RowKit Go.Ap Go.Shelf Go.Proofs

attribute [local go_sem] Oper.semAt_some bs_toList empty_toList bs_size bs_extract
set_option maxRecDepth 100000 in
set_option maxHeartbeats 8000000 in
theorem law8 (a1 : Option Addr) (n1 c1 : Nat) (xs : List Tok) (a2 : Option Addr) (n2 c2 : Nat) (ys : List Tok) (a3 : Option Addr) (n3 c3 : Nat) (bl : List Blk) (w : World) (h1 : Toks w a1 n1 xs) (h2 : Toks w a2 n2 ys) (h3 : SlM 3 BlkM w a3 n3 bl) (hev : EV w) :
    Calls Tryz.prog 8 #[.slice a1 n1 c1, .slice a2 n2 c2, .slice a3 n3 c3] w fun e w' => e = .returned (.bool true) ∧ Below w.heap.size w w' := by
  have h3b : Blks w a3 n3 bl := ⟨h3.len, h3.small, fun k x hk => by obtain ⟨b, o, ha, hr⟩ := h3.cells k x hk; exact ⟨b, o, ha, hr.1⟩⟩
  have h3i : ∀ x ∈ bl, I64 x.fst ∧ I64 x.snd ∧ I64 x.len := fun x hx => by
    obtain ⟨k, hk⟩ := List.getElem?_of_mem hx
    obtain ⟨b, o, ha, hr⟩ := h3.cells k x hk
    exact hr.2
  have HG := Lib.hid (great12 a1 n1 c1 a2 n2 c2 xs ys w h1 h2)
  have HAW := Lib.hid (fun W (hb : Below w.heap.size w W) => awake13 W (hev.mono (Nat.le_refl _) hb))
  have HBP := Lib.hid (fun W (hb : Below w.heap.size w W) => BlocksP xs ys a1 n1 c1 a2 n2 c2 W (h1.mono (Nat.le_refl _) hb) (h2.mono (Nat.le_refl _) hb) (hev.mono (Nat.le_refl _) hb))
  have HBR := Lib.hid (fun W (hb : Below w.heap.size w W) => BlocksR xs ys a1 n1 c1 a2 n2 c2 W (h1.mono (Nat.le_refl _) hb) (h2.mono (Nat.le_refl _) hb))
  have HDP := Lib.hid (fun W (hb : Below w.heap.size w W) => DistanceP xs ys a1 n1 c1 a2 n2 c2 W (h1.mono (Nat.le_refl _) hb) (h2.mono (Nat.le_refl _) hb) (hev.mono (Nat.le_refl _) hb))
  have HDR := Lib.hid (fun W (hb : Below w.heap.size w W) => DistanceR xs ys a1 n1 c1 a2 n2 c2 W (h1.mono (Nat.le_refl _) hb) (h2.mono (Nat.le_refl _) hb))
  have HCP := Lib.hid (fun W (hb : Below w.heap.size w W) => CheckP xs ys a1 n1 c1 a2 n2 c2 bl a3 n3 c3 W (h1.mono (Nat.le_refl _) hb) (h2.mono (Nat.le_refl _) hb) (blks_mono h3b (Nat.le_refl _) hb) h3i (hev.mono (Nat.le_refl _) hb))
  have HCR := Lib.hid (fun W (hb : Below w.heap.size w W) => CheckR xs ys a1 n1 c1 a2 n2 c2 bl a3 n3 c3 W (h1.mono (Nat.le_refl _) hb) (h2.mono (Nat.le_refl _) hb) (blks_mono h3b (Nat.le_refl _) hb) h3i)
  have hbn : (bksE xs ys).length ≤ 1024 := by
    have := blkF_count (outL (prsE xs ys))
    have := out_len_le xs ys
    unfold bksE
    omega
  obtain ⟨er, hrr⟩ : ∃ er, chkT xs ys = er := ⟨_, rfl⟩
  obtain ⟨ce, hce⟩ : ∃ ce, chkE xs ys bl = ce := ⟨_, rfl⟩
  obtain ⟨K, hK⟩ : ∃ K, bksE xs ys = K := ⟨_, rfl⟩
  rw [hrr, hK] at HBP HBR HDP HDR
  rw [hce] at HCP HCR
  rw [hK] at hbn
  have d1 : (er == er) = true := by simp
  have d2 : (ce == ce) = true := by simp
  have d3 : ((K.length : Int) == (K.length : Int)) = true := by simp
  clear h1 h2 h3 h3b h3i hev hrr hce hK
  go_enter Tryz.func8, Tryz.ntmps8
  go_wp2_with (fail)
  refine HG.out.mono ?_
  rintro e w1 ⟨⟨b1, rfl⟩, hb⟩
  have HB1 := Lib.hid hb
  clear hb
  cases b1
  · by_cases h8 : 8 < n3
    · have d8 : decide ((8 : Int) < (n3 : Int)) = true := by rw [decide_eq_true_eq]; omega
      clear h8
      go_wp2_with (fail)
      refine (HAW.out _ HB1.out).mono ?_
      rintro e w2 ⟨rfl, hb⟩
      have HB2 := Lib.hid (bstep HB1.out hb)
      clear hb
      go_wp2_with (fail)
      go_ret
      exact ⟨rfl, HB2.out⟩
    · have d8 : decide ((8 : Int) < (n3 : Int)) = false := by rw [decide_eq_false_iff_not]; omega
      clear h8
      go_wp2_with (fail)
      refine (HBP.out _ HB1.out).mono ?_
      rintro e w2 ⟨v, rfl, ho, hb⟩
      obtain ⟨ap, cp, rfl, hr⟩ := ho.blks (by omega)
      have HRP := Lib.hid hr
      have HB2 := Lib.hid (bstep HB1.out hb)
      clear ho hb hr
      go_wp2_with (fail)
      refine (HBR.out _ HB2.out).mono ?_
      rintro e w3 ⟨v, rfl, ho, hb⟩
      obtain ⟨ar, cr, rfl, hr⟩ := ho.blks (by omega)
      have HRR := Lib.hid hr
      have HX3 := Lib.hid hb
      have HB3 := Lib.hid (bstep HB2.out hb)
      clear ho hb hr
      go_wp2_with (fail)
      refine (HDP.out _ HB3.out).mono ?_
      rintro e w4 ⟨rfl, hb⟩
      have HX4 := Lib.hid hb
      have HB4 := Lib.hid (bstep HB3.out hb)
      clear hb
      go_wp2_with (fail)
      refine (HDR.out _ HB4.out).mono ?_
      rintro e w5 ⟨rfl, hb⟩
      have HX5 := Lib.hid hb
      have HB5 := Lib.hid (bstep HB4.out hb)
      clear hb
      go_wp2_with (fail)
      refine (sameBks ap ar _ cp cr K w5 (blks_mono HRP.out (Nat.le_refl _) (bstep (bstep HX3.out HX4.out) HX5.out)) (blks_mono HRR.out (Nat.le_refl _) (bstep HX4.out HX5.out))).mono ?_
      rintro e w6 ⟨rfl, hb⟩
      have HB6 := Lib.hid (bstep HB5.out hb)
      clear hb
      go_wp2_with (fail)
      refine (HCP.out _ HB6.out).mono ?_
      rintro e w7 ⟨rfl, hb⟩
      have HB7 := Lib.hid (bstep HB6.out hb)
      clear hb
      go_wp2_with (fail)
      refine (HCR.out _ HB7.out).mono ?_
      rintro e w8 ⟨rfl, hb⟩
      have HB8 := Lib.hid (bstep HB7.out hb)
      clear hb
      go_wp2_with (fail)
      refine (HAW.out _ HB8.out).mono ?_
      rintro e w9 ⟨rfl, hb⟩
      have HB9 := Lib.hid (bstep HB8.out hb)
      clear hb
      go_wp2_with (fail)
      go_ret
      exact ⟨rfl, HB9.out⟩
  · go_wp2_with (fail)
    refine (HAW.out _ HB1.out).mono ?_
    rintro e w2 ⟨rfl, hb⟩
    have HB2 := Lib.hid (bstep HB1.out hb)
    clear hb
    go_wp2_with (fail)
    go_ret
    exact ⟨rfl, HB2.out⟩
end Go.Proofs.YtbahddjbncinbaaGreatDoor
