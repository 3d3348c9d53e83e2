/-
  RewritingSteps.
-/
import Derived.Test.YtamdonlncfmmmaaW24
namespace Go.Proofs.Ytamdonlncfmmmaa
open Go.RowKit Go.Ap Go.Shelf Go.Proofs

attribute [local go_sem] Oper.semAt_some bs_toList empty_toList bs_size ext_drop ext_take bs_append

set_option maxRecDepth 100000 in
set_option maxHeartbeats 2000000 in
theorem law4 (a : Option Addr) (n c : Nat) (rs : List Rule) (s : Str) (w : World) (h : Rls w a n rs) (hs : s.length ≤ 4611686018427387903) :
    Calls Try.prog 4 #[.slice a n c, .string (bs s)] w fun e w' => e = .returned (.bool true) ∧ Below w.heap.size w w' := by
  have HX := fun W (hb : Below w.heap.size w W) => h.mono (Nat.le_refl _) hb
  have H11 := Lib.hid (great11 a n c rs w h)
  have H12 := Lib.hid (long12 s 10 w hs)
  have H13 := Lib.hid awake13
  have H22 := Lib.hid (fun W hb => step22 a n c rs s W (HX W hb) hs)
  have H23 := Lib.hid (fun W hb => refstep23 a n c rs s W (HX W hb) hs)
  have H24 := Lib.hid (fun W hb => normalize24 a n c rs s W (HX W hb) hs)
  have H25 := Lib.hid (fun W hb => refnormalize25 a n c rs s W (HX W hb) hs)
  have H26 := Lib.hid (fun W hb => trace26 a n c rs s W (HX W hb) hs)
  have H27 := Lib.hid (fun W hb => reftrace27 a n c rs s W (HX W hb) hs)
  have H28 := Lib.hid (fun W hb => normal28 a n c rs s W (HX W hb) hs)
  have H29 := Lib.hid (fun W hb => refnormal29 a n c rs s W (HX W hb) hs)
  have H30 := Lib.hid (fun W hb => check30 a n c rs W (HX W hb))
  have H31 := Lib.hid (fun W hb => refcheck31 a n c rs W (HX W hb))
  have HTL := Lib.hid (TrE_len (rs := rs) (s := s))
  generalize greatB rs = g at *
  generalize longB s 10 = l at *
  generalize StE rs s = st at *
  generalize NfE rs s = nf at *
  generalize TrE rs s = tr at *
  generalize NoE rs s = no at *
  generalize chkR rs = q at *
  clear HX h
  cases g
  · cases l
    · go_enter Try.func4, Try.ntmps4
      go_wp2_with (fail)
      refine H11.out.mono ?_
      rintro e w' ⟨rfl, rfl⟩
      go_wp2_with (fail)
      refine H12.out.mono ?_
      rintro e w' ⟨rfl, rfl⟩
      go_wp2_with (fail)
      refine (H22.out _ (Below.refl _ _)).mono ?_
      rintro e w1 ⟨rfl, hb⟩
      have B1 := Lib.hid hb
      clear hb
      go_wp2_with (fail)
      refine (H23.out _ B1.out).mono ?_
      rintro e w2 ⟨rfl, hb⟩
      have B2 := Lib.hid (bstep B1.out hb)
      clear hb B1
      go_wp2_with (fail)
      refine (H24.out _ B2.out).mono ?_
      rintro e w3 ⟨rfl, hb⟩
      have B3 := Lib.hid (bstep B2.out hb)
      clear hb B2
      go_wp2_with (fail)
      refine (H25.out _ B3.out).mono ?_
      rintro e w4 ⟨rfl, hb⟩
      have B4 := Lib.hid (bstep B3.out hb)
      clear hb B3
      go_wp2_with (fail)
      refine (H26.out _ B4.out).mono ?_
      rintro e w5 ⟨v5, rfl, ho, hb⟩
      obtain ⟨a5, c5, rfl, hv⟩ := ho.strs (Nat.le_trans HTL.out (by omega))
      have B5 := Lib.hid (bstep B4.out hb)
      have V5 := Lib.hid hv
      clear hb B4 hv ho
      go_wp2_with (fail)
      refine (H27.out _ B5.out).mono ?_
      rintro e w6 ⟨v6, rfl, ho, hb⟩
      obtain ⟨a6, c6, rfl, hv⟩ := ho.strs (Nat.le_trans HTL.out (by omega))
      have B6 := Lib.hid (bstep B5.out hb)
      have V6 := Lib.hid (And.intro (V5.out.mono (Nat.le_refl _) hb) hv)
      clear hb B5 hv ho V5
      go_wp2_with (fail)
      refine (H28.out _ B6.out).mono ?_
      rintro e w7 ⟨rfl, hb⟩
      have B7 := Lib.hid (bstep B6.out hb)
      have V7 := Lib.hid (And.intro (V6.out.1.mono (Nat.le_refl _) hb) (V6.out.2.mono (Nat.le_refl _) hb))
      clear hb B6 V6
      go_wp2_with (fail)
      refine (H29.out _ B7.out).mono ?_
      rintro e w8 ⟨rfl, hb⟩
      have B8 := Lib.hid (bstep B7.out hb)
      have V8 := Lib.hid (And.intro (V7.out.1.mono (Nat.le_refl _) hb) (V7.out.2.mono (Nat.le_refl _) hb))
      clear hb B7 V7
      go_wp2_with (fail)
      refine (H30.out _ B8.out).mono ?_
      rintro e w9 ⟨rfl, hb⟩
      have B9 := Lib.hid (bstep B8.out hb)
      have V9 := Lib.hid (And.intro (V8.out.1.mono (Nat.le_refl _) hb) (V8.out.2.mono (Nat.le_refl _) hb))
      clear hb B8 V8
      go_wp2_with (fail)
      refine (H31.out _ B9.out).mono ?_
      rintro e w10 ⟨rfl, q10, hq10⟩
      have hb : Below w9.heap.size w9 w10 := by rw [hq10]; exact bdrewN _ _
      clear hq10
      have B10 := Lib.hid (bstep B9.out hb)
      have V10 := Lib.hid (equal20 a5 a6 c5 c6 _ _ _ _ w10 (V9.out.1.mono (Nat.le_refl _) hb) (V9.out.2.mono (Nat.le_refl _) hb))
      clear hb B9 V9
      go_wp2_with (fail)
      refine V10.out.mono ?_
      rintro e w11 ⟨rfl, q, hq⟩
      have hb : Below w10.heap.size w10 w11 := by rw [hq]; exact bdrewN _ _
      have B11 := Lib.hid (bstep B10.out hb)
      clear hq hb V10 B10
      go_wp2_with (fail)
      refine (H13.out w11).mono ?_
      rintro e w12 ⟨rfl, hb⟩
      have B12 := Lib.hid (bstep B11.out hb)
      clear hb
      go_wp2_with (fail)
      go_ret
      exact ⟨rfl, B12.out⟩
    · go_enter Try.func4, Try.ntmps4
      go_wp2_with (fail)
      refine H11.out.mono ?_
      rintro e w' ⟨rfl, rfl⟩
      go_wp2_with (fail)
      refine H12.out.mono ?_
      rintro e w' ⟨rfl, rfl⟩
      go_wp2_with (fail)
      refine (H13.out _).mono ?_
      rintro e w12 ⟨rfl, hb⟩
      go_wp2_with (fail)
      go_ret
      exact ⟨rfl, hb⟩
  · go_enter Try.func4, Try.ntmps4
    go_wp2_with (fail)
    refine H11.out.mono ?_
    rintro e w' ⟨rfl, rfl⟩
    go_wp2_with (fail)
    refine (H13.out _).mono ?_
    rintro e w12 ⟨rfl, hb⟩
    go_wp2_with (fail)
    go_ret
    exact ⟨rfl, hb⟩
end Go.Proofs.Ytamdonlncfmmmaa
