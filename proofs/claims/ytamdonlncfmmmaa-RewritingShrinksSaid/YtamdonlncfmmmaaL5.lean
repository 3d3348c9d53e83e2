/-
  RewritingConfluence.
-/
import Derived.Test.YtamdonlncfmmmaaPForm
namespace Go.Proofs.Ytamdonlncfmmmaa
open Go.RowKit Go.Ap Go.Shelf Go.Proofs

attribute [local go_sem] Oper.semAt_some bs_toList empty_toList bs_size ext_drop ext_take bs_append
attribute [local go_sem high] run_max3 run_max4

theorem StrsL.lit1 (W : World) (x : Str) : StrsL (W.alloc (.cells #[.string (bs x)] 9)) (some ⟨W.heap.size, 0, none⟩) 1 [x] := by
  have hb := World.alloc_heap_new W (.cells #[.string (bs x)] 9)
  refine ⟨rfl, by omega, fun k z hz => ?_⟩
  match k, hz with
  | 0, hz =>
    simp only [List.getElem?_cons_zero, Option.some.injEq] at hz
    subst hz
    exact ⟨_, _, _, rfl, by simp only [World.cell?, hb]; rfl, rfl⟩
  | k + 1, hz => simp at hz
set_option maxRecDepth 100000 in
set_option maxHeartbeats 2000000 in
theorem law5 (a : Option Addr) (n c : Nat) (rs : List Rule) (s : Str) (w : World) (h : Rls w a n rs) (hs : s.length ≤ 4611686018427387903) :
    Calls Try.prog 5 #[.slice a n c, .string (bs s)] w fun e w' => e = .returned (.bool true) ∧ Below w.heap.size w w' := by
  have B0 := Lib.hid ((Below.refl _ w).alloc (Nat.le_refl _) (.cells #[.string (bs s)] 9))
  have HX := fun W (hb : Below w.heap.size w W) => h.mono (Nat.le_refl _) hb
  have H32 := Lib.hid (fine32 a (some ⟨w.heap.size, 0, none⟩) n 1 c 1 rs [s] _ (HX _ B0.out) (StrsL.lit1 w s) (by intro u hu; simp at hu; subst hu; exact hs))
  have H13 := Lib.hid awake13
  cases hf : fineB rs [s]
  · rw [hf] at H32
    clear hf HX h
    go_enter Try.func5, Try.ntmps5
    go_wp2_with (fail)
    refine H32.out.mono ?_
    rintro e w1 ⟨rfl, hb⟩
    have B1 := Lib.hid (B0.out.trans (hb.mono (by simp)))
    clear hb
    go_wp2_with (fail)
    refine (H13.out _).mono ?_
    rintro e w2 ⟨rfl, hb⟩
    go_wp2_with (fail)
    go_ret
    exact ⟨rfl, bstep B1.out hb⟩
  · rw [hf] at H32
    obtain ⟨is, e, x, f, all, g, e1, e2, e3, he, hf', hg, hl, himp⟩ := conf_law hf
    have HC := Lib.hid (fun W hb => e1 ▸ confluent18 a n c rs W (HX W hb))
    have HN := Lib.hid (fun W hb => e2 ▸ normalize24 a n c rs s W (HX W hb) hs)
    have HA := Lib.hid (fun W hb => e3 ▸ all14 a n c rs s W (HX W hb) hs)
    have HI := Lib.hid himp
    have HR := Lib.hid (And.intro he (And.intro hf' hg))
    have HL := Lib.hid (show all.length ≤ 4611686018427387903 by omega)
    clear hf e1 e2 e3 hl HX h hs he hf' hg himp
    go_enter Try.func5, Try.ntmps5
    go_wp2_with (fail)
    refine H32.out.mono ?_
    rintro e w1 ⟨rfl, hb⟩
    have B1 := Lib.hid (B0.out.trans (hb.mono (by simp)))
    clear hb
    go_wp2_with (fail)
    refine (HC.out _ B1.out).mono ?_
    rintro e w2 ⟨rfl, hb⟩
    have B2 := Lib.hid (bstep B1.out hb)
    clear hb B1
    go_wp2_with (fail)
    refine (HN.out _ B2.out).mono ?_
    rintro e w3 ⟨rfl, hb⟩
    have B3 := Lib.hid (bstep B2.out hb)
    clear hb B2
    go_wp2_with (fail)
    refine (HA.out _ B3.out).mono ?_
    rintro e w4 ⟨v, rfl, ho, hb⟩
    have B4 := Lib.hid (bstep B3.out hb)
    obtain ⟨av, cv, rfl, hv⟩ := ho.strs HL.out
    have HV := Lib.hid hv
    clear hb B3 HC HN HA H32 B0 ho hv HL
    obtain ⟨r1, r2, r3⟩ := HR.out
    clear HR
    rcases r1 with rfl | rfl <;> rcases r2 with rfl | rfl <;> rcases r3 with rfl | rfl
    case inl.inl.inl =>
      obtain ⟨i1, i2⟩ := HI.out rfl rfl rfl
      clear HI
      cases is
      · have d1 : decide ((0 : Int) < (all.length : Int)) = true := by simp; omega
        have d2 : decide (0 < all.length) = true := by simp; omega
        clear i1 i2
        go_wp2_with (fail)
        refine (H13.out _).mono ?_
        rintro e w6 ⟨rfl, hb⟩
        go_wp2_with (fail)
        go_ret
        exact ⟨rfl, bstep B4.out hb⟩
      · obtain rfl := i1 rfl
        clear i1 i2
        go_wp2_with (fail)
        refine (equal20 _ _ _ _ _ _ _ _ _ (HV.out.mono (Nat.le_refl _) ((Below.refl _ w4).alloc (Nat.le_refl _) _)) (StrsL.lit1 w4 x)).mono ?_
        rintro e w5 ⟨rfl, q, hq⟩
        have hb5 : Below w4.heap.size w4 w5 := by
          rw [hq]
          exact ((Below.refl _ w4).alloc (Nat.le_refl _) _).trans ((bdrewN _ q).mono (by simp))
        have B5 := Lib.hid (bstep B4.out hb5)
        clear hq hb5
        go_wp2_with (fail)
        refine (H13.out _).mono ?_
        rintro e w6 ⟨rfl, hb⟩
        go_wp2_with (fail)
        go_ret
        exact ⟨rfl, bstep B5.out hb⟩
    all_goals
      clear HI
      go_wp2_with (fail)
      refine (H13.out _).mono ?_
      rintro e w6 ⟨rfl, hb⟩
      go_wp2_with (fail)
      go_ret
      exact ⟨rfl, bstep B4.out hb⟩
end Go.Proofs.Ytamdonlncfmmmaa
