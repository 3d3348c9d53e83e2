/-
  TranspositionChain: the law.
-/
import Derived.Test.YtbahddjbncinbaaGreatDoorCx
namespace Go.Ap
open Go Go.RowKit
theorem two_ints {W : World} {b o : Nat} {x y : Int} (hx : I64 x) (hy : I64 y) (h1 : W.cell? ⟨b, o, none⟩ = some (.int .i64 x)) (h2 : W.cell? ⟨b, o + 1, none⟩ = some (.int .i64 y)) : Ints W (some ⟨b, o, none⟩) 2 [x, y] :=
  ⟨rfl, by omega, fun k z hk => by
    match k, hk with
    | 0, hk => simp at hk; subst hk; exact ⟨b, o, _, rfl, h1, rfl, hx⟩
    | 1, hk => simp at hk; subst hk; exact ⟨b, o, _, rfl, h2, rfl, hy⟩
    | k + 2, hk => simp at hk⟩
/-- the chain, in plain words -/
theorem chain_plain {xs ys : List Tok} (hk : chkT xs ys = 0) : (∀ p ∈ prsE xs ys, p.1 < xs.length ∧ p.2 < ys.length) ∧ (∀ p ∈ inL (prsE xs ys), p ∈ prsE xs ys) ∧ ∀ (i : Nat) (p q : Nat × Nat), (inL (prsE xs ys))[i]? = some p → (inL (prsE xs ys))[i + 1]? = some q → p.1 < q.1 ∧ p.2 < q.2 := by
  have e1 : prsE xs ys = pairsL (keysT xs) (keysT ys) := by unfold prsE; rw [if_pos hk]
  refine ⟨fun p hp => ?_, fun p hp => (in_sub _).subset hp, fun i p q hp hq => ?_⟩
  · rw [e1] at hp
    have := pair_lt (show (p.1, p.2) ∈ _ from hp)
    rwa [keysT_len, keysT_len] at this
  · obtain ⟨h1, rfl⟩ := List.getElem?_eq_some_iff.1 hp
    obtain ⟨h2, rfl⟩ := List.getElem?_eq_some_iff.1 hq
    have ha : (inL (prsE xs ys)).Pairwise fun p q => p.1 < q.1 := by
      have := (in_sub (prsE xs ys))
      rw [e1] at this ⊢
      exact (pairs_asc _ _).sublist this
    exact ⟨List.pairwise_iff_getElem.1 ha i (i + 1) h1 h2 (by omega), List.pairwise_iff_getElem.1 (in_asc2 _) i (i + 1) h1 h2 (by omega)⟩
end Go.Ap
namespace Go.Proofs.YtbahddjbncinbaaGreatDoor
open Go.RowKit Go.Ap Go.Shelf Go.Proofs

attribute [local go_sem] Oper.semAt_some bs_toList empty_toList bs_size bs_extract
set_option maxRecDepth 100000 in
set_option maxHeartbeats 8000000 in
theorem law7 (a1 : Option Addr) (n1 c1 : Nat) (xs : List Tok) (a2 : Option Addr) (n2 c2 : Nat) (ys : List Tok) (w : World) (h1 : Toks w a1 n1 xs) (h2 : Toks w a2 n2 ys) (hev : EV w) :
    Calls Tryz.prog 7 #[.slice a1 n1 c1, .slice a2 n2 c2] w fun e w' => e = .returned (.bool true) ∧ Below w.heap.size w w' := by
  obtain ⟨i9, hi9, hy0, hy1, hy2⟩ := info_parts infoInt
  have HF := Lib.hid (fine22 (some ⟨w.heap.size, 0, none⟩) 2 2 [xs, ys] _ (fineTwo (c1 := c1) (c2 := c2) h1 h2) (hev.mono (Nat.le_refl _) (balloc _ _)))
  have HAW := Lib.hid (fun W (hb : Below w.heap.size w W) => awake13 W (hev.mono (Nat.le_refl _) hb))
  have HPP := Lib.hid (fun W (hb : Below w.heap.size w W) => PairsP xs ys a1 n1 c1 a2 n2 c2 W (h1.mono (Nat.le_refl _) hb) (h2.mono (Nat.le_refl _) hb) (hev.mono (Nat.le_refl _) hb))
  have HCP := Lib.hid (fun W (hb : Below w.heap.size w W) => ChainP xs ys a1 n1 c1 a2 n2 c2 W (h1.mono (Nat.le_refl _) hb) (h2.mono (Nat.le_refl _) hb) (hev.mono (Nat.le_refl _) hb))
  have hl1 := h1.len
  have hl2 := h2.len
  clear h1 h2 hev
  go_enter Tryz.func7, Tryz.ntmps7
  go_wp2_with (fail)
  refine HF.out.mono ?_
  rintro e w1 ⟨hf, hb⟩
  have HB1 := Lib.hid (bstep (balloc w _) hb)
  clear hb
  rcases hf with rfl | ⟨rfl, hf⟩
  · go_wp2_with (fail)
    refine (HAW.out _ HB1.out).mono ?_
    rintro e w2 ⟨rfl, hb⟩
    have HB2 := Lib.hid (bstep HB1.out hb)
    clear hb
    go_wp2_with (fail)
    go_ret
    exact ⟨rfl, HB2.out⟩
  · obtain ⟨k1, _, _⟩ := chk_fine hf
    have hpl := @prsE_len xs ys
    have HLT := Lib.hid (fun p (hp : p ∈ prsE xs ys) => prsE_lt hp)
    obtain ⟨m1, m2, m3⟩ := chain_plain k1
    rw [hl1, hl2] at m1
    have HCE : chnE xs ys = inL (prsE xs ys) := rfl
    rw [k1] at HPP HCP
    rw [HCE] at HCP
    obtain ⟨l, hll⟩ : ∃ l, prsE xs ys = l := ⟨_, rfl⟩
    rw [hll] at HPP HCP hpl HLT m1 m2 m3
    have M1 := Lib.hid m1
    have M2 := Lib.hid m2
    have M3 := Lib.hid m3
    have hil := in_len l
    have hio := in_out_len l
    clear hf k1 hll m1 m2 m3 HCE
    go_wp2_with (fail)
    refine (HPP.out _ HB1.out).mono ?_
    rintro e w2 ⟨v, rfl, ho, hb⟩
    obtain ⟨ap, cp, rfl, hr⟩ := ho.rows (by rw [rowsP_len]; omega) rows_two
    rw [rowsP_len] at hr ⊢
    have HRP := Lib.hid hr
    have HB2 := Lib.hid (bstep HB1.out hb)
    clear ho hb hr
    go_wp2_with (fail)
    refine (HCP.out _ HB2.out).mono ?_
    rintro e w3 ⟨ac, cc, rfl, hr, _, hb⟩
    rw [rowsP_len] at hr ⊢
    have HRC := Lib.hid hr
    have HX3 := Lib.hid hb
    have HB3 := Lib.hid (bstep HB2.out hb)
    clear hb hr
    obtain ⟨n, hn⟩ : ∃ n, l.length = n := ⟨_, rfl⟩
    obtain ⟨nc, hnc⟩ : ∃ nc, (inL l).length = nc := ⟨_, rfl⟩
    rw [hn] at HRP hpl hio ⊢
    rw [hnc] at HRC hil hio ⊢
    have HN := Lib.hid hn
    have HNC := Lib.hid hnc
    have HIL := Lib.hid hil
    clear hn hnc hil
    go_wp2_with (fail)
    refine (inside23 l ap n cp a1 n1 c1 a2 n2 c2 w3 (HRP.out.mono (Nat.le_refl _) HX3.out) M1.out).mono ?_
    rintro e w4 ⟨rfl, hb⟩
    have HX4 := Lib.hid hb
    have HB4 := Lib.hid (bstep HB3.out hb)
    clear hb
    go_wp2_with (fail)
    refine (inside23 (inL l) ac nc cc a1 n1 c1 a2 n2 c2 w4 (HRC.out.mono (Nat.le_refl _) HX4.out) (fun p hp => M1.out p (M2.out p hp))).mono ?_
    rintro e w5 ⟨rfl, hb⟩
    have HX5 := Lib.hid hb
    have HB5 := Lib.hid (bstep HB4.out hb)
    have HRP := Lib.hid (HRP.out.mono (Nat.le_refl _) (bstep (bstep HX3.out HX4.out) HX5.out))
    have HRC := Lib.hid (HRC.out.mono (Nat.le_refl _) (bstep HX4.out HX5.out))
    clear hb
    go_wp2_with (fail)
    go_loopw [56] (fun iv wr => ∃ i : Nat, i ≤ nc ∧ iv = .int .i64 i ∧ Below w5.heap.size w5 wr) (fun iv _ => nc - (intOf iv).toNat)
    case atStart => exact ⟨0, Nat.zero_le _, rfl, Below.refl _ _⟩
    case round =>
      obtain ⟨wi, rfl⟩ : ∃ wi : World, wi = wr := ⟨_, rfl⟩
      obtain ⟨i, hi, rfl, hb⟩ := hrel
      have HB := Lib.hid hb
      by_cases hin : i < nc
      · obtain ⟨p, b, o, ab, ao, kr, hp, rfl, q1, q2, q3⟩ := rowAt HRC.out hin
        have bx := balloc wi (.cells #[.slice (some ⟨ab, ao, none⟩) 2 kr] 29)
        have HBJ := Lib.hid (bstep hb bx)
        have q1 := cell_keep hb q1
        have HQ2 := Lib.hid (cell_keep HBJ.out q2)
        have HQ3 := Lib.hid (cell_keep HBJ.out q3)
        have HK10 := Lib.hid (show (wi.alloc (.cells #[.slice (some ⟨ab, ao, none⟩) 2 kr] 29)).cell? ⟨wi.heap.size, 0, none⟩ = some (.slice (some ⟨ab, ao, none⟩) 2 kr) from blk_cell (World.alloc_heap_new wi _) rfl)
        have hpm := M2.out p (List.mem_of_getElem? hp)
        have hps := HLT.out p hpm
        have HAN := Lib.hid (any30 (rowP p) l wi.heap.size (some ⟨ab, ao, none⟩) 2 kr ap n cp ((wi.alloc (.cells #[.slice (some ⟨ab, ao, none⟩) 2 kr] 29)).drew) (HRP.out.mono (Nat.le_refl _) (bstep HBJ.out (bdrewN _ 1))) (cell_keep (bdrewN _ 1) HK10.out) (two_ints ⟨by omega, by omega⟩ ⟨by omega, by omega⟩ (cell_keep (bdrewN _ 1) HQ2.out) (cell_keep (bdrewN _ 1) HQ3.out)))
        rw [show ((rowsP l).any fun x => decide (rowP p = x)) = true from List.any_eq_true.2 ⟨rowP p, List.mem_map.2 ⟨p, hpm, rfl⟩, by simp⟩] at HAN
        have HP := Lib.hid hp
        have i1 : (i : Int) < (nc : Int) := by omega
        have hFc : Fence.wide.fn 25 := trivial
        obtain ⟨f, hf⟩ : ∃ f, p.1 = f := ⟨_, rfl⟩
        obtain ⟨s, hs⟩ : ∃ s, p.2 = s := ⟨_, rfl⟩
        rw [hf] at HQ2
        rw [hs] at HQ3
        clear hb bx q2 q3 hp hpm hps
        rcases Nat.eq_zero_or_pos i with h0 | h0
        · have d0 : decide ((0 : Int) < (i : Int)) = false := by rw [decide_eq_false_iff_not]; omega
          have d0' : decide (0 < i) = false := by rw [decide_eq_false_iff_not]; omega
          clear h0
          go_wp2_with (fail)
          refine (wpIn_wide (n := 20)).1 ?_
          refine wpIn_region_heldN (fun W' => Below (wi.alloc (.cells #[.slice (some ⟨ab, ao, none⟩) 2 kr] 29)).heap.size (wi.alloc (.cells #[.slice (some ⟨ab, ao, none⟩) 2 kr] 29)) W') 34 [0, 1, 2, 3, 4, 5, 6, 7, 8, 9, 10, 11, 12, 13, 14, 15, 16, 17, 18, 19, 20, 21, 22, 23, 24, 25, 26, 27, 28, 29, 30] [31, 32, 33] (fun _ => trivial) (by kernel_rfl) (by kernel_rfl) (show Below _ (wi.alloc (.cells #[.slice (some ⟨ab, ao, none⟩) 2 kr] 29)) _ from bdrewN _ 1) ?_
          iterate 3
            apply wpTakes_consD rfl rfl (by rfl)
            case hy =>
              rintro W' hb'
              have e0 := cell_keep hb' HK10.out
              have e1 := cell_keep hb' HQ2.out
              have e2 := cell_keep hb' HQ3.out
              clear hb'
              go_simp
              first | done | with_reducible rfl
            simp only [List.setIfInBounds_toArray, List.set_cons_zero, List.set_cons_succ]
          iterate 12
            apply wpTakes_noD (j := 2) (t := 63) (b := false) (c := true) rfl rfl rfl rfl rfl (by simp) rfl
            simp only [List.setIfInBounds_toArray, List.set_cons_zero, List.set_cons_succ]
          iterate 11
            apply wpTakes_unD (j := 14) (t := 75) rfl rfl rfl rfl rfl (by simp)
            simp only [List.setIfInBounds_toArray, List.set_cons_zero, List.set_cons_succ]
          iterate 1
            apply wpTakes_noD (j := 2) (t := 63) (b := false) (c := true) rfl rfl rfl rfl rfl (by simp) rfl
            simp only [List.setIfInBounds_toArray, List.set_cons_zero, List.set_cons_succ]
          iterate 2
            apply wpTakes_consD rfl rfl (by rfl)
            case hy =>
              rintro W' hb'
              have e0 := cell_keep hb' HK10.out
              have e1 := cell_keep hb' HQ2.out
              have e2 := cell_keep hb' HQ3.out
              clear hb'
              go_simp
              first | done | with_reducible rfl
            simp only [List.setIfInBounds_toArray, List.set_cons_zero, List.set_cons_succ]
          iterate 2
            apply wpTakes_gdD (j := 28) (t := 89) (b := false) (c := false) rfl rfl rfl rfl rfl (by simp) rfl
            case hy =>
              rintro W' hb'
              have e0 := cell_keep hb' HK10.out
              have e1 := cell_keep hb' HQ2.out
              have e2 := cell_keep hb' HQ3.out
              clear hb'
              go_simp
              first | done | with_reducible rfl
            simp only [List.setIfInBounds_toArray, List.set_cons_zero, List.set_cons_succ]
          apply wpTakes_nil
          refine wpSeqR_cons rfl ?_
          gi_wp2_with (fail)
          refine (callsIn_wide.2 HAN.out).mono ?_
          rintro e W5 ⟨rfl, hb5⟩
          have HX5 := Lib.hid (bstep (bdrewN (wi.alloc (.cells #[.slice (some ⟨ab, ao, none⟩) 2 kr] 29)) 1) hb5)
          clear hb5
          gi_wp2_with (fail)
          refine ⟨fun _ => HX5.out, ?_⟩
          refine wpSeqR_cons rfl ?_
          gi_wp2_with (fail)
          refine ⟨fun _ => HX5.out, ?_⟩
          refine wpSeqR_cons rfl ?_
          gi_wp2_with (fail)
          refine ⟨fun _ => HX5.out, ?_⟩
          refine wpSeqR_nilN ?_
          gi_wp2_with (fail)
          go_wp2_with (fail)
          go_roundw
          case rel => exact ⟨i + 1, by omega, by simp, bstep HBJ.out HX5.out⟩
          case measure => simp [intOf]; omega
        · obtain ⟨i', hi'⟩ : ∃ i', i = i' + 1 := ⟨i - 1, by omega⟩
          have d0 : decide ((0 : Int) < (i : Int)) = true := by rw [decide_eq_true_eq]; omega
          have d0' : decide (0 < i) = true := by rw [decide_eq_true_eq]; omega
          obtain ⟨p', b', o', ab', ao', kr', hp', he', r1, r2, r3⟩ := rowAt HRC.out (show i' < nc by omega)
          cases he'
          have HR1 := Lib.hid (cell_keep HBJ.out r1)
          have HR2 := Lib.hid (cell_keep HBJ.out r2)
          have HR3 := Lib.hid (cell_keep HBJ.out r3)
          have hlt := M3.out i' p' p hp' (by rw [← hi']; exact HP.out)
          rw [hf, hs] at hlt
          obtain ⟨f', hf'⟩ : ∃ f', p'.1 = f' := ⟨_, rfl⟩
          obtain ⟨s', hs'⟩ : ∃ s', p'.2 = s' := ⟨_, rfl⟩
          rw [hf'] at hlt HR2
          rw [hs'] at hlt HR3
          have d1 : decide (f ≤ f') = false := by rw [decide_eq_false_iff_not]; omega
          have d2 : decide (s ≤ s') = false := by rw [decide_eq_false_iff_not]; omega
          have s1 : IntKind.i64.wrap ((i : Int) - 1) = (i' : Int) := by rw [show (i : Int) - 1 = (i' : Int) by omega]; exact IntWalk.i64_in _ (by omega)
          have i2 : (i' : Int) < (nc : Int) := by omega
          clear r1 r2 r3 hp' hf' hs' hlt hi'
          go_wp2_with (fail)
          refine (wpIn_wide (n := 20)).1 ?_
          refine wpIn_region_heldN (fun W' => Below (wi.alloc (.cells #[.slice (some ⟨ab, ao, none⟩) 2 kr] 29)).heap.size (wi.alloc (.cells #[.slice (some ⟨ab, ao, none⟩) 2 kr] 29)) W') 34 [0, 1, 2, 3, 4, 5, 6, 7, 8, 9, 10, 11, 12, 13, 14, 15, 16, 17, 18, 19, 20, 21, 22, 23, 24, 25, 26, 27, 28, 29, 30] [31, 32, 33] (fun _ => trivial) (by kernel_rfl) (by kernel_rfl) (show Below _ (wi.alloc (.cells #[.slice (some ⟨ab, ao, none⟩) 2 kr] 29)) _ from bdrewN _ 1) ?_
          iterate 3
            apply wpTakes_consD rfl rfl (by rfl)
            case hy =>
              rintro W' hb'
              have e0 := cell_keep hb' HK10.out
              have e1 := cell_keep hb' HQ2.out
              have e2 := cell_keep hb' HQ3.out
              have e3 := cell_keep hb' HR1.out
              have e4 := cell_keep hb' HR2.out
              have e5 := cell_keep hb' HR3.out
              clear hb'
              go_simp
              first | done | with_reducible rfl
            simp only [List.setIfInBounds_toArray, List.set_cons_zero, List.set_cons_succ]
          iterate 12
            apply wpTakes_gdD (j := 2) (t := 63) (b := true) (c := true) rfl rfl rfl rfl rfl (by simp) rfl
            case hy =>
              rintro W' hb'
              have e0 := cell_keep hb' HK10.out
              have e1 := cell_keep hb' HQ2.out
              have e2 := cell_keep hb' HQ3.out
              have e3 := cell_keep hb' HR1.out
              have e4 := cell_keep hb' HR2.out
              have e5 := cell_keep hb' HR3.out
              clear hb'
              go_simp
              first | done | with_reducible rfl
            simp only [List.setIfInBounds_toArray, List.set_cons_zero, List.set_cons_succ]
          iterate 11
            apply wpTakes_gdD (j := 14) (t := 75) (b := false) (c := false) rfl rfl rfl rfl rfl (by simp) rfl
            case hy =>
              rintro W' hb'
              have e0 := cell_keep hb' HK10.out
              have e1 := cell_keep hb' HQ2.out
              have e2 := cell_keep hb' HQ3.out
              have e3 := cell_keep hb' HR1.out
              have e4 := cell_keep hb' HR2.out
              have e5 := cell_keep hb' HR3.out
              clear hb'
              go_simp
              first | done | with_reducible rfl
            simp only [List.setIfInBounds_toArray, List.set_cons_zero, List.set_cons_succ]
          iterate 1
            apply wpTakes_gdD (j := 2) (t := 63) (b := true) (c := true) rfl rfl rfl rfl rfl (by simp) rfl
            case hy =>
              rintro W' hb'
              have e0 := cell_keep hb' HK10.out
              have e1 := cell_keep hb' HQ2.out
              have e2 := cell_keep hb' HQ3.out
              have e3 := cell_keep hb' HR1.out
              have e4 := cell_keep hb' HR2.out
              have e5 := cell_keep hb' HR3.out
              clear hb'
              go_simp
              first | done | with_reducible rfl
            simp only [List.setIfInBounds_toArray, List.set_cons_zero, List.set_cons_succ]
          iterate 2
            apply wpTakes_consD rfl rfl (by rfl)
            case hy =>
              rintro W' hb'
              have e0 := cell_keep hb' HK10.out
              have e1 := cell_keep hb' HQ2.out
              have e2 := cell_keep hb' HQ3.out
              have e3 := cell_keep hb' HR1.out
              have e4 := cell_keep hb' HR2.out
              have e5 := cell_keep hb' HR3.out
              clear hb'
              go_simp
              first | done | with_reducible rfl
            simp only [List.setIfInBounds_toArray, List.set_cons_zero, List.set_cons_succ]
          iterate 2
            apply wpTakes_gdD (j := 28) (t := 89) (b := false) (c := false) rfl rfl rfl rfl rfl (by simp) rfl
            case hy =>
              rintro W' hb'
              have e0 := cell_keep hb' HK10.out
              have e1 := cell_keep hb' HQ2.out
              have e2 := cell_keep hb' HQ3.out
              have e3 := cell_keep hb' HR1.out
              have e4 := cell_keep hb' HR2.out
              have e5 := cell_keep hb' HR3.out
              clear hb'
              go_simp
              first | done | with_reducible rfl
            simp only [List.setIfInBounds_toArray, List.set_cons_zero, List.set_cons_succ]
          clear s1
          apply wpTakes_nil
          refine wpSeqR_cons rfl ?_
          gi_wp2_with (fail)
          refine (callsIn_wide.2 HAN.out).mono ?_
          rintro e W5 ⟨rfl, hb5⟩
          have HX5 := Lib.hid (bstep (bdrewN (wi.alloc (.cells #[.slice (some ⟨ab, ao, none⟩) 2 kr] 29)) 1) hb5)
          clear hb5
          gi_wp2_with (fail)
          refine ⟨fun _ => HX5.out, ?_⟩
          refine wpSeqR_cons rfl ?_
          gi_wp2_with (fail)
          refine ⟨fun _ => HX5.out, ?_⟩
          refine wpSeqR_cons rfl ?_
          gi_wp2_with (fail)
          refine ⟨fun _ => HX5.out, ?_⟩
          refine wpSeqR_nilN ?_
          gi_wp2_with (fail)
          go_wp2_with (fail)
          go_roundw
          case rel => exact ⟨i + 1, by omega, by simp, bstep HBJ.out HX5.out⟩
          case measure => simp [intOf]; omega
      · obtain rfl : nc = i := by omega
        clear hb
        go_wp2_with (fail)
        have HRP := Lib.hid (HRP.out.mono (Nat.le_refl _) HB.out)
        go_loopw [11, 98] (fun ov jv wr => ∃ j : Nat, j ≤ n ∧ jv = .int .i64 j ∧ OwnI 3 wr wi.heap.size ov (secsL (l.take j)) ∧ Below wi.heap.size wi wr) (fun _ jv _ => n - (intOf jv).toNat)
        case atStart => exact ⟨0, Nat.zero_le _, rfl, ⟨World.ownsRow_nil _ _ _ _, by simp [secsL]⟩, Below.refl _ _⟩
        case round =>
          obtain ⟨wj, rfl⟩ : ∃ wj : World, wj = wr := ⟨_, rfl⟩
          obtain ⟨j, hj, rfl, ho, hb⟩ := hrel
          have HBJ := Lib.hid hb
          have HO := Lib.hid ho
          have hsz := hb.size
          by_cases hjn : j < n
          · obtain ⟨p, b, o, ab, ao, kr, hp, rfl, q1, q2, q3⟩ := rowAt HRP.out hjn
            have q1 := cell_keep hb q1
            have q3 := cell_keep hb q3
            have hps := HLT.out p (List.mem_of_getElem? hp)
            have HS := Lib.hid (show secsL (l.take (j + 1)) = secsL (l.take j) ++ [(p.2 : Int)] by rw [List.take_add_one, hp]; simp [secsL])
            have HW := Lib.hid (show I64 (p.2 : Int) from ⟨by omega, by omega⟩)
            have i1 : (j : Int) < (n : Int) := by omega
            have hql : (secsL (l.take j)).length = j := by rw [secs_len, List.length_take, HN.out]; omega
            have HQL := Lib.hid hql
            have HOW := Lib.hid (show wj.ownsRow wi.heap.size 3 1 _ j ((secsL (l.take j)).map (Value.int .i64)) by have := HO.out.1; rwa [hql] at this)
            clear hp hql hb ho q2 hps
            go_wp2_with (at_builtin; refine wpList_append_own _ rfl _ _ 29 rfl wi.heap.size 3 i9 (.int .i64 0) 1 8 Tryz.underlying29 hi9 hy0 hy1 hy2 rfl (by decide) _ _ _ rfl (HOW.out.alloc _) ⟨wj.heap.size, 0, none⟩ 1 1 [.int .i64 (p.2 : Int)] rfl rfl (cell_one_new _ _ _) (by simp [Value.oneCell']) (by unfold maxLen; omega) (by omega) (by simp; omega) ?_; intro v1 w6 hown1 hgrow1 _; have HO3 := Lib.hid hown1; have HG := Lib.hid hgrow1; clear hown1 hgrow1)
            obtain ⟨j1, j2⟩ := OwnI.pushed (x := (p.2 : Int)) HO.out HW.out hsz (by rw [HQL.out]; exact HO3.out) HG.out
            go_roundw
            case rel => exact ⟨j + 1, by omega, by simp, by rw [HS.out]; exact j1, HBJ.out.trans j2⟩
            case measure => simp [intOf]; omega
          · obtain rfl : n = j := by omega
            rw [show l.take n = l from List.take_of_length_le (by rw [HN.out]; exact Nat.le_refl _)] at ho
            obtain ⟨au, cu, rfl, hu⟩ := ho.ints (by rw [secs_len, HN.out]; omega)
            rw [secs_len, HN.out] at hu ⊢
            have HCV := Lib.hid (cover31 (secsL l) au n cu wj hu (by omega))
            have HBF := Lib.hid (bstep (bstep HB5.out HB.out) HBJ.out)
            rw [← HIL.out] at HCV
            have d5 : ((nc : Int) == (nc : Int)) = true := by simp
            clear ho hb hu HO
            go_wp2_with (fail)
            refine HCV.out.mono ?_
            rintro e w7 ⟨⟨a', c', rfl⟩, hb⟩
            have HB7 := Lib.hid (bstep HBF.out hb)
            clear hb
            go_wp2_with (fail)
            refine (HAW.out _ HB7.out).mono ?_
            rintro e w8 ⟨rfl, hb⟩
            have HB8 := Lib.hid (bstep HB7.out hb)
            clear hb
            go_wp2_with (fail)
            go_ret
            exact ⟨rfl, HB8.out⟩
end Go.Proofs.YtbahddjbncinbaaGreatDoor
