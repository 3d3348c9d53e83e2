/-
  TranspositionUnique: the law.
-/
import Derived.Test.YtbahddjbncinbaaGreatDoorCt
import Derived.Test.YtbahddjbncinbaaGreatDoorPn
namespace Go.Ap
open Go Go.RowKit
theorem two_ints4 {W : World} {b o : Nat} {x y : Int} (hx : I64 x) (hy : I64 y) (h1 : W.cell? ⟨b, o, none⟩ = some (.int .i64 x)) (h2 : W.cell? ⟨b, o + 1, none⟩ = some (.int .i64 y)) : Ints W (some ⟨b, o, none⟩) 2 [x, y] :=
  ⟨rfl, by omega, fun k z hk => by
    match k, hk with
    | 0, hk => simp at hk; subst hk; exact ⟨b, o, _, rfl, h1, rfl, hx⟩
    | 1, hk => simp at hk; subst hk; exact ⟨b, o, _, rfl, h2, rfl, hy⟩
    | k + 2, hk => simp at hk⟩
end Go.Ap
namespace Go.Proofs.YtbahddjbncinbaaGreatDoor
open Go.RowKit Go.Ap Go.Shelf Go.Proofs

attribute [local go_sem] Oper.semAt_some bs_toList empty_toList bs_size bs_extract
set_option maxRecDepth 100000 in
set_option maxHeartbeats 8000000 in
theorem law4 (a1 : Option Addr) (n1 c1 : Nat) (xs : List Tok) (a2 : Option Addr) (n2 c2 : Nat) (ys : List Tok) (w : World) (h1 : Toks w a1 n1 xs) (h2 : Toks w a2 n2 ys) (hev : EV w) :
    Calls Tryz.prog 4 #[.slice a1 n1 c1, .slice a2 n2 c2] w fun e w' => e = .returned (.bool true) ∧ Below w.heap.size w w' := by
  have HF := Lib.hid (fine22 (some ⟨w.heap.size, 0, none⟩) 2 2 [xs, ys] _ (fineTwo (c1 := c1) (c2 := c2) h1 h2) (hev.mono (Nat.le_refl _) (balloc _ _)))
  have HAW := Lib.hid (fun W (hb : Below w.heap.size w W) => awake13 W (hev.mono (Nat.le_refl _) hb))
  have HPP := Lib.hid (fun W (hb : Below w.heap.size w W) => PairsP xs ys a1 n1 c1 a2 n2 c2 W (h1.mono (Nat.le_refl _) hb) (h2.mono (Nat.le_refl _) hb) (hev.mono (Nat.le_refl _) hb))
  have HPQ := Lib.hid (fun W (hb : Below w.heap.size w W) => PairsP ys xs a2 n2 c2 a1 n1 c1 W (h2.mono (Nat.le_refl _) hb) (h1.mono (Nat.le_refl _) hb) (hev.mono (Nat.le_refl _) hb))
  have hl1 := h1.len
  have hl2 := h2.len
  have HX := Lib.hid h1
  have HY := Lib.hid h2
  clear h1 h2 hev
  go_enter Tryz.func4, Tryz.ntmps4
  go_wp2_with (fail)
  refine HF.out.mono ?_
  rintro e w1 ⟨hf, hb⟩
  have HB1 := Lib.hid (bstep (balloc w _) hb)
  clear hb
  rcases hf with rfl | ⟨rfl, hf⟩
  · go_wp2_with (fail)
    refine (HAW.out _ HB1.out).mono ?_
    rintro e w2 ⟨rfl, hb⟩
    have HB2 := Lib.hid (bstep HB1.out hb)
    clear hb
    go_wp2_with (fail)
    go_ret
    exact ⟨rfl, HB2.out⟩
  · obtain ⟨k1, k2, _⟩ := chk_fine hf
    have e1 : prsE xs ys = pairsL (keysT xs) (keysT ys) := by unfold prsE; rw [if_pos k1]
    have e2 : prsE ys xs = pairsL (keysT ys) (keysT xs) := by unfold prsE; rw [if_pos k2]
    have hpl := @prsE_len xs ys
    have hpl2 := @prsE_len ys xs
    have hlen : (prsE xs ys).length = (prsE ys xs).length := by rw [e1, e2]; exact pairs_len _ _
    have M1 := Lib.hid (show ∀ p ∈ prsE xs ys, p.1 < n1 ∧ p.2 < n2 from fun p hp => by
      rw [e1] at hp
      have := pair_lt (show (p.1, p.2) ∈ _ from hp)
      rw [keysT_len, keysT_len] at this
      omega)
    have M2 := Lib.hid (show ∀ p ∈ prsE ys xs, p.1 < n2 ∧ p.2 < n1 from fun p hp => by
      rw [e2] at hp
      have := pair_lt (show (p.1, p.2) ∈ _ from hp)
      rw [keysT_len, keysT_len] at this
      omega)
    have HFI := Lib.hid hf
    have HE1 := Lib.hid e1
    have HE2 := Lib.hid e2
    rw [k1] at HPP
    rw [k2] at HPQ
    obtain ⟨l, hll⟩ : ∃ l, prsE xs ys = l := ⟨_, rfl⟩
    obtain ⟨m, hmm⟩ : ∃ m, prsE ys xs = m := ⟨_, rfl⟩
    rw [hll] at HPP hpl hlen M1 HE1
    rw [hmm] at HPQ hpl2 hlen M2 HE2
    clear hf k1 k2 e1 e2 hll hmm
    go_wp2_with (fail)
    refine (HPP.out _ HB1.out).mono ?_
    rintro e w2 ⟨v, rfl, ho, hb⟩
    obtain ⟨ap, cp, rfl, hr⟩ := ho.rows (by rw [rowsP_len]; omega) rows_two
    rw [rowsP_len] at hr ⊢
    have HRP := Lib.hid hr
    have HB2 := Lib.hid (bstep HB1.out hb)
    clear ho hb hr
    go_wp2_with (fail)
    refine (HPQ.out _ HB2.out).mono ?_
    rintro e w3 ⟨v, rfl, ho, hb⟩
    obtain ⟨aq, cq, rfl, hr⟩ := ho.rows (by rw [rowsP_len]; omega) rows_two
    rw [rowsP_len] at hr ⊢
    have HRQ := Lib.hid hr
    have HX3 := Lib.hid hb
    have HB3 := Lib.hid (bstep HB2.out hb)
    obtain ⟨n, hn⟩ : ∃ n, l.length = n := ⟨_, rfl⟩
    rw [← hlen, hn] at HRQ ⊢
    rw [hn] at HRP hpl
    have HN := Lib.hid hn
    clear ho hb hr hlen hn hpl2
    go_wp2_with (fail)
    refine (inside23 l ap n cp a1 n1 c1 a2 n2 c2 w3 (HRP.out.mono (Nat.le_refl _) HX3.out) M1.out).mono ?_
    rintro e w4 ⟨rfl, hb⟩
    have HX4 := Lib.hid hb
    have HB4 := Lib.hid (bstep HB3.out hb)
    clear hb
    go_wp2_with (fail)
    refine (inside23 m aq n cq a2 n2 c2 a1 n1 c1 w4 (HRQ.out.mono (Nat.le_refl _) HX4.out) M2.out).mono ?_
    rintro e w5 ⟨rfl, hb⟩
    have HX5 := Lib.hid hb
    have HB5 := Lib.hid (bstep HB4.out hb)
    have dn : ((n : Int) != (n : Int)) = false := by simp
    clear hb
    go_wp2_with (fail)
    clear dn
    have HFX := Lib.hid (show ∀ t ∈ xs, 0 ≤ t.flags ∧ t.flags ≤ 31 from fun t ht => tok_flags ((HFI.out xs (by simp)).2 t ht))
    have HFY := Lib.hid (show ∀ t ∈ ys, 0 ≤ t.flags ∧ t.flags ≤ 31 from fun t ht => tok_flags ((HFI.out ys (by simp)).2 t ht))
    have hx10 : n1 ≤ 1024 := by have := (HFI.out xs (by simp)).1; omega
    have hy10 : n2 ≤ 1024 := by have := (HFI.out ys (by simp)).1; omega
    obtain ⟨P, hP⟩ : ∃ P : Option Str → Bool, P = fun x => x.isSome && decide ((keysT xs).count x = 1) && decide ((keysT ys).count x = 1) := ⟨_, rfl⟩
    have HPD := Lib.hid hP
    clear hP
    go_loopw [9, 62] (fun nv iv wr => ∃ i q : Nat, i ≤ n1 ∧ iv = .int .i64 i ∧ nv = .int .i64 q ∧ q = ((keysT xs).take i).countP P ∧ Below w5.heap.size w5 wr) (fun _ iv _ => n1 - (intOf iv).toNat)
    case atStart => exact ⟨0, 0, Nat.zero_le _, rfl, rfl, rfl, Below.refl _ _⟩
    case round =>
      obtain ⟨wi, rfl⟩ : ∃ wi : World, wi = wr := ⟨_, rfl⟩
      obtain ⟨i, q, hi, rfl, rfl, hq, hb⟩ := hrel
      have HB := Lib.hid hb
      have hqi : q ≤ i := by rw [hq]; have := List.countP_le_length (p := P) (l := (keysT xs).take i); rw [List.length_take] at this; omega
      by_cases hin : i < n1
      · obtain ⟨t, b, off, ht, rfl, ⟨⟨e0, e1, e2, e3, e4, e5⟩, hts⟩⟩ := (Toks.mono HX.out (Nat.le_refl _) (bstep HB5.out hb)).at hin
        have hfl := HFX.out t (List.mem_of_getElem? ht)
        have hct : ((keysT xs).take (i + 1)).countP P = q + if P (keyT t) then 1 else 0 := by
          rw [List.take_add_one, keysT_at ht, Option.toList_some, List.countP_append, ← hq, List.countP_singleton]
        rw [keyT_plain] at hct
        have hb10 := bits10 hfl.1 hfl.2
        have bx := balloc wi (.cells #[.string (bs t.text), .string (bs t.norm), .string (bs t.page), .int .i64 t.line, .int .i64 t.flags, .string (bs t.name)] 39)
        have HB2' := Lib.hid (bstep hb bx)
        have hnw := BlkK.new wi #[.string (bs t.text), .string (bs t.norm), .string (bs t.page), .int .i64 t.line, .int .i64 t.flags, .string (bs t.name)] 39
        have HNW := Lib.hid hnw
        have k1 := hnw.cell (i := 1) (u := .string (bs t.norm)) rfl
        have k4 := hnw.cell (i := 4) (u := .int .i64 t.flags) rfl
        have i1 : (i : Int) < (n1 : Int) := by omega
        generalize (!isGap t.flags && !isMark t.flags) = pl at *
        have HM := Lib.hid hct
        clear ht hts hfl hct hb bx hnw hq
        cases pl
        · go_wp2_with (fail)
          go_roundw
          case rel => exact ⟨i + 1, q, by omega, by simp, rfl, by rw [HM.out, HPD.out]; simp, HB2'.out⟩
          case measure => simp [intOf]; omega
        · go_wp2_with (fail)
          refine (count24 xs t.norm _ n1 c1 _ (HX.out.mono (Nat.le_refl _) (bstep HB5.out HB2'.out)) HFX.out hx10).mono ?_
          rintro e w6 ⟨rfl, hb6⟩
          have HB6 := Lib.hid (bstep HB2'.out hb6)
          have k1 := (HNW.out.below hb6).cell (i := 1) (u := .string (bs t.norm)) rfl
          clear hb6 k4
          obtain ⟨N1, hN1⟩ : ∃ N1, (keysT xs).count (some t.norm) = N1 := ⟨_, rfl⟩
          rw [hN1]
          have HN1 := Lib.hid hN1
          clear hN1
          by_cases hone : N1 = 1
          · have dq : ((N1 : Int) == 1) = true := by rw [beq_iff_eq]; omega
            have HONE := Lib.hid hone
            clear hone
            go_wp2_with (fail)
            refine (count24 ys t.norm _ n2 c2 _ (HY.out.mono (Nat.le_refl _) (bstep HB5.out HB6.out)) HFY.out hy10).mono ?_
            rintro e w7 ⟨rfl, hb7⟩
            have HB7 := Lib.hid (bstep HB6.out hb7)
            clear hb7 k1
            obtain ⟨N2, hN2⟩ : ∃ N2, (keysT ys).count (some t.norm) = N2 := ⟨_, rfl⟩
            rw [hN2]
            have HN2 := Lib.hid hN2
            clear hN2
            by_cases htwo : N2 = 1
            · have dr : ((N2 : Int) == 1) = true := by rw [beq_iff_eq]; omega
              have HTWO := Lib.hid htwo
              clear htwo
              go_wp2_with (fail)
              go_roundw
              case rel => exact ⟨i + 1, q + 1, by omega, by simp, by simp, by rw [HM.out, HPD.out]; simp [HN1.out, HN2.out, HONE.out, HTWO.out], HB7.out⟩
              case measure => simp [intOf]; omega
            · have dr : ((N2 : Int) == 1) = false := by rw [beq_eq_false_iff_ne]; omega
              have HTWO := Lib.hid htwo
              clear htwo
              go_wp2_with (fail)
              go_roundw
              case rel => exact ⟨i + 1, q, by omega, by simp, rfl, by rw [HM.out, HPD.out]; simp [HN2.out, HTWO.out], HB7.out⟩
              case measure => simp [intOf]; omega
          · have dq : ((N1 : Int) == 1) = false := by rw [beq_eq_false_iff_ne]; omega
            have HONE := Lib.hid hone
            clear hone
            go_wp2_with (fail)
            go_roundw
            case rel => exact ⟨i + 1, q, by omega, by simp, rfl, by rw [HM.out, HPD.out]; simp [HN1.out, HONE.out], HB6.out⟩
            case measure => simp [intOf]; omega
      · obtain rfl : n1 = i := by omega
        have HQN := Lib.hid (show q = n by
          rw [hq, List.take_of_length_le (by rw [keysT_len, hl1]; exact Nat.le_refl _), ← HN.out, HE1.out, pairs_count, HPD.out])
        have HWI := Lib.hid (bstep HB5.out hb)
        have HRP := Lib.hid (HRP.out.mono (Nat.le_refl _) (bstep (bstep (bstep HX3.out HX4.out) HX5.out) hb))
        have HRQ := Lib.hid (HRQ.out.mono (Nat.le_refl _) (bstep (bstep HX4.out HX5.out) hb))
        have HXA := Lib.hid (HX.out.mono (Nat.le_refl _) HWI.out)
        have HYA := Lib.hid (HY.out.mono (Nat.le_refl _) HWI.out)
        clear hq hb
        go_wp2_with (fail)
        go_loopw [89] (fun iv wr => ∃ i : Nat, i ≤ n ∧ iv = .int .i64 i ∧ Below wi.heap.size wi wr) (fun iv _ => n - (intOf iv).toNat)
        case atStart => exact ⟨0, Nat.zero_le _, rfl, Below.refl _ _⟩
        case round =>
          obtain ⟨wj, rfl⟩ : ∃ wj : World, wj = wr := ⟨_, rfl⟩
          obtain ⟨i, hi, rfl, hb⟩ := hrel
          have HBI := Lib.hid hb
          by_cases hin : i < n
          · obtain ⟨p, b, o, ab, ao, kr, hp, rfl, q1, q2, q3⟩ := rowAt HRP.out hin
            have hpm := List.mem_of_getElem? hp
            have hplt := M1.out p hpm
            obtain ⟨s, hs1, hs2, hs3, hs4⟩ := pair_iff.1 (show (p.1, p.2) ∈ pairsL (keysT xs) (keysT ys) by rw [← HE1.out]; exact hpm)
            obtain ⟨t1, b1, o1, ht1, rfl, ⟨⟨-, e1, -, -, -, -⟩, hts1⟩⟩ := HXA.out.at hplt.1
            obtain ⟨t2, b2, o2, ht2, rfl, ⟨⟨-, e2, -, -, -, -⟩, hts2⟩⟩ := HYA.out.at hplt.2
            have hn1 : t1.norm = s := by
              have h0 := keysT_at ht1
              rw [hs1] at h0
              rcases keyT_cases t1 with h | h <;> rw [h] at h0 <;> simp at h0
              exact h0.symm
            have hn2 : t2.norm = s := by
              have h0 := keysT_at ht2
              rw [hs2] at h0
              rcases keyT_cases t2 with h | h <;> rw [h] at h0 <;> simp at h0
              exact h0.symm
            rw [hn1] at e1
            rw [hn2] at e2
            have hsw : (p.2, p.1) ∈ m := by rw [HE2.out]; exact pair_swap.1 (by rw [← HE1.out]; exact hpm)
            have bx := balloc wj (.cells #[.slice (some ⟨ab, ao, none⟩) 2 kr] 29)
            have HBJ := Lib.hid (bstep hb bx)
            have q1 := cell_keep hb q1
            have HQ2 := Lib.hid (cell_keep HBJ.out q2)
            have HQ3 := Lib.hid (cell_keep HBJ.out q3)
            have HN1 := Lib.hid (cell_keep HBJ.out e1)
            have HN2 := Lib.hid (cell_keep HBJ.out e2)
            have HK13 := Lib.hid (show (wj.alloc (.cells #[.slice (some ⟨ab, ao, none⟩) 2 kr] 29)).cell? ⟨wj.heap.size, 0, none⟩ = some (.slice (some ⟨ab, ao, none⟩) 2 kr) from blk_cell (World.alloc_heap_new wj _) rfl)
            have q2 := HQ2.out
            have e1 := HN1.out
            have q3 := HK13.out
            obtain ⟨W3, hW3⟩ : ∃ W3, wj.alloc (.cells #[.slice (some ⟨ab, ao, none⟩) 2 kr] 29) = W3 := ⟨_, rfl⟩
            rw [hW3] at HBJ HQ2 HQ3 HN1 HN2 HK13
            have HWW := Lib.hid hW3
            have HCA := Lib.hid (fun W (hw : Below W3.heap.size W3 W) => count24 xs s (some ⟨b1, o1, none⟩) n1 c1 W (HXA.out.mono (Nat.le_refl _) (bstep HBJ.out hw)) HFX.out hx10)
            have HCB := Lib.hid (fun W (hw : Below W3.heap.size W3 W) => count24 ys s (some ⟨b2, o2, none⟩) n2 c2 W (HYA.out.mono (Nat.le_refl _) (bstep HBJ.out hw)) HFY.out hy10)
            rw [hs3, show (((1 : Nat) : Int)) = 1 from rfl] at HCA
            rw [hs4, show (((1 : Nat) : Int)) = 1 from rfl] at HCB
            have HAN := Lib.hid (fun W (hw : Below W3.heap.size W3 W) => any26 p m wj.heap.size (some ⟨ab, ao, none⟩) kr aq n cq W (HRQ.out.mono (Nat.le_refl _) (bstep HBJ.out hw)) (cell_keep hw HK13.out) (two_ints4 ⟨by omega, by omega⟩ ⟨by omega, by omega⟩ (cell_keep hw HQ2.out) (cell_keep hw HQ3.out)) hsw)
            have HP := Lib.hid hp
            have i1 : (i : Int) < (n : Int) := by omega
            have hFc : Fence.wide.fn 25 := trivial
            have hFd : Fence.wide.fn 24 := trivial
            have dss : (s != s) = false := by simp
            have dsb : (s == s) = true := by simp
            obtain ⟨f, hf⟩ : ∃ f, p.1 = f := ⟨_, rfl⟩
            obtain ⟨g, hg⟩ : ∃ g, p.2 = g := ⟨_, rfl⟩
            rw [hf] at HQ2 HN1 hplt q2 e1
            rw [hg] at HQ3 HN2 hplt
            have f1 : (f : Int) < (n1 : Int) := by omega
            have g1 : (g : Int) < (n2 : Int) := by omega
            clear hb bx hp hpm hplt hs1 hs2 hs3 hs4 ht1 ht2 hts1 hts2 hn1 hn2 hsw e2 hW3
            rcases Nat.eq_zero_or_pos i with h0 | h0
            · have d0 : decide ((0 : Int) < (i : Int)) = false := by rw [decide_eq_false_iff_not]; omega
              have d0' : decide (0 < i) = false := by rw [decide_eq_false_iff_not]; omega
              clear h0
              go_wp2_with (fail)
              rw [HWW.out]
              clear q1 q2 q3 e1
              refine (wpIn_wide (n := 20)).1 ?_
              refine wpIn_region_planN (fun W' => Below W3.heap.size W3 W') (.take 0 <| .take 1 <| .take 2 <| .take 3 <| .take 4 <| .take 5 <| .take 6 <| .take 7 <| .take 8 <| .take 9 <| .take 10 <| .take 11 <| .one 12 <| .take 13 <| .take 14 <| .take 15 <| .take 16 <| .take 17 <| .one 18 <| .take 19 <| .take 20 <| .take 21 <| .take 22 <| .take 23 <| .take 24 <| .take 25 <| .take 26 <| .take 27 <| .take 28 <| .take 29 <| .take 30 <| .take 31 <| .take 32 <| .take 33 <| .take 34 <| .take 35 <| .take 36 <| .take 37 <| .take 38 <| .take 39 <| .take 40 <| .one 41 <| .take 42 <| .take 43 .fin) (fun _ => trivial) (by kernel_rfl) (by kernel_rfl) (show Below _ W3 _ from bdrewN _ 1) ?_
              have HSX := Lib.hid (show Below W3.heap.size W3 W3.drew from bdrewN _ 1)
              apply plan_take rfl rfl (by rfl)
              case hy =>
                rintro W' hb'
                clear hb'
                go_simp
                first | done | with_reducible rfl
              simp only [List.setIfInBounds_toArray, List.set_cons_zero, List.set_cons_succ]
              apply plan_take rfl rfl (by rfl)
              case hy =>
                rintro W' hb'
                clear hb'
                go_simp
                first | done | with_reducible rfl
              simp only [List.setIfInBounds_toArray, List.set_cons_zero, List.set_cons_succ]
              apply plan_take rfl rfl (by rfl)
              case hy =>
                rintro W' hb'
                have e0 := cell_keep hb' HK13.out
                have e1 := cell_keep hb' HQ2.out
                have e2 := cell_keep hb' HQ3.out
                have e4 := cell_keep hb' HN2.out
                clear hb'
                go_simp
                first | done | with_reducible rfl
              simp only [List.setIfInBounds_toArray, List.set_cons_zero, List.set_cons_succ]
              apply plan_take rfl rfl (by rfl)
              case hy =>
                rintro W' hb'
                clear hb'
                go_simp
                first | done | with_reducible rfl
              simp only [List.setIfInBounds_toArray, List.set_cons_zero, List.set_cons_succ]
              apply plan_take rfl rfl (by rfl)
              case hy =>
                rintro W' hb'
                have e0 := cell_keep hb' HK13.out
                have e1 := cell_keep hb' HQ2.out
                have e2 := cell_keep hb' HQ3.out
                have e4 := cell_keep hb' HN2.out
                clear hb'
                go_simp
                first | done | with_reducible rfl
              simp only [List.setIfInBounds_toArray, List.set_cons_zero, List.set_cons_succ]
              apply plan_take rfl rfl (by rfl)
              case hy =>
                rintro W' hb'
                clear hb'
                go_simp
                first | done | with_reducible rfl
              simp only [List.setIfInBounds_toArray, List.set_cons_zero, List.set_cons_succ]
              apply plan_take rfl rfl (by rfl)
              case hy =>
                rintro W' hb'
                clear hb'
                go_simp
                first | done | with_reducible rfl
              simp only [List.setIfInBounds_toArray, List.set_cons_zero, List.set_cons_succ]
              apply plan_take rfl rfl (by rfl)
              case hy =>
                rintro W' hb'
                have e0 := cell_keep hb' HK13.out
                have e1 := cell_keep hb' HQ2.out
                have e2 := cell_keep hb' HQ3.out
                have e4 := cell_keep hb' HN2.out
                clear hb'
                go_simp
                first | done | with_reducible rfl
              simp only [List.setIfInBounds_toArray, List.set_cons_zero, List.set_cons_succ]
              apply plan_take rfl rfl (by rfl)
              case hy =>
                rintro W' hb'
                clear hb'
                go_simp
                first | done | with_reducible rfl
              simp only [List.setIfInBounds_toArray, List.set_cons_zero, List.set_cons_succ]
              apply plan_take rfl rfl (by rfl)
              case hy =>
                rintro W' hb'
                clear hb'
                go_simp
                first | done | with_reducible rfl
              simp only [List.setIfInBounds_toArray, List.set_cons_zero, List.set_cons_succ]
              apply plan_gd (j := 9) (t := 110) (b := false) (c := false) rfl rfl rfl rfl rfl (by simp) rfl
              case hy =>
                rintro W' hb'
                clear hb'
                go_simp
                first | done | with_reducible rfl
              simp only [List.setIfInBounds_toArray, List.set_cons_zero, List.set_cons_succ]
              apply plan_gd (j := 9) (t := 110) (b := false) (c := false) rfl rfl rfl rfl rfl (by simp) rfl
              case hy =>
                rintro W' hb'
                clear hb'
                go_simp
                first | done | with_reducible rfl
              simp only [List.setIfInBounds_toArray, List.set_cons_zero, List.set_cons_succ]
              refine plan_one rfl ?_
              gi_wp2_with (fail)
              refine (callsIn_wide.2 (HCA.out _ HSX.out)).mono ?_
              rintro e W5 ⟨rfl, hb5⟩
              have HSX := Lib.hid (bstep HSX.out hb5)
              clear hb5
              gi_wp2_with (fail)
              refine ⟨HSX.out, ?_⟩
              apply plan_gd (j := 9) (t := 110) (b := false) (c := false) rfl rfl rfl rfl rfl (by simp) rfl
              case hy =>
                rintro W' hb'
                clear hb'
                go_simp
                first | done | with_reducible rfl
              simp only [List.setIfInBounds_toArray, List.set_cons_zero, List.set_cons_succ]
              apply plan_take rfl rfl (by rfl)
              case hy =>
                rintro W' hb'
                clear hb'
                go_simp
                first | done | with_reducible rfl
              simp only [List.setIfInBounds_toArray, List.set_cons_zero, List.set_cons_succ]
              apply plan_take rfl rfl (by rfl)
              case hy =>
                rintro W' hb'
                clear hb'
                go_simp
                first | done | with_reducible rfl
              simp only [List.setIfInBounds_toArray, List.set_cons_zero, List.set_cons_succ]
              apply plan_gd (j := 15) (t := 116) (b := false) (c := false) rfl rfl rfl rfl rfl (by simp) rfl
              case hy =>
                rintro W' hb'
                clear hb'
                go_simp
                first | done | with_reducible rfl
              simp only [List.setIfInBounds_toArray, List.set_cons_zero, List.set_cons_succ]
              apply plan_gd (j := 15) (t := 116) (b := false) (c := false) rfl rfl rfl rfl rfl (by simp) rfl
              case hy =>
                rintro W' hb'
                clear hb'
                go_simp
                first | done | with_reducible rfl
              simp only [List.setIfInBounds_toArray, List.set_cons_zero, List.set_cons_succ]
              refine plan_one rfl ?_
              gi_wp2_with (fail)
              refine (callsIn_wide.2 (HCB.out _ HSX.out)).mono ?_
              rintro e W5 ⟨rfl, hb5⟩
              have HSX := Lib.hid (bstep HSX.out hb5)
              clear hb5
              gi_wp2_with (fail)
              refine ⟨HSX.out, ?_⟩
              apply plan_gd (j := 15) (t := 116) (b := false) (c := false) rfl rfl rfl rfl rfl (by simp) rfl
              case hy =>
                rintro W' hb'
                clear hb'
                go_simp
                first | done | with_reducible rfl
              simp only [List.setIfInBounds_toArray, List.set_cons_zero, List.set_cons_succ]
              apply plan_take rfl rfl (by rfl)
              case hy =>
                rintro W' hb'
                clear hb'
                go_simp
                first | done | with_reducible rfl
              simp only [List.setIfInBounds_toArray, List.set_cons_zero, List.set_cons_succ]
              apply plan_take rfl rfl (by rfl)
              case hy =>
                rintro W' hb'
                clear hb'
                go_simp
                first | done | with_reducible rfl
              simp only [List.setIfInBounds_toArray, List.set_cons_zero, List.set_cons_succ]
              apply plan_gd (j := 21) (t := 122) (b := false) (c := false) rfl rfl rfl rfl rfl (by simp) rfl
              case hy =>
                rintro W' hb'
                clear hb'
                go_simp
                first | done | with_reducible rfl
              simp only [List.setIfInBounds_toArray, List.set_cons_zero, List.set_cons_succ]
              apply plan_gd (j := 21) (t := 122) (b := false) (c := false) rfl rfl rfl rfl rfl (by simp) rfl
              case hy =>
                rintro W' hb'
                clear hb'
                go_simp
                first | done | with_reducible rfl
              simp only [List.setIfInBounds_toArray, List.set_cons_zero, List.set_cons_succ]
              apply plan_gd (j := 21) (t := 122) (b := false) (c := false) rfl rfl rfl rfl rfl (by simp) rfl
              case hy =>
                rintro W' hb'
                clear hb'
                go_simp
                first | done | with_reducible rfl
              simp only [List.setIfInBounds_toArray, List.set_cons_zero, List.set_cons_succ]
              apply plan_no (j := 24) (t := 125) (b := false) (c := true) rfl rfl rfl rfl rfl (by simp) rfl
              simp only [List.setIfInBounds_toArray, List.set_cons_zero, List.set_cons_succ]
              apply plan_no (j := 24) (t := 125) (b := false) (c := true) rfl rfl rfl rfl rfl (by simp) rfl
              simp only [List.setIfInBounds_toArray, List.set_cons_zero, List.set_cons_succ]
              apply plan_no (j := 24) (t := 125) (b := false) (c := true) rfl rfl rfl rfl rfl (by simp) rfl
              simp only [List.setIfInBounds_toArray, List.set_cons_zero, List.set_cons_succ]
              apply plan_no (j := 24) (t := 125) (b := false) (c := true) rfl rfl rfl rfl rfl (by simp) rfl
              simp only [List.setIfInBounds_toArray, List.set_cons_zero, List.set_cons_succ]
              apply plan_no (j := 24) (t := 125) (b := false) (c := true) rfl rfl rfl rfl rfl (by simp) rfl
              simp only [List.setIfInBounds_toArray, List.set_cons_zero, List.set_cons_succ]
              apply plan_no (j := 24) (t := 125) (b := false) (c := true) rfl rfl rfl rfl rfl (by simp) rfl
              simp only [List.setIfInBounds_toArray, List.set_cons_zero, List.set_cons_succ]
              apply plan_no (j := 24) (t := 125) (b := false) (c := true) rfl rfl rfl rfl rfl (by simp) rfl
              simp only [List.setIfInBounds_toArray, List.set_cons_zero, List.set_cons_succ]
              apply plan_no (j := 24) (t := 125) (b := false) (c := true) rfl rfl rfl rfl rfl (by simp) rfl
              simp only [List.setIfInBounds_toArray, List.set_cons_zero, List.set_cons_succ]
              apply plan_no (j := 24) (t := 125) (b := false) (c := true) rfl rfl rfl rfl rfl (by simp) rfl
              simp only [List.setIfInBounds_toArray, List.set_cons_zero, List.set_cons_succ]
              apply plan_no (j := 24) (t := 125) (b := false) (c := true) rfl rfl rfl rfl rfl (by simp) rfl
              simp only [List.setIfInBounds_toArray, List.set_cons_zero, List.set_cons_succ]
              apply plan_no (j := 24) (t := 125) (b := false) (c := true) rfl rfl rfl rfl rfl (by simp) rfl
              simp only [List.setIfInBounds_toArray, List.set_cons_zero, List.set_cons_succ]
              apply plan_gd (j := 21) (t := 122) (b := false) (c := false) rfl rfl rfl rfl rfl (by simp) rfl
              case hy =>
                rintro W' hb'
                clear hb'
                go_simp
                first | done | with_reducible rfl
              simp only [List.setIfInBounds_toArray, List.set_cons_zero, List.set_cons_succ]
              apply plan_take rfl rfl (by rfl)
              case hy =>
                rintro W' hb'
                clear hb'
                go_simp
                first | done | with_reducible rfl
              simp only [List.setIfInBounds_toArray, List.set_cons_zero, List.set_cons_succ]
              apply plan_take rfl rfl (by rfl)
              case hy =>
                rintro W' hb'
                clear hb'
                go_simp
                first | done | with_reducible rfl
              simp only [List.setIfInBounds_toArray, List.set_cons_zero, List.set_cons_succ]
              apply plan_gd (j := 38) (t := 139) (b := false) (c := false) rfl rfl rfl rfl rfl (by simp) rfl
              case hy =>
                rintro W' hb'
                clear hb'
                go_simp
                first | done | with_reducible rfl
              simp only [List.setIfInBounds_toArray, List.set_cons_zero, List.set_cons_succ]
              apply plan_gd (j := 38) (t := 139) (b := false) (c := false) rfl rfl rfl rfl rfl (by simp) rfl
              case hy =>
                rintro W' hb'
                clear hb'
                go_simp
                first | done | with_reducible rfl
              simp only [List.setIfInBounds_toArray, List.set_cons_zero, List.set_cons_succ]
              refine plan_one rfl ?_
              gi_wp2_with (fail)
              refine (callsIn_wide.2 (HAN.out _ HSX.out)).mono ?_
              rintro e W5 ⟨rfl, hb5⟩
              have HSX := Lib.hid (bstep HSX.out hb5)
              clear hb5
              gi_wp2_with (fail)
              refine ⟨HSX.out, ?_⟩
              apply plan_gd (j := 38) (t := 139) (b := false) (c := false) rfl rfl rfl rfl rfl (by simp) rfl
              case hy =>
                rintro W' hb'
                clear hb'
                go_simp
                first | done | with_reducible rfl
              simp only [List.setIfInBounds_toArray, List.set_cons_zero, List.set_cons_succ]
              apply plan_take rfl rfl (by rfl)
              case hy =>
                rintro W' hb'
                clear hb'
                go_simp
                first | done | with_reducible rfl
              simp only [List.setIfInBounds_toArray, List.set_cons_zero, List.set_cons_succ]
              refine plan_fin ?_
              gi_wp2_with (fail)
              go_wp2_with (fail)
              go_roundw
              case rel => exact ⟨i + 1, by omega, by simp, bstep HBJ.out HSX.out⟩
              case measure => simp [intOf]; omega
            · obtain ⟨i', hi'⟩ : ∃ i', i = i' + 1 := ⟨i - 1, by omega⟩
              have d0 : decide ((0 : Int) < (i : Int)) = true := by rw [decide_eq_true_eq]; omega
              have d0' : decide (0 < i) = true := by rw [decide_eq_true_eq]; omega
              obtain ⟨p', b', o', ab', ao', kr', hp', he', r1, r2, -⟩ := rowAt HRP.out (show i' < n by omega)
              cases he'
              have HR1 := Lib.hid (cell_keep HBJ.out r1)
              have HR2 := Lib.hid (cell_keep HBJ.out r2)
              have hlt : p'.1 < p.1 := by
                have hasc := pairs_asc (keysT xs) (keysT ys)
                rw [← HE1.out] at hasc
                obtain ⟨u1, rfl⟩ := List.getElem?_eq_some_iff.1 hp'
                obtain ⟨u2, hu2⟩ := List.getElem?_eq_some_iff.1 HP.out
                rw [← hu2]
                exact List.pairwise_iff_getElem.1 hasc i' i u1 u2 (by omega)
              rw [hf] at hlt
              obtain ⟨f', hf'⟩ : ∃ f', p'.1 = f' := ⟨_, rfl⟩
              rw [hf'] at hlt HR2
              have d1 : decide (f ≤ f') = false := by rw [decide_eq_false_iff_not]; omega
              have s1 : IntKind.i64.wrap ((i : Int) - 1) = (i' : Int) := by rw [show (i : Int) - 1 = (i' : Int) by omega]; exact IntWalk.i64_in _ (by omega)
              have i2 : (i' : Int) < (n : Int) := by omega
              clear r1 r2 hp' hf' hlt hi' h0
              go_wp2_with (fail)
              rw [HWW.out]
              clear q1 q2 q3 e1
              refine (wpIn_wide (n := 20)).1 ?_
              refine wpIn_region_planN (fun W' => Below W3.heap.size W3 W') (.take 0 <| .take 1 <| .take 2 <| .take 3 <| .take 4 <| .take 5 <| .take 6 <| .take 7 <| .take 8 <| .take 9 <| .take 10 <| .take 11 <| .one 12 <| .take 13 <| .take 14 <| .take 15 <| .take 16 <| .take 17 <| .one 18 <| .take 19 <| .take 20 <| .take 21 <| .take 22 <| .take 23 <| .take 24 <| .take 25 <| .take 26 <| .take 27 <| .take 28 <| .take 29 <| .take 30 <| .take 31 <| .take 32 <| .take 33 <| .take 34 <| .take 35 <| .take 36 <| .take 37 <| .take 38 <| .take 39 <| .take 40 <| .one 41 <| .take 42 <| .take 43 .fin) (fun _ => trivial) (by kernel_rfl) (by kernel_rfl) (show Below _ W3 _ from bdrewN _ 1) ?_
              have HSX := Lib.hid (show Below W3.heap.size W3 W3.drew from bdrewN _ 1)
              apply plan_take rfl rfl (by rfl)
              case hy =>
                rintro W' hb'
                clear hb'
                go_simp
                first | done | with_reducible rfl
              simp only [List.setIfInBounds_toArray, List.set_cons_zero, List.set_cons_succ]
              apply plan_take rfl rfl (by rfl)
              case hy =>
                rintro W' hb'
                clear hb'
                go_simp
                first | done | with_reducible rfl
              simp only [List.setIfInBounds_toArray, List.set_cons_zero, List.set_cons_succ]
              apply plan_take rfl rfl (by rfl)
              case hy =>
                rintro W' hb'
                have e0 := cell_keep hb' HK13.out
                have e1 := cell_keep hb' HQ2.out
                have e2 := cell_keep hb' HQ3.out
                have e4 := cell_keep hb' HN2.out
                have e5 := cell_keep hb' HR1.out
                have e6 := cell_keep hb' HR2.out
                clear hb'
                go_simp
                first | done | with_reducible rfl
              simp only [List.setIfInBounds_toArray, List.set_cons_zero, List.set_cons_succ]
              apply plan_take rfl rfl (by rfl)
              case hy =>
                rintro W' hb'
                clear hb'
                go_simp
                first | done | with_reducible rfl
              simp only [List.setIfInBounds_toArray, List.set_cons_zero, List.set_cons_succ]
              apply plan_take rfl rfl (by rfl)
              case hy =>
                rintro W' hb'
                have e0 := cell_keep hb' HK13.out
                have e1 := cell_keep hb' HQ2.out
                have e2 := cell_keep hb' HQ3.out
                have e4 := cell_keep hb' HN2.out
                have e5 := cell_keep hb' HR1.out
                have e6 := cell_keep hb' HR2.out
                clear hb'
                go_simp
                first | done | with_reducible rfl
              simp only [List.setIfInBounds_toArray, List.set_cons_zero, List.set_cons_succ]
              apply plan_take rfl rfl (by rfl)
              case hy =>
                rintro W' hb'
                clear hb'
                go_simp
                first | done | with_reducible rfl
              simp only [List.setIfInBounds_toArray, List.set_cons_zero, List.set_cons_succ]
              apply plan_take rfl rfl (by rfl)
              case hy =>
                rintro W' hb'
                clear hb'
                go_simp
                first | done | with_reducible rfl
              simp only [List.setIfInBounds_toArray, List.set_cons_zero, List.set_cons_succ]
              apply plan_take rfl rfl (by rfl)
              case hy =>
                rintro W' hb'
                have e0 := cell_keep hb' HK13.out
                have e1 := cell_keep hb' HQ2.out
                have e2 := cell_keep hb' HQ3.out
                have e4 := cell_keep hb' HN2.out
                have e5 := cell_keep hb' HR1.out
                have e6 := cell_keep hb' HR2.out
                clear hb'
                go_simp
                first | done | with_reducible rfl
              simp only [List.setIfInBounds_toArray, List.set_cons_zero, List.set_cons_succ]
              apply plan_take rfl rfl (by rfl)
              case hy =>
                rintro W' hb'
                clear hb'
                go_simp
                first | done | with_reducible rfl
              simp only [List.setIfInBounds_toArray, List.set_cons_zero, List.set_cons_succ]
              apply plan_take rfl rfl (by rfl)
              case hy =>
                rintro W' hb'
                clear hb'
                go_simp
                first | done | with_reducible rfl
              simp only [List.setIfInBounds_toArray, List.set_cons_zero, List.set_cons_succ]
              apply plan_gd (j := 9) (t := 110) (b := false) (c := false) rfl rfl rfl rfl rfl (by simp) rfl
              case hy =>
                rintro W' hb'
                clear hb'
                go_simp
                first | done | with_reducible rfl
              simp only [List.setIfInBounds_toArray, List.set_cons_zero, List.set_cons_succ]
              apply plan_gd (j := 9) (t := 110) (b := false) (c := false) rfl rfl rfl rfl rfl (by simp) rfl
              case hy =>
                rintro W' hb'
                clear hb'
                go_simp
                first | done | with_reducible rfl
              simp only [List.setIfInBounds_toArray, List.set_cons_zero, List.set_cons_succ]
              refine plan_one rfl ?_
              gi_wp2_with (fail)
              refine (callsIn_wide.2 (HCA.out _ HSX.out)).mono ?_
              rintro e W5 ⟨rfl, hb5⟩
              have HSX := Lib.hid (bstep HSX.out hb5)
              clear hb5
              gi_wp2_with (fail)
              refine ⟨HSX.out, ?_⟩
              apply plan_gd (j := 9) (t := 110) (b := false) (c := false) rfl rfl rfl rfl rfl (by simp) rfl
              case hy =>
                rintro W' hb'
                clear hb'
                go_simp
                first | done | with_reducible rfl
              simp only [List.setIfInBounds_toArray, List.set_cons_zero, List.set_cons_succ]
              apply plan_take rfl rfl (by rfl)
              case hy =>
                rintro W' hb'
                clear hb'
                go_simp
                first | done | with_reducible rfl
              simp only [List.setIfInBounds_toArray, List.set_cons_zero, List.set_cons_succ]
              apply plan_take rfl rfl (by rfl)
              case hy =>
                rintro W' hb'
                clear hb'
                go_simp
                first | done | with_reducible rfl
              simp only [List.setIfInBounds_toArray, List.set_cons_zero, List.set_cons_succ]
              apply plan_gd (j := 15) (t := 116) (b := false) (c := false) rfl rfl rfl rfl rfl (by simp) rfl
              case hy =>
                rintro W' hb'
                clear hb'
                go_simp
                first | done | with_reducible rfl
              simp only [List.setIfInBounds_toArray, List.set_cons_zero, List.set_cons_succ]
              apply plan_gd (j := 15) (t := 116) (b := false) (c := false) rfl rfl rfl rfl rfl (by simp) rfl
              case hy =>
                rintro W' hb'
                clear hb'
                go_simp
                first | done | with_reducible rfl
              simp only [List.setIfInBounds_toArray, List.set_cons_zero, List.set_cons_succ]
              refine plan_one rfl ?_
              gi_wp2_with (fail)
              refine (callsIn_wide.2 (HCB.out _ HSX.out)).mono ?_
              rintro e W5 ⟨rfl, hb5⟩
              have HSX := Lib.hid (bstep HSX.out hb5)
              clear hb5
              gi_wp2_with (fail)
              refine ⟨HSX.out, ?_⟩
              apply plan_gd (j := 15) (t := 116) (b := false) (c := false) rfl rfl rfl rfl rfl (by simp) rfl
              case hy =>
                rintro W' hb'
                clear hb'
                go_simp
                first | done | with_reducible rfl
              simp only [List.setIfInBounds_toArray, List.set_cons_zero, List.set_cons_succ]
              apply plan_take rfl rfl (by rfl)
              case hy =>
                rintro W' hb'
                clear hb'
                go_simp
                first | done | with_reducible rfl
              simp only [List.setIfInBounds_toArray, List.set_cons_zero, List.set_cons_succ]
              apply plan_take rfl rfl (by rfl)
              case hy =>
                rintro W' hb'
                clear hb'
                go_simp
                first | done | with_reducible rfl
              simp only [List.setIfInBounds_toArray, List.set_cons_zero, List.set_cons_succ]
              apply plan_gd (j := 21) (t := 122) (b := false) (c := false) rfl rfl rfl rfl rfl (by simp) rfl
              case hy =>
                rintro W' hb'
                clear hb'
                go_simp
                first | done | with_reducible rfl
              simp only [List.setIfInBounds_toArray, List.set_cons_zero, List.set_cons_succ]
              apply plan_gd (j := 21) (t := 122) (b := false) (c := false) rfl rfl rfl rfl rfl (by simp) rfl
              case hy =>
                rintro W' hb'
                clear hb'
                go_simp
                first | done | with_reducible rfl
              simp only [List.setIfInBounds_toArray, List.set_cons_zero, List.set_cons_succ]
              apply plan_gd (j := 21) (t := 122) (b := false) (c := false) rfl rfl rfl rfl rfl (by simp) rfl
              case hy =>
                rintro W' hb'
                clear hb'
                go_simp
                first | done | with_reducible rfl
              simp only [List.setIfInBounds_toArray, List.set_cons_zero, List.set_cons_succ]
              apply plan_gd (j := 24) (t := 125) (b := true) (c := true) rfl rfl rfl rfl rfl (by simp) rfl
              case hy =>
                rintro W' hb'
                have e0 := cell_keep hb' HK13.out
                have e1 := cell_keep hb' HQ2.out
                have e2 := cell_keep hb' HQ3.out
                have e4 := cell_keep hb' HN2.out
                have e5 := cell_keep hb' HR1.out
                have e6 := cell_keep hb' HR2.out
                clear hb'
                go_simp
                first | done | with_reducible rfl
              simp only [List.setIfInBounds_toArray, List.set_cons_zero, List.set_cons_succ]
              apply plan_gd (j := 24) (t := 125) (b := true) (c := true) rfl rfl rfl rfl rfl (by simp) rfl
              case hy =>
                rintro W' hb'
                clear hb'
                go_simp
                first | done | with_reducible rfl
              simp only [List.setIfInBounds_toArray, List.set_cons_zero, List.set_cons_succ]
              apply plan_gd (j := 24) (t := 125) (b := true) (c := true) rfl rfl rfl rfl rfl (by simp) rfl
              case hy =>
                rintro W' hb'
                have e0 := cell_keep hb' HK13.out
                have e1 := cell_keep hb' HQ2.out
                have e2 := cell_keep hb' HQ3.out
                have e4 := cell_keep hb' HN2.out
                have e5 := cell_keep hb' HR1.out
                have e6 := cell_keep hb' HR2.out
                clear hb'
                go_simp
                first | done | with_reducible rfl
              simp only [List.setIfInBounds_toArray, List.set_cons_zero, List.set_cons_succ]
              apply plan_gd (j := 24) (t := 125) (b := true) (c := true) rfl rfl rfl rfl rfl (by simp) rfl
              case hy =>
                rintro W' hb'
                clear hb'
                go_simp
                first | done | with_reducible rfl
              simp only [List.setIfInBounds_toArray, List.set_cons_zero, List.set_cons_succ]
              apply plan_gd (j := 24) (t := 125) (b := true) (c := true) rfl rfl rfl rfl rfl (by simp) rfl
              case hy =>
                rintro W' hb'
                clear hb'
                go_simp
                first | done | with_reducible rfl
              simp only [List.setIfInBounds_toArray, List.set_cons_zero, List.set_cons_succ]
              apply plan_gd (j := 24) (t := 125) (b := true) (c := true) rfl rfl rfl rfl rfl (by simp) rfl
              case hy =>
                rintro W' hb'
                clear hb'
                go_simp
                first | done | with_reducible rfl
              simp only [List.setIfInBounds_toArray, List.set_cons_zero, List.set_cons_succ]
              apply plan_gd (j := 24) (t := 125) (b := true) (c := true) rfl rfl rfl rfl rfl (by simp) rfl
              case hy =>
                rintro W' hb'
                clear hb'
                go_simp
                first | done | with_reducible rfl
              simp only [List.setIfInBounds_toArray, List.set_cons_zero, List.set_cons_succ]
              apply plan_gd (j := 24) (t := 125) (b := true) (c := true) rfl rfl rfl rfl rfl (by simp) rfl
              case hy =>
                rintro W' hb'
                have e0 := cell_keep hb' HK13.out
                have e1 := cell_keep hb' HQ2.out
                have e2 := cell_keep hb' HQ3.out
                have e4 := cell_keep hb' HN2.out
                have e5 := cell_keep hb' HR1.out
                have e6 := cell_keep hb' HR2.out
                clear hb'
                go_simp
                first | done | with_reducible rfl
              simp only [List.setIfInBounds_toArray, List.set_cons_zero, List.set_cons_succ]
              apply plan_gd (j := 24) (t := 125) (b := true) (c := true) rfl rfl rfl rfl rfl (by simp) rfl
              case hy =>
                rintro W' hb'
                clear hb'
                go_simp
                first | done | with_reducible rfl
              simp only [List.setIfInBounds_toArray, List.set_cons_zero, List.set_cons_succ]
              apply plan_gd (j := 24) (t := 125) (b := true) (c := true) rfl rfl rfl rfl rfl (by simp) rfl
              case hy =>
                rintro W' hb'
                have e0 := cell_keep hb' HK13.out
                have e1 := cell_keep hb' HQ2.out
                have e2 := cell_keep hb' HQ3.out
                have e4 := cell_keep hb' HN2.out
                have e5 := cell_keep hb' HR1.out
                have e6 := cell_keep hb' HR2.out
                clear hb'
                go_simp
                first | done | with_reducible rfl
              simp only [List.setIfInBounds_toArray, List.set_cons_zero, List.set_cons_succ]
              apply plan_gd (j := 24) (t := 125) (b := true) (c := true) rfl rfl rfl rfl rfl (by simp) rfl
              case hy =>
                rintro W' hb'
                clear hb'
                go_simp
                first | done | with_reducible rfl
              simp only [List.setIfInBounds_toArray, List.set_cons_zero, List.set_cons_succ]
              apply plan_gd (j := 21) (t := 122) (b := false) (c := false) rfl rfl rfl rfl rfl (by simp) rfl
              case hy =>
                rintro W' hb'
                clear hb'
                go_simp
                first | done | with_reducible rfl
              simp only [List.setIfInBounds_toArray, List.set_cons_zero, List.set_cons_succ]
              apply plan_take rfl rfl (by rfl)
              case hy =>
                rintro W' hb'
                clear hb'
                go_simp
                first | done | with_reducible rfl
              simp only [List.setIfInBounds_toArray, List.set_cons_zero, List.set_cons_succ]
              apply plan_take rfl rfl (by rfl)
              case hy =>
                rintro W' hb'
                clear hb'
                go_simp
                first | done | with_reducible rfl
              simp only [List.setIfInBounds_toArray, List.set_cons_zero, List.set_cons_succ]
              apply plan_gd (j := 38) (t := 139) (b := false) (c := false) rfl rfl rfl rfl rfl (by simp) rfl
              case hy =>
                rintro W' hb'
                clear hb'
                go_simp
                first | done | with_reducible rfl
              simp only [List.setIfInBounds_toArray, List.set_cons_zero, List.set_cons_succ]
              apply plan_gd (j := 38) (t := 139) (b := false) (c := false) rfl rfl rfl rfl rfl (by simp) rfl
              case hy =>
                rintro W' hb'
                clear hb'
                go_simp
                first | done | with_reducible rfl
              simp only [List.setIfInBounds_toArray, List.set_cons_zero, List.set_cons_succ]
              refine plan_one rfl ?_
              gi_wp2_with (fail)
              refine (callsIn_wide.2 (HAN.out _ HSX.out)).mono ?_
              rintro e W5 ⟨rfl, hb5⟩
              have HSX := Lib.hid (bstep HSX.out hb5)
              clear hb5
              gi_wp2_with (fail)
              refine ⟨HSX.out, ?_⟩
              apply plan_gd (j := 38) (t := 139) (b := false) (c := false) rfl rfl rfl rfl rfl (by simp) rfl
              case hy =>
                rintro W' hb'
                clear hb'
                go_simp
                first | done | with_reducible rfl
              simp only [List.setIfInBounds_toArray, List.set_cons_zero, List.set_cons_succ]
              apply plan_take rfl rfl (by rfl)
              case hy =>
                rintro W' hb'
                clear hb'
                go_simp
                first | done | with_reducible rfl
              simp only [List.setIfInBounds_toArray, List.set_cons_zero, List.set_cons_succ]
              refine plan_fin ?_
              gi_wp2_with (fail)
              go_wp2_with (fail)
              go_roundw
              case rel => exact ⟨i + 1, by omega, by simp, bstep HBJ.out HSX.out⟩
              case measure => simp [intOf]; omega
          · obtain rfl : n = i := by omega
            have dn : ((n : Int) == (n : Int)) = true := by simp
            obtain rfl : q = n := HQN.out
            clear hb
            go_wp2_with (fail)
            refine (HAW.out _ (bstep HWI.out HBI.out)).mono ?_
            rintro e w8 ⟨rfl, hb⟩
            have HB8 := Lib.hid (bstep (bstep HWI.out HBI.out) hb)
            clear hb
            go_wp2_with (fail)
            go_ret
            exact ⟨rfl, HB8.out⟩
end Go.Proofs.YtbahddjbncinbaaGreatDoor
