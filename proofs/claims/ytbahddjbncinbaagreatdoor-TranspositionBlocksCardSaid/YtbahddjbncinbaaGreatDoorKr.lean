/-
  Check of blocks, the reference.
-/
import Derived.Test.YtbahddjbncinbaaGreatDoorKc
import Derived.Test.YtbahddjbncinbaaGreatDoorCe
namespace Go.Ap
open Go Go.RowKit
/-- two rows of bools of the call's own, all false -/
structure TwoA (wb W : World) (S1 S2 n1 n2 : Nat) : Prop where
  one : ArrB W S1 (mkdB [] n1)
  two : ArrB W S2 (mkdB [] n2)
  ne : S1 ≠ S2
  ge1 : wb.heap.size ≤ S1
  ge2 : wb.heap.size ≤ S2
  below : Below wb.heap.size wb W
theorem reps (n : Nat) : ((List.replicate n false).map Value.bool).toArray = Array.replicate n (.bool false) := by simp
theorem twoA1 (wb : World) (n1 n2 : Nat) : TwoA wb ((wb.drew.alloc (.cells (Array.replicate n1 (.bool false)) 4)).alloc (.cells (Array.replicate n2 (.bool false)) 4)) wb.heap.size (wb.heap.size + 1) n1 n2 := by
  refine ⟨?_, ?_, by omega, Nat.le_refl _, by omega, bstep (bstep (bdrewN wb 1) (balloc wb.drew (.cells (Array.replicate n1 (.bool false)) 4))) (balloc (wb.drew.alloc (.cells (Array.replicate n1 (.bool false)) 4)) (.cells (Array.replicate n2 (.bool false)) 4))⟩
  · rw [mkdB_nil]
    have h : ArrB (wb.drew.alloc (.cells (Array.replicate n1 (.bool false)) 4)) wb.heap.size (List.replicate n1 false) := by rw [ArrB, reps]; exact heap_fresh rfl
    exact h.kept (balloc _ _)
  · rw [mkdB_nil, ArrB, reps]
    exact heap_fresh (by simp)
theorem twoA2 (wb : World) (n1 n2 : Nat) : TwoA wb ((wb.drew.alloc (.cells (Array.replicate n2 (.bool false)) 4)).alloc (.cells (Array.replicate n1 (.bool false)) 4)) (wb.heap.size + 1) wb.heap.size n1 n2 := by
  refine ⟨?_, ?_, by omega, by omega, Nat.le_refl _, bstep (bstep (bdrewN wb 1) (balloc wb.drew (.cells (Array.replicate n2 (.bool false)) 4))) (balloc (wb.drew.alloc (.cells (Array.replicate n2 (.bool false)) 4)) (.cells (Array.replicate n1 (.bool false)) 4))⟩
  · rw [mkdB_nil, ArrB, reps]
    exact heap_fresh (by simp)
  · rw [mkdB_nil]
    have h : ArrB (wb.drew.alloc (.cells (Array.replicate n2 (.bool false)) 4)) wb.heap.size (List.replicate n2 false) := by rw [ArrB, reps]; exact heap_fresh rfl
    exact h.kept (balloc _ _)
theorem ArrB.other {W : World} {B C : Nat} {T : List Bool} {j : Nat} {v : Value} (h : ArrB W B T) (hne : B ≠ C) : ArrB (W.setCell ⟨C, j, none⟩ v) B T :=
  (Below.heap_setCell _ _ _ B hne).trans h
theorem BlkK.other {W : World} {b c j : Nat} {cs : Array Value} {t : TypeId} {v : Value} (h : BlkK W b cs t) (hne : b ≠ c) : BlkK (W.setCell ⟨c, j, none⟩ v) b cs t :=
  (Below.heap_setCell _ _ _ b hne).trans h
end Go.Ap
namespace Go.Proofs.YtbahddjbncinbaaGreatDoor
open Go.RowKit Go.Ap Go.Shelf Go.Proofs

attribute [local go_sem] Oper.semAt_some bs_toList empty_toList bs_size bs_extract
set_option maxRecDepth 100000 in
theorem chk_stop37 (xs ys : List Tok) (a1 : Option Addr) (n1 c1 : Nat) (a2 : Option Addr) (n2 c2 : Nat) (v : Value) (w : World) (h1 : Toks w a1 n1 xs) (h2 : Toks w a2 n2 ys) (hk : chkT xs ys ≠ 0) :
    Calls Tryz.prog 37 #[.slice a1 n1 c1, .slice a2 n2 c2, v] w fun e w' => e = .returned (.int .i64 (chkT xs ys)) ∧ Below w.heap.size w w' := by
  have HC := Lib.hid (checkR xs ys a1 n1 c1 a2 n2 c2 w h1 h2)
  have dn : (chkT xs ys != 0) = true := by simpa using hk
  obtain ⟨k, hk2⟩ : ∃ k, chkT xs ys = k := ⟨_, rfl⟩
  rw [hk2] at HC dn ⊢
  clear h1 h2 hk hk2
  go_enter Tryz.func37, Tryz.ntmps37
  go_wp2_with (fail)
  refine HC.out.mono ?_
  rintro e wa ⟨rfl, hba⟩
  have HBA := Lib.hid hba
  clear hba
  go_wp2_with (fail)
  go_ret
  exact ⟨rfl, HBA.out⟩
set_option maxRecDepth 100000 in
set_option maxHeartbeats 8000000 in
theorem chk_go37 (xs ys : List Tok) (a1 : Option Addr) (n1 c1 : Nat) (a2 : Option Addr) (n2 c2 : Nat) (bl : List Blk) (a3 : Option Addr) (n3 c3 : Nat) (w : World) (h1 : Toks w a1 n1 xs) (h2 : Toks w a2 n2 ys) (h3 : Blks w a3 n3 bl)
    (hI : ∀ x ∈ bl, I64 x.fst ∧ I64 x.snd ∧ I64 x.len) (hk : chkT xs ys = 0) :
    Calls Tryz.prog 37 #[.slice a1 n1 c1, .slice a2 n2 c2, .slice a3 n3 c3] w fun e w' => e = .returned (.int .i64 (chkB n1 n2 (allI (prsE xs ys)) bl)) ∧ Below w.heap.size w w' := by
  obtain ⟨g1, g2, g3, g4⟩ := chkT_zero hk
  have HC := Lib.hid (checkR xs ys a1 n1 c1 a2 n2 c2 w h1 h2)
  rw [hk] at HC
  have HP := Lib.hid (fun W (hb : Below w.heap.size w W) => pairsR xs ys a1 n1 c1 a2 n2 c2 W (Toks.mono h1 (Nat.le_refl _) hb) (Toks.mono h2 (Nat.le_refl _) hb) (fun t ht => (tok_flags (g3 t ht)).1) (fun t ht => (tok_flags (g4 t ht)).1) (by have := h1.len; omega) (by have := h2.len; omega))
  have HE := Lib.hid (show prsE xs ys = pairsL (keysT xs) (keysT ys) by unfold prsE; rw [if_pos hk])
  have hpl := @prsE_len xs ys
  have hl1 := h1.len
  have hl2 := h2.len
  have HLT := Lib.hid (show ∀ p ∈ prsE xs ys, p.1 < n1 ∧ p.2 < n2 from fun p hp => by
    rw [HE.out] at hp
    have := pair_lt (show (p.1, p.2) ∈ _ from hp)
    rw [keysT_len, keysT_len] at this
    omega)
  have HX := Lib.hid h3
  have HI := Lib.hid hI
  have hs3 := h3.small
  have hl3 := Lib.hid h3.len
  have hn1 : n1 ≤ 1024 := by omega
  have hn2 : n2 ≤ 1024 := by omega
  have HMK1 := Lib.hid (make_bools n1 (by omega))
  have HMK2 := Lib.hid (make_bools n2 (by omega))
  obtain ⟨l, hll⟩ : ∃ l, prsE xs ys = l := ⟨_, rfl⟩
  rw [hll] at HE hpl HLT ⊢
  rw [← HE.out] at HP
  obtain ⟨E, hE⟩ : ∃ E, chkB n1 n2 (allI l) bl = E := ⟨_, rfl⟩
  have HE0 := Lib.hid (show E = chkG n1 n2 (allI l) [] [] 0 bl by rw [← hE]; rfl)
  rw [hE]
  clear h1 h2 h3 hI hk g1 g2 g3 g4 hll hE hl1 hl2
  go_enter Tryz.func37, Tryz.ntmps37
  go_wp2_with (fail)
  refine HC.out.mono ?_
  rintro e wa ⟨rfl, hba⟩
  have HBA := Lib.hid hba
  clear hba
  go_wp2_with (fail)
  refine (HP.out _ HBA.out).mono ?_
  rintro e wb ⟨v, rfl, ho, hb⟩
  obtain ⟨ap, cp, rfl, hr⟩ := ho.rows (by rw [rowsP_len]; omega) rows_two
  rw [rowsP_len] at hr ⊢
  have HR := Lib.hid hr
  have HB := Lib.hid (bstep HBA.out hb)
  obtain ⟨n, hn⟩ : ∃ n, l.length = n := ⟨_, rfl⟩
  rw [hn] at HR hpl ⊢
  have HN := Lib.hid hn
  clear ho hb hr hn
  go_wp2_with (fail)
  refine (wpIn_wide (n := 20)).1 ?_
  refine wpIn_region_planN (fun W' => Below wb.heap.size wb W') (.take 0 <| .take 1 <| .take 3 <| .take 4 <| .two 2 5 (.take 6 <| .one 5 <| .take 7 <| .fin) (.one 2 <| .take 6 <| .take 7 <| .fin)) (fun _ => trivial) (by kernel_rfl) (by kernel_rfl) (bdrewN wb 1) ?_
  apply plan_take rfl rfl (by rfl)
  case hy =>
    rintro W' hb'
    clear hb'
    go_simp
    first | done | with_reducible rfl
  simp only [List.setIfInBounds_toArray, List.set_cons_zero, List.set_cons_succ]
  apply plan_take rfl rfl (by rfl)
  case hy =>
    rintro W' hb'
    clear hb'
    go_simp
    first | done | with_reducible rfl
  simp only [List.setIfInBounds_toArray, List.set_cons_zero, List.set_cons_succ]
  apply plan_take rfl rfl (by rfl)
  case hy =>
    rintro W' hb'
    clear hb'
    go_simp
    first | done | with_reducible rfl
  simp only [List.setIfInBounds_toArray, List.set_cons_zero, List.set_cons_succ]
  apply plan_take rfl rfl (by rfl)
  case hy =>
    rintro W' hb'
    clear hb'
    go_simp
    first | done | with_reducible rfl
  simp only [List.setIfInBounds_toArray, List.set_cons_zero, List.set_cons_succ]
  apply plan_two_key rfl rfl
  case h1 =>
    intro KEY
    have hmk1 := HMK1.out
    have hmk2 := HMK2.out
    gi_wp2_with (fail)
    refine ⟨bstep (bdrewN wb 1) (balloc wb.drew (.cells (Array.replicate n1 (.bool false)) 4)), ?_⟩
    apply plan_take rfl rfl (by rfl)
    case hy =>
      rintro W' hb'
      clear hb'
      go_simp
      first | done | with_reducible rfl
    simp only [List.setIfInBounds_toArray, List.set_cons_zero, List.set_cons_succ]
    refine plan_one rfl ?_
    gi_wp2_with (fail)
    refine ⟨bstep (bstep (bdrewN wb 1) (balloc wb.drew (.cells (Array.replicate n1 (.bool false)) 4))) (balloc (wb.drew.alloc (.cells (Array.replicate n1 (.bool false)) 4)) (.cells (Array.replicate n2 (.bool false)) 4)), ?_⟩
    apply plan_take rfl rfl (by rfl)
    case hy =>
      rintro W' hb'
      clear hb'
      go_simp
      first | done | with_reducible rfl
    simp only [List.setIfInBounds_toArray, List.set_cons_zero, List.set_cons_succ]
    refine plan_fin ?_
    have HT : TwoA wb ((wb.alloc (.cells (Array.replicate n1 (.bool false)) 4)).alloc (.cells (Array.replicate n2 (.bool false)) 4)).drew (wb.heap.size) (wb.heap.size + 1) n1 n2 := twoA1 wb n1 n2
    revert HT
    generalize ((wb.alloc (.cells (Array.replicate n1 (.bool false)) 4)).alloc (.cells (Array.replicate n2 (.bool false)) 4)).drew = W5
    generalize hS2 : wb.heap.size + 1 = S2
    generalize hS1 : wb.heap.size = S1
    clear hS1 hS2
    clear hmk1 hmk2
    revert S1
    revert S2
    revert W5
    exact KEY
  case h2 =>
    intro KEY
    have hmk1 := HMK1.out
    have hmk2 := HMK2.out
    gi_wp2_with (fail)
    refine ⟨bstep (bdrewN wb 1) (balloc wb.drew (.cells (Array.replicate n2 (.bool false)) 4)), ?_⟩
    refine plan_one rfl ?_
    gi_wp2_with (fail)
    refine ⟨bstep (bstep (bdrewN wb 1) (balloc wb.drew (.cells (Array.replicate n2 (.bool false)) 4))) (balloc (wb.drew.alloc (.cells (Array.replicate n2 (.bool false)) 4)) (.cells (Array.replicate n1 (.bool false)) 4)), ?_⟩
    apply plan_take rfl rfl (by rfl)
    case hy =>
      rintro W' hb'
      clear hb'
      go_simp
      first | done | with_reducible rfl
    simp only [List.setIfInBounds_toArray, List.set_cons_zero, List.set_cons_succ]
    apply plan_take rfl rfl (by rfl)
    case hy =>
      rintro W' hb'
      clear hb'
      go_simp
      first | done | with_reducible rfl
    simp only [List.setIfInBounds_toArray, List.set_cons_zero, List.set_cons_succ]
    refine plan_fin ?_
    have HT : TwoA wb ((wb.alloc (.cells (Array.replicate n2 (.bool false)) 4)).alloc (.cells (Array.replicate n1 (.bool false)) 4)).drew (wb.heap.size + 1) (wb.heap.size) n1 n2 := twoA2 wb n1 n2
    revert HT
    generalize ((wb.alloc (.cells (Array.replicate n2 (.bool false)) 4)).alloc (.cells (Array.replicate n1 (.bool false)) 4)).drew = W5
    generalize hS1 : wb.heap.size + 1 = S1
    generalize hS2 : wb.heap.size = S2
    clear hS1 hS2
    clear hmk1 hmk2
    revert S1
    revert S2
    revert W5
    exact KEY
  intro W5 S2 S1 HT
  gi_wp2_with (fail)
  go_wp2_with (fail)
  have HTW := Lib.hid HT
  have hne := HT.ne
  have hge1 := HT.ge1
  have hge2 := HT.ge2
  have HBW := Lib.hid (bstep HB.out HT.below)
  have HRW := Lib.hid (HR.out.mono (Nat.le_refl _) HT.below)
  have HXW := Lib.hid (blks_mono HX.out (Nat.le_refl _) HBW.out)
  have hlt1 := HT.one.lt
  have hlt2 := HT.two.lt
  clear HT
  go_loopw [11, 12] (fun ev iv wr => ∃ (i e : Nat) (ins tk : List Int), i ≤ n3 ∧ iv = .int .i64 i ∧ ev = .int .i64 e ∧ e ≤ n1 ∧ ArrB wr S1 (mkdB ins n1) ∧ ArrB wr S2 (mkdB tk n2) ∧ E = chkG n1 n2 (allI l) ins tk e (bl.drop i) ∧ Below wb.heap.size wb wr) (fun _ iv _ => n3 - (intOf iv).toNat)
  case atStart => exact ⟨0, 0, [], [], Nat.zero_le _, rfl, rfl, Nat.zero_le _, HTW.out.one, HTW.out.two, HE0.out, HTW.out.below⟩
  case round =>
    obtain ⟨wj, rfl⟩ : ∃ wj : World, wj = wr := ⟨_, rfl⟩
    obtain ⟨i, e, ins, tk, hi, rfl, rfl, he, hm1, hm2, hEE, hb⟩ := hrel
    by_cases hin : i < n3
    · obtain ⟨x, b, o, hx, rfl, x0, x1, x2⟩ := (blks_mono (blks_mono HX.out (Nat.le_refl _) HB.out) (Nat.le_refl _) hb).at hin
      obtain ⟨hi0, hi1, hi2⟩ := HI.out x (List.mem_of_getElem? hx)
      obtain ⟨fst, snd, len⟩ := x
      simp only at x0 x1 x2 hi0 hi1 hi2
      rw [drop_cons hx] at hEE
      have hbx := balloc wj (.cells #[.int .i64 fst, .int .i64 snd, .int .i64 len] 54)
      obtain ⟨V, hV⟩ : ∃ V, wj.alloc (.cells #[.int .i64 fst, .int .i64 snd, .int .i64 len] 54) = V := ⟨_, rfl⟩
      obtain ⟨X, hX⟩ : ∃ X, wj.heap.size = X := ⟨_, rfl⟩
      have hk0 := BlkK.new wj #[.int .i64 fst, .int .i64 snd, .int .i64 len] 54
      have k0 := hk0.cell (i := 0) (u := .int .i64 fst) rfl
      have k1 := hk0.cell (i := 1) (u := .int .i64 snd) rfl
      have k2 := hk0.cell (i := 2) (u := .int .i64 len) rfl
      rw [hV] at hbx hk0
      rw [hX] at hk0
      have HK := Lib.hid hk0
      have HM1 := Lib.hid (hm1.kept hbx)
      have HM2 := Lib.hid (hm2.kept hbx)
      have hX1 : S1 < X := by have := hm1.lt; omega
      have hX2 : S2 < X := by have := hm2.lt; omega
      have HV := Lib.hid (bstep hb hbx)
      have HBV := Lib.hid (bstep HB.out HV.out)
      have HV2 := Lib.hid hV
      have HX2 := Lib.hid hX
      have HEE := Lib.hid hEE
      have HBAD := Lib.hid (fun h => hEE.trans (chkG_bad (blkE_two h) (by decide)))
      have i1 : (i : Int) < (n3 : Int) := by omega
      obtain ⟨i01, i02⟩ := hi0
      obtain ⟨i11, i12⟩ := hi1
      obtain ⟨i21, i22⟩ := hi2
      clear hk0 hm1 hm2 hEE hb hbx hx hV hX
      by_cases q0 : len < 1
      · have HE2 := Lib.hid (HBAD.out (badR_true (by simp only; omega)))
        have d0 : decide ((len : Int) < 1) = true := decide_eq_true q0
        clear q0
        go_wp2_with (fail)
        go_ret
        exact ⟨by rw [HE2.out]; rfl, by rw [HV2.out]; exact HBV.out⟩
      by_cases q1 : fst < 0
      · have HE2 := Lib.hid (HBAD.out (badR_true (by simp only; omega)))
        have d0 : decide ((len : Int) < 1) = false := decide_eq_false q0
        have d1 : decide ((fst : Int) < 0) = true := decide_eq_true q1
        clear q0 q1
        go_wp2_with (fail)
        go_ret
        exact ⟨by rw [HE2.out]; rfl, by rw [HV2.out]; exact HBV.out⟩
      by_cases q2 : snd < 0
      · have HE2 := Lib.hid (HBAD.out (badR_true (by simp only; omega)))
        have d0 : decide ((len : Int) < 1) = false := decide_eq_false q0
        have d1 : decide ((fst : Int) < 0) = false := decide_eq_false q1
        have d2 : decide ((snd : Int) < 0) = true := decide_eq_true q2
        clear q0 q1 q2
        go_wp2_with (fail)
        go_ret
        exact ⟨by rw [HE2.out]; rfl, by rw [HV2.out]; exact HBV.out⟩
      by_cases q3 : (n1 : Int) < fst
      · have HE2 := Lib.hid (HBAD.out (badR_true (by simp only; omega)))
        have d0 : decide ((len : Int) < 1) = false := decide_eq_false q0
        have d1 : decide ((fst : Int) < 0) = false := decide_eq_false q1
        have d2 : decide ((snd : Int) < 0) = false := decide_eq_false q2
        have d3 : decide ((n1 : Int) < fst) = true := decide_eq_true q3
        clear q0 q1 q2 q3
        go_wp2_with (fail)
        go_ret
        exact ⟨by rw [HE2.out]; rfl, by rw [HV2.out]; exact HBV.out⟩
      by_cases q4 : (n2 : Int) < snd
      · have HE2 := Lib.hid (HBAD.out (badR_true (by simp only; omega)))
        have d0 : decide ((len : Int) < 1) = false := decide_eq_false q0
        have d1 : decide ((fst : Int) < 0) = false := decide_eq_false q1
        have d2 : decide ((snd : Int) < 0) = false := decide_eq_false q2
        have d3 : decide ((n1 : Int) < fst) = false := decide_eq_false q3
        have d4 : decide ((n2 : Int) < snd) = true := decide_eq_true q4
        clear q0 q1 q2 q3 q4
        go_wp2_with (fail)
        go_ret
        exact ⟨by rw [HE2.out]; rfl, by rw [HV2.out]; exact HBV.out⟩
      by_cases q5 : (n1 : Int) - fst < len
      · have HE2 := Lib.hid (HBAD.out (badR_true (by simp only; omega)))
        have w5 : IntKind.i64.wrap ((n1 : Int) - fst) = (n1 : Int) - fst := IntWalk.i64_in _ (by omega)
        have d0 : decide ((len : Int) < 1) = false := decide_eq_false q0
        have d1 : decide ((fst : Int) < 0) = false := decide_eq_false q1
        have d2 : decide ((snd : Int) < 0) = false := decide_eq_false q2
        have d3 : decide ((n1 : Int) < fst) = false := decide_eq_false q3
        have d4 : decide ((n2 : Int) < snd) = false := decide_eq_false q4
        have d5 : decide ((n1 : Int) - fst < len) = true := decide_eq_true q5
        clear q0 q1 q2 q3 q4 q5
        go_wp2_with (fail)
        go_ret
        exact ⟨by rw [HE2.out]; rfl, by rw [HV2.out]; exact HBV.out⟩
      by_cases q6 : (n2 : Int) - snd < len
      · have HE2 := Lib.hid (HBAD.out (badR_true (by simp only; omega)))
        have w5 : IntKind.i64.wrap ((n1 : Int) - fst) = (n1 : Int) - fst := IntWalk.i64_in _ (by omega)
        have w6 : IntKind.i64.wrap ((n2 : Int) - snd) = (n2 : Int) - snd := IntWalk.i64_in _ (by omega)
        have d0 : decide ((len : Int) < 1) = false := decide_eq_false q0
        have d1 : decide ((fst : Int) < 0) = false := decide_eq_false q1
        have d2 : decide ((snd : Int) < 0) = false := decide_eq_false q2
        have d3 : decide ((n1 : Int) < fst) = false := decide_eq_false q3
        have d4 : decide ((n2 : Int) < snd) = false := decide_eq_false q4
        have d5 : decide ((n1 : Int) - fst < len) = false := decide_eq_false q5
        have d6 : decide ((n2 : Int) - snd < len) = true := decide_eq_true q6
        clear q0 q1 q2 q3 q4 q5 q6
        go_wp2_with (fail)
        go_ret
        exact ⟨by rw [HE2.out]; rfl, by rw [HV2.out]; exact HBV.out⟩
      have HGOOD := Lib.hid ((badR_false (na := n1) (nb := n2) (x := ⟨fst, snd, len⟩)).2 ⟨Int.not_lt.1 q0, Int.not_lt.1 q1, Int.not_lt.1 q2, Int.not_lt.1 q3, Int.not_lt.1 q4, Int.not_lt.1 q5, Int.not_lt.1 q6⟩)
      have w5 : IntKind.i64.wrap ((n1 : Int) - fst) = (n1 : Int) - fst := IntWalk.i64_in _ (by omega)
      have w6 : IntKind.i64.wrap ((n2 : Int) - snd) = (n2 : Int) - snd := IntWalk.i64_in _ (by omega)
      have d0 : decide ((len : Int) < 1) = false := decide_eq_false q0
      have d1 : decide ((fst : Int) < 0) = false := decide_eq_false q1
      have d2 : decide ((snd : Int) < 0) = false := decide_eq_false q2
      have d3 : decide ((n1 : Int) < fst) = false := decide_eq_false q3
      have d4 : decide ((n2 : Int) < snd) = false := decide_eq_false q4
      have d5 : decide ((n1 : Int) - fst < len) = false := decide_eq_false q5
      have d6 : decide ((n2 : Int) - snd < len) = false := decide_eq_false q6
      clear q0 q1 q2 q3 q4 q5 q6
      by_cases qe : fst < (e : Int)
      · have HE2 := Lib.hid (HEE.out.trans (chkG_bad (blkE_ten HGOOD.out qe) (by decide)))
        have de : decide ((fst : Int) < (e : Int)) = true := decide_eq_true qe
        clear qe
        go_wp2_with (fail)
        go_ret
        exact ⟨by rw [HE2.out]; rfl, by rw [HV2.out]; exact HBV.out⟩
      have HQE := Lib.hid qe
      have de : decide ((fst : Int) < (e : Int)) = false := decide_eq_false qe
      have z0 := badR_false.1 HGOOD.out
      simp only at z0
      obtain ⟨z0, z1, z2, z3, z4, z5, z6⟩ := z0
      clear qe
      go_wp2_with (fail)
      rw [HV2.out, HX2.out]
      clear k0 k1 k2 d0 d1 d2 d3 d4 d5 d6 de w5 w6
      have k0 := HK.out.cell (i := 0) (u := .int .i64 fst) rfl
      have k1 := HK.out.cell (i := 1) (u := .int .i64 snd) rfl
      have k2 := HK.out.cell (i := 2) (u := .int .i64 len) rfl
      go_loopw [14] (fun jv wr => ∃ j : Nat, (j : Int) ≤ len ∧ jv = .int .i64 j ∧ V = wr ∧ ∀ t : Nat, t < j → snd + (t : Int) ∉ tk) (fun jv _ => len.toNat - (intOf jv).toNat)
      case atStart => exact ⟨0, by omega, rfl, rfl, fun t ht => by omega⟩
      case round =>
        obtain ⟨j, hj, rfl, rfl, hno⟩ := hrel
        have HNO := Lib.hid hno
        clear hno
        by_cases hjl : (j : Int) < len
        · obtain ⟨u, hu⟩ : ∃ u : Nat, snd + (j : Int) = (u : Int) := ⟨(snd + (j : Int)).toNat, by omega⟩
          have hun : u < n2 := by omega
          have cs := HM2.out.cell (k := u) (by rw [mkdB_len]; exact hun)
          rw [show tkB (mkdB tk n2) u = decide ((u : Int) ∈ tk) from mkdB_at hun] at cs
          have ws : IntKind.i64.wrap (snd + (j : Int)) = (u : Int) := by rw [hu]; exact IntWalk.i64_in _ (by omega)
          have dj : decide ((j : Int) < len) = true := decide_eq_true hjl
          have u1 : (u : Int) < (n2 : Int) := by omega
          by_cases hm : snd + (j : Int) ∈ tk
          · rw [← hu, decide_eq_true hm] at cs
            have HE2 := Lib.hid (HEE.out.trans (chkG_bad (blkE_seven HGOOD.out (by have := HQE.out; simp only; omega) j hjl hm) (by decide)))
            clear hm hjl hj hu
            go_wp2_with (fail)
            go_ret
            exact ⟨by rw [HE2.out]; rfl, HBV.out⟩
          · rw [← hu, decide_eq_false hm] at cs
            have HM := Lib.hid hm
            have HJ := Lib.hid hjl
            clear hm hjl hu
            go_wp2_with (fail)
            go_roundw
            case rel => exact ⟨j + 1, by have := HJ.out; omega, by simp, trivial, fun t ht => by
              rcases Nat.lt_or_ge t j with h | h
              · exact HNO.out t h
              · obtain rfl : t = j := by omega
                exact HM.out⟩
            case measure => have := HJ.out; simp [intOf]; omega
        · have HJE := Lib.hid (show (j : Int) = len by omega)
          have dj : decide ((j : Int) < len) = false := decide_eq_false hjl
          have HNT := Lib.hid (show ∀ t : Nat, (t : Int) < len → snd + (t : Int) ∉ tk from fun t ht => HNO.out t (by have := HJE.out; omega))
          clear hjl
          go_wp2_with (fail)
          clear dj HJE HNO
          go_loopw [15] (fun jv wr => ∃ j : Nat, (j : Int) ≤ len ∧ jv = .int .i64 j ∧ ArrB wr S1 (mkdB (ins ++ fstsT ⟨fst, snd, len⟩ j) n1) ∧ ArrB wr S2 (mkdB (tk ++ sndsT ⟨fst, snd, len⟩ j) n2) ∧ (∀ t : Nat, t < j → (fst + (t : Int), snd + (t : Int)) ∈ allI l) ∧ BlkK wr X #[.int .i64 fst, .int .i64 snd, .int .i64 len] 54 ∧ Below wb.heap.size wb wr) (fun jv _ => len.toNat - (intOf jv).toNat)
          case atStart => exact ⟨0, by omega, rfl, by rw [fstsT_zero, List.append_nil]; exact HM1.out, by rw [sndsT_zero, List.append_nil]; exact HM2.out, fun t ht => by omega, HK.out, HV.out⟩
          case round =>
            obtain ⟨wk, rfl⟩ : ∃ wk : World, wk = wr := ⟨_, rfl⟩
            obtain ⟨j, hj, rfl, hm1, hm2, hall, hbk, hb⟩ := hrel
            have HBK := Lib.hid hb
            have HA1 := Lib.hid hm1
            have HA2 := Lib.hid hm2
            have HALL := Lib.hid hall
            have HK4 := Lib.hid hbk
            have hz1 := hm1.lt
            have hz2 := hm2.lt
            clear k0 k1 k2 hm1 hm2 hall hbk hb
            have k0 := HK4.out.cell (i := 0) (u := .int .i64 fst) rfl
            have k1 := HK4.out.cell (i := 1) (u := .int .i64 snd) rfl
            have k2 := HK4.out.cell (i := 2) (u := .int .i64 len) rfl
            by_cases hjl : (j : Int) < len
            · obtain ⟨u, hu⟩ : ∃ u : Nat, fst + (j : Int) = (u : Int) := ⟨(fst + (j : Int)).toNat, by omega⟩
              obtain ⟨v, hv⟩ : ∃ v : Nat, snd + (j : Int) = (v : Int) := ⟨(snd + (j : Int)).toNat, by omega⟩
              have hun : u < n1 := by omega
              have hvn : v < n2 := by omega
              have wf : IntKind.i64.wrap (fst + (j : Int)) = (u : Int) := by rw [hu]; exact IntWalk.i64_in _ (by omega)
              have ws : IntKind.i64.wrap (snd + (j : Int)) = (v : Int) := by rw [hv]; exact IntWalk.i64_in _ (by omega)
              have dj : decide ((j : Int) < len) = true := decide_eq_true hjl
              have HJ := Lib.hid hjl
              have HU := Lib.hid hu
              have HVV := Lib.hid hv
              have HRK := Lib.hid (HR.out.mono (Nat.le_refl _) HBK.out)
              clear hjl hu hv
              go_wp2_with (fail)
              clear dj
              go_loopw [16, 17] (fun sv kv wr => ∃ (k : Nat) (b : Bool), k ≤ n ∧ kv = .int .i64 k ∧ sv = .bool b ∧ b = decide ((((u : Nat) : Int), ((v : Nat) : Int)) ∈ allI (l.take k)) ∧ Below wk.heap.size wk wr) (fun _ kv _ => n - (intOf kv).toNat)
              case atStart => exact ⟨0, false, Nat.zero_le _, rfl, rfl, by simp [allI], Below.refl _ _⟩
              case round =>
                obtain ⟨wl, rfl⟩ : ∃ wl : World, wl = wr := ⟨_, rfl⟩
                obtain ⟨k, b, hk, rfl, rfl, hbv, hb⟩ := hrel
                have HBL := Lib.hid hb
                have hkl := HK4.out.below hb
                have HKL := Lib.hid hkl
                clear k0 k1 k2
                have k0 := hkl.cell (i := 0) (u := .int .i64 fst) rfl
                have k1 := hkl.cell (i := 1) (u := .int .i64 snd) rfl
                have k2 := hkl.cell (i := 2) (u := .int .i64 len) rfl
                clear hkl
                by_cases hkn : k < n
                · obtain ⟨p, b', o', ab, ao, kr, hp, rfl, q1, q2, q3⟩ := rowAt HRK.out hkn
                  have q1 := cell_keep hb q1
                  have q2 := cell_keep hb q2
                  have q3 := cell_keep hb q3
                  have HAT := Lib.hid (allI_take hp)
                  have hplt := HLT.out p (List.mem_of_getElem? hp)
                  obtain ⟨f, hf⟩ : ∃ f, p.1 = f := ⟨_, rfl⟩
                  obtain ⟨g, hg⟩ : ∃ g, p.2 = g := ⟨_, rfl⟩
                  have HPI := Lib.hid (show pairI p = (((f : Nat) : Int), ((g : Nat) : Int)) by rw [← hf, ← hg]; rfl)
                  rw [hf] at q2 hplt
                  rw [hg] at q3 hplt
                  have i2 : (k : Int) < (n : Int) := by omega
                  have HBV2 := Lib.hid hbv
                  clear hb hbv hp hf hg
                  cases b
                  · by_cases e1 : f = u
                    · have f1 : ((f : Int) == (u : Int)) = true := by rw [beq_iff_eq]; omega
                      have g1 : (f == u) = true := by rw [beq_iff_eq]; exact e1
                      by_cases e2 : g = v
                      · have f2 : ((g : Int) == (v : Int)) = true := by rw [beq_iff_eq]; omega
                        have g2 : (g == v) = true := by rw [beq_iff_eq]; exact e2
                        have HR2 := Lib.hid (show true = decide ((((u : Nat) : Int), ((v : Nat) : Int)) ∈ allI (l.take (k + 1))) by rw [HAT.out, HPI.out, e1, e2]; simp)
                        clear e1 e2
                        go_wp2_with (fail)
                        go_quiet (fail)
                        go_wp2_with (fail)
                        go_roundw
                        case rel => exact ⟨k + 1, true, by omega, by simp, rfl, HR2.out, bstep HBL.out (bdrewN _ _)⟩
                        case measure => simp [intOf]; omega
                      · have f2 : ((g : Int) == (v : Int)) = false := by rw [beq_eq_false_iff_ne]; omega
                        have g2 : (g == v) = false := by rw [beq_eq_false_iff_ne]; exact e2
                        have HR2 := Lib.hid (show false = decide ((((u : Nat) : Int), ((v : Nat) : Int)) ∈ allI (l.take (k + 1))) by
                          have := HBV2.out
                          rw [HAT.out, HPI.out, eq_comm, decide_eq_false_iff_not, List.mem_append, List.mem_singleton, Prod.mk.injEq]
                          rw [eq_comm, decide_eq_false_iff_not] at this
                          rintro (h | h)
                          · exact this h
                          · omega)
                        clear e1 e2
                        go_wp2_with (fail)
                        go_quiet (fail)
                        go_wp2_with (fail)
                        go_roundw
                        case rel => exact ⟨k + 1, false, by omega, by simp, rfl, HR2.out, bstep HBL.out (bdrewN _ _)⟩
                        case measure => simp [intOf]; omega
                    · have f1 : ((f : Int) == (u : Int)) = false := by rw [beq_eq_false_iff_ne]; omega
                      have g1 : (f == u) = false := by rw [beq_eq_false_iff_ne]; exact e1
                      have HR2 := Lib.hid (show false = decide ((((u : Nat) : Int), ((v : Nat) : Int)) ∈ allI (l.take (k + 1))) by
                        have := HBV2.out
                        rw [HAT.out, HPI.out, eq_comm, decide_eq_false_iff_not, List.mem_append, List.mem_singleton, Prod.mk.injEq]
                        rw [eq_comm, decide_eq_false_iff_not] at this
                        rintro (h | h)
                        · exact this h
                        · omega)
                      clear e1
                      go_wp2_with (fail)
                      go_quiet (fail)
                      go_wp2_with (fail)
                      go_roundw
                      case rel => exact ⟨k + 1, false, by omega, by simp, rfl, HR2.out, bstep HBL.out (bdrewN _ _)⟩
                      case measure => simp [intOf]; omega
                  · have HR2 := Lib.hid (show true = decide ((((u : Nat) : Int), ((v : Nat) : Int)) ∈ allI (l.take (k + 1))) by
                      have := HBV2.out
                      rw [eq_comm, decide_eq_true_eq] at this
                      rw [HAT.out, eq_comm, decide_eq_true_eq, List.mem_append]
                      exact .inl this)
                    go_wp2_with (fail)
                    go_quiet (fail)
                    go_wp2_with (fail)
                    go_roundw
                    case rel => exact ⟨k + 1, true, by omega, by simp, rfl, HR2.out, bstep HBL.out (bdrewN _ _)⟩
                    case measure => simp [intOf]; omega
                · obtain rfl : n = k := by omega
                  rw [List.take_of_length_le (by rw [HN.out]; exact Nat.le_refl _)] at hbv
                  have HBV2 := Lib.hid hbv
                  clear hb hbv
                  cases b
                  · have hnot : (fst + (j : Int), snd + (j : Int)) ∉ allI l := by
                      have := HBV2.out
                      rw [eq_comm, decide_eq_false_iff_not] at this
                      rw [HU.out, HVV.out]
                      exact this
                    have HE2 := Lib.hid (HEE.out.trans (chkG_bad (blkE_nine HGOOD.out (by have := HQE.out; simp only; omega) HNT.out j HJ.out hnot) (by decide)))
                    clear hnot
                    go_wp2_with (fail)
                    go_ret
                    exact ⟨by rw [HE2.out]; rfl, bstep HB.out (bstep HBK.out HBL.out)⟩
                  · have HIN := Lib.hid (show (fst + (j : Int), snd + (j : Int)) ∈ allI l by
                      have := HBV2.out
                      rw [eq_comm, decide_eq_true_eq] at this
                      rw [HU.out, HVV.out]
                      exact this)
                    have ha1 : ArrB wl.drew S1 (mkdB (ins ++ fstsT ⟨fst, snd, len⟩ j) n1) := (HA1.out.kept HBL.out).kept (bdrewN wl 1)
                    have ha2 : ArrB wl.drew S2 (mkdB (tk ++ sndsT ⟨fst, snd, len⟩ j) n2) := (HA2.out.kept HBL.out).kept (bdrewN wl 1)
                    have c1 := ha1.cell (k := u) (by rw [mkdB_len]; exact hun)
                    have c2 := ha2.cell (k := v) (by rw [mkdB_len]; exact hvn)
                    have s1 := ha1.free u
                    have s2 := ha2.free v
                    have ha1' := ha1.set u true
                    have ha2' := ha2.set v true
                    rw [mkdB_push] at ha1' ha2'
                    have e1 : (ins ++ fstsT ⟨fst, snd, len⟩ j) ++ [(u : Int)] = ins ++ fstsT ⟨fst, snd, len⟩ (j + 1) := by rw [fstsT_succ, List.append_assoc]; simp only; rw [HU.out]
                    have e2 : (tk ++ sndsT ⟨fst, snd, len⟩ j) ++ [(v : Int)] = tk ++ sndsT ⟨fst, snd, len⟩ (j + 1) := by rw [sndsT_succ, List.append_assoc]; simp only; rw [HVV.out]
                    rw [e1] at ha1'
                    rw [e2] at ha2'
                    have c2' : (wl.setCell ⟨S1, u, none⟩ (.bool true)).drew.cell? ⟨S2, v, none⟩ = some (.bool (tkB (mkdB (tk ++ sndsT ⟨fst, snd, len⟩ j) n2) v)) := (ha2.other (C := S1) (j := u) (v := .bool true) (Ne.symm hne)).cell (k := v) (by rw [mkdB_len]; exact hvn)
                    have s2' : (wl.setCell ⟨S1, u, none⟩ (.bool true)).drew.frozen? ⟨S2, v, none⟩ = false := (ha2.other (C := S1) (j := u) (v := .bool true) (Ne.symm hne)).free v
                    have hkd : BlkK wl.drew X #[.int .i64 fst, .int .i64 snd, .int .i64 len] 54 := HKL.out.below (bdrewN wl 1)
                    have HKD := Lib.hid hkd
                    have hbd : Below wb.heap.size wb wl.drew := bstep (bstep HBK.out HBL.out) (bdrewN wl 1)
                    have HBD := Lib.hid hbd
                    have HF1 := Lib.hid (ha1'.other (C := S2) (j := v) (v := .bool true) hne)
                    have ha2s := (ha2.other (C := S1) (j := u) (v := .bool true) (Ne.symm hne)).set v true
                    rw [mkdB_push, e2] at ha2s
                    have HF2 := Lib.hid ha2s
                    have HK1 := Lib.hid (hkd.other (c := S1) (j := u) (v := .bool true) (by omega))
                    have HK2 := Lib.hid (HK1.out.other (c := S2) (j := v) (v := .bool true) (by omega))
                    have HB1 := Lib.hid (hbd.setCell (p := ⟨S1, u, none⟩) hge1 (.bool true))
                    have HB2 := Lib.hid (HB1.out.setCell (p := ⟨S2, v, none⟩) hge2 (.bool true))
                    have HAL := Lib.hid (show ∀ t : Nat, t < j + 1 → (fst + (t : Int), snd + (t : Int)) ∈ allI l from fun t ht => by
                      rcases Nat.lt_or_ge t j with h | h
                      · exact HALL.out t h
                      · obtain rfl : t = j := by omega
                        exact HIN.out)
                    have u1 : (u : Int) < (n1 : Int) := by omega
                    have v1 : (v : Int) < (n2 : Int) := by omega
                    clear ha1 ha2 ha1' ha2' ha2s e1 e2 hkd hbd
                    go_wp2_with (fail)
                    refine (wpIn_wide (n := 20)).1 ?_
                    refine wpIn_region_planN (fun W' => Below wb.heap.size wb W' ∧ BlkK W' X #[.int .i64 fst, .int .i64 snd, .int .i64 len] 54) (.take 0 <| .take 1 <| .take 2 <| .take 3 <| .take 4 <| .take 5 <| .take 6 <| .take 7 <| .take 8 <| .take 9 <| .take 10 <| .one 11 <| .take 12 <| .one 13 <| .fin) (fun _ => trivial) (by kernel_rfl) (by kernel_rfl) ⟨HBD.out, HKD.out⟩ ?_
                    apply plan_take rfl rfl (by rfl)
                    case hy =>
                      rintro W' hb'
                      clear hb'
                      go_simp
                      first | done | with_reducible rfl
                    simp only [List.setIfInBounds_toArray, List.set_cons_zero, List.set_cons_succ]
                    apply plan_take rfl rfl (by rfl)
                    case hy =>
                      rintro W' hb'
                      clear hb'
                      go_simp
                      first | done | with_reducible rfl
                    simp only [List.setIfInBounds_toArray, List.set_cons_zero, List.set_cons_succ]
                    apply plan_take rfl rfl (by rfl)
                    case hy =>
                      rintro W' hb'
                      have e0 := hb'.2.cell (i := 0) (u := .int .i64 fst) rfl
                      have e1 := hb'.2.cell (i := 1) (u := .int .i64 snd) rfl
                      clear hb'
                      go_simp
                      first | done | with_reducible rfl
                    simp only [List.setIfInBounds_toArray, List.set_cons_zero, List.set_cons_succ]
                    apply plan_take rfl rfl (by rfl)
                    case hy =>
                      rintro W' hb'
                      clear hb'
                      go_simp
                      first | done | with_reducible rfl
                    simp only [List.setIfInBounds_toArray, List.set_cons_zero, List.set_cons_succ]
                    apply plan_take rfl rfl (by rfl)
                    case hy =>
                      rintro W' hb'
                      clear hb'
                      go_simp
                      first | done | with_reducible rfl
                    simp only [List.setIfInBounds_toArray, List.set_cons_zero, List.set_cons_succ]
                    apply plan_take rfl rfl (by rfl)
                    case hy =>
                      rintro W' hb'
                      clear hb'
                      go_simp
                      first | done | with_reducible rfl
                    simp only [List.setIfInBounds_toArray, List.set_cons_zero, List.set_cons_succ]
                    apply plan_take rfl rfl (by rfl)
                    case hy =>
                      rintro W' hb'
                      clear hb'
                      go_simp
                      first | done | with_reducible rfl
                    simp only [List.setIfInBounds_toArray, List.set_cons_zero, List.set_cons_succ]
                    apply plan_take rfl rfl (by rfl)
                    case hy =>
                      rintro W' hb'
                      have e0 := hb'.2.cell (i := 0) (u := .int .i64 fst) rfl
                      have e1 := hb'.2.cell (i := 1) (u := .int .i64 snd) rfl
                      clear hb'
                      go_simp
                      first | done | with_reducible rfl
                    simp only [List.setIfInBounds_toArray, List.set_cons_zero, List.set_cons_succ]
                    apply plan_take rfl rfl (by rfl)
                    case hy =>
                      rintro W' hb'
                      clear hb'
                      go_simp
                      first | done | with_reducible rfl
                    simp only [List.setIfInBounds_toArray, List.set_cons_zero, List.set_cons_succ]
                    apply plan_take rfl rfl (by rfl)
                    case hy =>
                      rintro W' hb'
                      clear hb'
                      go_simp
                      first | done | with_reducible rfl
                    simp only [List.setIfInBounds_toArray, List.set_cons_zero, List.set_cons_succ]
                    apply plan_take rfl rfl (by rfl)
                    case hy =>
                      rintro W' hb'
                      clear hb'
                      go_simp
                      first | done | with_reducible rfl
                    simp only [List.setIfInBounds_toArray, List.set_cons_zero, List.set_cons_succ]
                    refine plan_one rfl ?_
                    gi_wp2_with (fail)
                    refine ⟨⟨HB1.out, HK1.out⟩, ?_⟩
                    apply plan_take rfl rfl (by rfl)
                    case hy =>
                      rintro W' hb'
                      clear hb'
                      go_simp
                      first | done | with_reducible rfl
                    simp only [List.setIfInBounds_toArray, List.set_cons_zero, List.set_cons_succ]
                    refine plan_one rfl ?_
                    gi_wp2_with (fail)
                    refine ⟨⟨HB2.out, HK2.out⟩, ?_⟩
                    refine plan_fin ?_
                    gi_wp2_with (fail)
                    go_wp2_with (fail)
                    go_roundw
                    case rel => exact ⟨j + 1, by have := HJ.out; omega, by simp, HF1.out, HF2.out, HAL.out, HK2.out, HB2.out⟩
                    case measure => have := HJ.out; simp [intOf]; omega
            · have hje : (j : Int) = len := by omega
              have dj : decide ((j : Int) < len) = false := decide_eq_false hjl
              obtain ⟨e', he'⟩ : ∃ e' : Nat, fst + len = (e' : Int) := ⟨(fst + len).toNat, by omega⟩
              have w33 : IntKind.i64.wrap (fst + len) = (e' : Int) := by rw [← he']; exact IntWalk.i64_in _ (by omega)
              have HE2 := Lib.hid (HEE.out.trans (chkG_ok (blkE_none HGOOD.out (by have := HQE.out; simp only; omega) HNT.out fun t ht => HALL.out t (by simp only at ht; omega))))
              have HC1 := Lib.hid (show ArrB wk S1 (mkdB (ins ++ fstsB ⟨fst, snd, len⟩) n1) by have := HA1.out; rwa [fstsT_all (by exact hje.symm)] at this)
              have HC2 := Lib.hid (show ArrB wk S2 (mkdB (tk ++ sndsB ⟨fst, snd, len⟩) n2) by have := HA2.out; rwa [sndsT_all (by exact hje.symm)] at this)
              have he1 : e' ≤ n1 := by omega
              have HE3 := Lib.hid (show E = chkG n1 n2 (allI l) (ins ++ fstsB ⟨fst, snd, len⟩) (tk ++ sndsB ⟨fst, snd, len⟩) (e' : Int) (bl.drop (i + 1)) by rw [← he']; exact HE2.out)
              clear hjl hje he'
              go_wp2_with (fail)
              go_roundw
              case rel => exact ⟨i + 1, e', _, _, by omega, by simp, rfl, he1, HC1.out, HC2.out, HE3.out, HBK.out⟩
              case measure => simp [intOf]; omega
    · obtain rfl : n3 = i := by omega
      rw [List.drop_of_length_le (by rw [hl3.out]; exact Nat.le_refl _), chkG_nil] at hEE
      have HEE := Lib.hid (show E = ordE ins (-1) ((allI l).drop 0) from hEE)
      have HM1 := Lib.hid hm1
      have HBV := Lib.hid (bstep HB.out hb)
      have HRV := Lib.hid (HR.out.mono (Nat.le_refl _) hb)
      clear hEE hm1 hm2 hb
      go_wp2_with (fail)
      go_loopw [18, 19] (fun zv iv wr => ∃ (i : Nat) (z : Int), i ≤ n ∧ iv = .int .i64 i ∧ zv = .int .i64 z ∧ wj = wr ∧ E = ordE ins z ((allI l).drop i)) (fun _ iv _ => n - (intOf iv).toNat)
      case atStart => exact ⟨0, -1, Nat.zero_le _, rfl, rfl, rfl, HEE.out⟩
      case round =>
        obtain ⟨i, z, hi, rfl, rfl, rfl, hE5⟩ := hrel
        by_cases hin : i < n
        · obtain ⟨p, b, o, ab, ao, kr, hp, rfl, q1, q2, q3⟩ := rowAt HRV.out hin
          have hlt := HLT.out p (List.mem_of_getElem? hp)
          have hpi : (allI l)[i]? = some (pairI p) := by simp [allI, hp]
          rw [drop_cons hpi] at hE5
          have cs := HM1.out.cell (k := p.1) (by rw [mkdB_len]; exact hlt.1)
          rw [show tkB (mkdB ins n1) p.1 = decide ((p.1 : Int) ∈ ins) from mkdB_at hlt.1] at cs
          have i1 : (i : Int) < (n : Int) := by omega
          have f1 : (p.1 : Int) < (n1 : Int) := by omega
          by_cases hm : (p.1 : Int) ∈ ins
          · rw [decide_eq_true hm] at cs
            have HE2 := Lib.hid (hE5.trans (ordE_skip (p := pairI p) hm))
            clear hp hpi hE5 hm
            obtain ⟨f, hf⟩ : ∃ f, p.1 = f := ⟨_, rfl⟩
            rw [hf] at q2 cs f1
            clear hf q3 hlt
            go_wp2_with (fail)
            go_roundw
            case rel => exact ⟨i + 1, z, by omega, by simp, rfl, trivial, HE2.out⟩
            case measure => simp [intOf]; omega
          · rw [decide_eq_false hm] at cs
            by_cases hz : (p.2 : Int) < z
            · have HE2 := Lib.hid (hE5.trans (ordE_bad (p := pairI p) hm hz))
              obtain ⟨f, hf⟩ : ∃ f, p.1 = f := ⟨_, rfl⟩
              obtain ⟨g, hg⟩ : ∃ g, p.2 = g := ⟨_, rfl⟩
              rw [hf] at q2 cs f1
              rw [hg] at q3 hz
              have dz : decide ((g : Int) < z) = true := decide_eq_true hz
              clear hp hpi hE5 hm hf hg hz hlt
              go_wp2_with (fail)
              go_ret
              exact ⟨by rw [HE2.out]; rfl, HBV.out⟩
            · have HE2 := Lib.hid (hE5.trans (ordE_next (p := pairI p) hm hz))
              obtain ⟨f, hf⟩ : ∃ f, p.1 = f := ⟨_, rfl⟩
              obtain ⟨g, hg⟩ : ∃ g, p.2 = g := ⟨_, rfl⟩
              have HE3 := Lib.hid (show E = ordE ins (g : Int) ((allI l).drop (i + 1)) by rw [← hg]; exact HE2.out)
              rw [hf] at q2 cs f1
              rw [hg] at q3 hz
              have dz : decide ((g : Int) < z) = false := decide_eq_false hz
              clear hp hpi hE5 hm hf hg hz hlt HE2
              go_wp2_with (fail)
              go_roundw
              case rel => exact ⟨i + 1, (g : Int), by omega, by simp, rfl, trivial, HE3.out⟩
              case measure => simp [intOf]; omega
        · obtain rfl : n = i := by omega
          rw [List.drop_of_length_le (by simp [allI, HN.out]), ordE_nil] at hE5
          have HE2 := Lib.hid hE5
          clear hE5
          go_wp2_with (fail)
          go_ret
          exact ⟨by rw [HE2.out]; rfl, HBV.out⟩
theorem CheckR (xs ys : List Tok) (a1 : Option Addr) (n1 c1 : Nat) (a2 : Option Addr) (n2 c2 : Nat) (bl : List Blk) (a3 : Option Addr) (n3 c3 : Nat) (w : World) (h1 : Toks w a1 n1 xs) (h2 : Toks w a2 n2 ys) (h3 : Blks w a3 n3 bl)
    (hI : ∀ x ∈ bl, I64 x.fst ∧ I64 x.snd ∧ I64 x.len) :
    Calls Tryz.prog 37 #[.slice a1 n1 c1, .slice a2 n2 c2, .slice a3 n3 c3] w fun e w' => e = .returned (.int .i64 (chkE xs ys bl)) ∧ Below w.heap.size w w' := by
  by_cases hk : chkT xs ys = 0
  · have e1 : chkE xs ys bl = chkB n1 n2 (allI (prsE xs ys)) bl := by unfold chkE; rw [if_pos hk, h1.len, h2.len]
    rw [e1]
    exact chk_go37 xs ys a1 n1 c1 a2 n2 c2 bl a3 n3 c3 w h1 h2 h3 hI hk
  · have e1 : chkE xs ys bl = chkT xs ys := by unfold chkE; rw [if_neg hk]
    rw [e1]
    exact chk_stop37 xs ys a1 n1 c1 a2 n2 c2 _ w h1 h2 hk
end Go.Proofs.YtbahddjbncinbaaGreatDoor
