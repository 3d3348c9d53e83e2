/-
  Check of blocks, the program.
-/
import Derived.Test.YtbahddjbncinbaaGreatDoorGq
import Derived.Test.YtbahddjbncinbaaGreatDoorKp
import Derived.Test.YtbahddjbncinbaaGreatDoorPn
namespace Go.Ap
open Go Go.RowKit
/-- what Check of blocks answers -/
def chkE (xs ys : List Tok) (bl : List Blk) : Int := if chkT xs ys = 0 then chkB xs.length ys.length (allI (prsE xs ys)) bl else chkT xs ys
theorem drop_cons {α : Type} {l : List α} {i : Nat} {x : α} (h : l[i]? = some x) : l.drop i = x :: l.drop (i + 1) := by
  obtain ⟨h1, rfl⟩ := List.getElem?_eq_some_iff.1 h
  exact List.drop_eq_getElem_cons h1
theorem not_lt_nat {f : Nat} {e : Nat} (h : ¬ ((f : Int) < (e : Int))) : e ≤ f := by omega
end Go.Ap
namespace Go.Proofs.YtbahddjbncinbaaGreatDoor
open Go.RowKit Go.Ap Go.Shelf Go.Proofs

attribute [local go_sem] Oper.semAt_some bs_toList empty_toList bs_size bs_extract
set_option maxRecDepth 100000 in
theorem chk_stop36 (xs ys : List Tok) (a1 : Option Addr) (n1 c1 : Nat) (a2 : Option Addr) (n2 c2 : Nat) (v : Value) (w : World) (h1 : Toks w a1 n1 xs) (h2 : Toks w a2 n2 ys) (hv : EV w) (hk : chkT xs ys ≠ 0) :
    Calls Tryz.prog 36 #[.slice a1 n1 c1, .slice a2 n2 c2, v] w fun e w' => e = .returned (.int .i64 (chkT xs ys)) ∧ Below w.heap.size w w' := by
  have HC := Lib.hid (checkP xs ys a1 n1 c1 a2 n2 c2 w h1 h2 hv)
  have dn : (chkT xs ys != 0) = true := by simpa using hk
  obtain ⟨k, hk2⟩ : ∃ k, chkT xs ys = k := ⟨_, rfl⟩
  rw [hk2] at HC dn ⊢
  clear h1 h2 hv hk hk2
  go_enter Tryz.func36, Tryz.ntmps36
  go_wp2_with (fail)
  refine HC.out.mono ?_
  rintro e wa ⟨rfl, hba⟩
  have HBA := Lib.hid hba
  clear hba
  go_wp2_with (fail)
  go_ret
  exact ⟨rfl, HBA.out⟩
set_option maxRecDepth 100000 in
set_option maxHeartbeats 8000000 in
theorem chk_go36 (xs ys : List Tok) (a1 : Option Addr) (n1 c1 : Nat) (a2 : Option Addr) (n2 c2 : Nat) (bl : List Blk) (a3 : Option Addr) (n3 c3 : Nat) (w : World) (h1 : Toks w a1 n1 xs) (h2 : Toks w a2 n2 ys) (h3 : Blks w a3 n3 bl)
    (hI : ∀ x ∈ bl, I64 x.fst ∧ I64 x.snd ∧ I64 x.len) (hv : EV w) (hk : chkT xs ys = 0) :
    Calls Tryz.prog 36 #[.slice a1 n1 c1, .slice a2 n2 c2, .slice a3 n3 c3] w fun e w' => e = .returned (.int .i64 (chkB n1 n2 (allI (prsE xs ys)) bl)) ∧ Below w.heap.size w w' := by
  obtain ⟨g1, g2, g3, g4⟩ := chkT_zero hk
  have HC := Lib.hid (checkP xs ys a1 n1 c1 a2 n2 c2 w h1 h2 hv)
  rw [hk] at HC
  have HP := Lib.hid (fun W (hb : Below w.heap.size w W) => pairsP xs ys a1 n1 c1 a2 n2 c2 W (Toks.mono h1 (Nat.le_refl _) hb) (Toks.mono h2 (Nat.le_refl _) hb) (fun t ht => tok_flags (g3 t ht)) (fun t ht => tok_flags (g4 t ht)) (by have := h1.len; omega) (by have := h2.len; omega))
  have HE := Lib.hid (show prsE xs ys = pairsL (keysT xs) (keysT ys) by unfold prsE; rw [if_pos hk])
  have hpl := @prsE_len xs ys
  have hl1 := h1.len
  have hl2 := h2.len
  have HLT := Lib.hid (show ∀ p ∈ prsE xs ys, p.1 < n1 ∧ p.2 < n2 from fun p hp => by
    rw [HE.out] at hp
    have := pair_lt (show (p.1, p.2) ∈ _ from hp)
    rw [keysT_len, keysT_len] at this
    omega)
  have HASC := Lib.hid (show (prsE xs ys).Pairwise fun p q => p.1 < q.1 by rw [HE.out]; exact pairs_asc _ _)
  have HX := Lib.hid h3
  have HI := Lib.hid hI
  have hs3 := h3.small
  have hl3 := Lib.hid h3.len
  have hn1 : n1 ≤ 1024 := by omega
  have hn2 : n2 ≤ 1024 := by omega
  obtain ⟨l, hll⟩ : ∃ l, prsE xs ys = l := ⟨_, rfl⟩
  rw [hll] at HE hpl HLT HASC ⊢
  rw [← HE.out] at HP
  obtain ⟨E, hE⟩ : ∃ E, chkB n1 n2 (allI l) bl = E := ⟨_, rfl⟩
  have HE0 := Lib.hid (show E = chkG n1 n2 (allI l) [] [] 0 bl by rw [← hE]; rfl)
  rw [hE]
  have hmm := @run_makeMap Tryz.prog
  clear h1 h2 h3 hI hv hk g1 g2 g3 g4 hll hE hl1 hl2
  go_enter Tryz.func36, Tryz.ntmps36
  go_wp2_with (fail)
  refine HC.out.mono ?_
  rintro e wa ⟨rfl, hba⟩
  have HBA := Lib.hid hba
  clear hba
  go_wp2_with (fail)
  refine (HP.out _ HBA.out).mono ?_
  rintro e wb ⟨v, rfl, ho, hb⟩
  obtain ⟨ap, cp, rfl, hr⟩ := ho.rows (by rw [rowsP_len]; omega) rows_two
  rw [rowsP_len] at hr ⊢
  have HR := Lib.hid hr
  have HB := Lib.hid (bstep HBA.out hb)
  obtain ⟨n, hn⟩ : ∃ n, l.length = n := ⟨_, rfl⟩
  rw [hn] at HR hpl ⊢
  have HN := Lib.hid hn
  obtain ⟨B, hB⟩ : ∃ B, wb.heap.size = B := ⟨_, rfl⟩
  have HM0 := Lib.hid (show MapG tII (wb.alloc (.map #[] 0)) B 0 (secF (l.take 0)) from by
    have := MapG.made (T := tII) wb
    rw [hB] at this
    exact this.ext fun s => by simp [secF])
  have HB0 := Lib.hid (balloc wb (.map #[] 0))
  have HBB := Lib.hid hB
  clear ho hb hr hn hB
  go_wp2_with (fail)
  rw [HBB.out]
  go_loopw [36] (fun iv wr => ∃ i : Nat, i ≤ n ∧ iv = .int .i64 i ∧ MapG tII wr B i (secF (l.take i)) ∧ Below wb.heap.size wb wr) (fun iv _ => n - (intOf iv).toNat)
  case atStart => exact ⟨0, Nat.zero_le _, rfl, HM0.out, HB0.out⟩
  case round =>
    obtain ⟨wi, rfl⟩ : ∃ wi : World, wi = wr := ⟨_, rfl⟩
    obtain ⟨i, hi, rfl, hm, hb⟩ := hrel
    have HBI := Lib.hid hb
    have HM := Lib.hid hm
    clear hm
    by_cases hin : i < n
    · obtain ⟨p, b, o, ab, ao, kr, hp, rfl, q1, q2, q3⟩ := rowAt HR.out hin
      have hlt := HLT.out p (List.mem_of_getElem? hp)
      have q1 := cell_keep hb q1
      have HQ2 := Lib.hid q2
      have HQ3 := Lib.hid q3
      have hps : ∀ q ∈ l.take i, q.1 ≠ p.1 := fun q hq => by
        obtain ⟨k, hk⟩ := List.getElem?_of_mem hq
        rw [List.getElem?_take] at hk
        split at hk
        · rename_i hki
          obtain ⟨u1, rfl⟩ := List.getElem?_eq_some_iff.1 hk
          obtain ⟨u2, rfl⟩ := List.getElem?_eq_some_iff.1 hp
          have := List.pairwise_iff_getElem.1 HASC.out k i u1 u2 hki
          omega
        · cases hk
      have HS := Lib.hid (show ∀ k, secF (l.take (i + 1)) k = updF (secF (l.take i)) (p.1 : Int) (p.2 : Int) k from fun k => by rw [List.take_add_one, hp, Option.toList_some, secF_push hps]; rfl)
      obtain ⟨W2, hu2, hm2, hg2⟩ := MapG.store (T := tII) (s := (p.1 : Int)) (v := (p.2 : Int)) (HM.out.below (bdrewN wi 1)) (by unfold maxLen; omega) ⟨by omega, by omega⟩ ⟨by omega, by omega⟩
      replace hu2 : (Instr.mapUpdate 86 (.map (some B)) (.int .i64 (p.1 : Int)) (.int .i64 (p.2 : Int))).run Tryz.prog wi.drew = .ok () W2 := hu2
      have HM2 := Lib.hid (show MapG tII W2 B (i + 1) (secF (l.take (i + 1))) from hm2.ext fun s => (HS.out s).symm)
      have HB2 := Lib.hid (show Below wb.heap.size wb W2 from (bstep hb (bdrewN wi 1)).grown hg2 (by have := hb.size; exact this) fun r hr => by cases hr; rw [HBB.out]; omega)
      have i1 : (i : Int) < (n : Int) := by omega
      obtain ⟨f, hf⟩ : ∃ f, p.1 = f := ⟨_, rfl⟩
      obtain ⟨g, hg⟩ : ∃ g, p.2 = g := ⟨_, rfl⟩
      rw [hf] at HQ2
      rw [hg] at HQ3
      rw [hf, hg] at hu2
      clear hb q2 q3 hp hlt hps hm2 hg2 hf hg
      go_wp2_with (fail)
      refine (wpIn_wide (n := 20)).1 ?_
      refine wpIn_region_planN (fun W' => Below wb.heap.size wb W') (.take 0 <| .take 1 <| .take 2 <| .take 3 <| .take 4 <| .take 5 <| .take 6 <| .one 7 .fin) (fun _ => trivial) (by kernel_rfl) (by kernel_rfl) (show Below _ wb _ from bstep HBI.out (bdrewN _ 1)) ?_
      apply plan_take rfl rfl (by rfl)
      case hy =>
        rintro W' hb'
        clear hb'
        go_simp
        first | done | with_reducible rfl
      simp only [List.setIfInBounds_toArray, List.set_cons_zero, List.set_cons_succ]
      apply plan_take rfl rfl (by rfl)
      case hy =>
        rintro W' hb'
        clear hb'
        go_simp
        first | done | with_reducible rfl
      simp only [List.setIfInBounds_toArray, List.set_cons_zero, List.set_cons_succ]
      apply plan_take rfl rfl (by rfl)
      case hy =>
        rintro W' hb'
        clear hb'
        go_simp
        first | done | with_reducible rfl
      simp only [List.setIfInBounds_toArray, List.set_cons_zero, List.set_cons_succ]
      apply plan_take rfl rfl (by rfl)
      case hy =>
        rintro W' hb'
        have e2 := cell_keep hb' HQ2.out
        have e3 := cell_keep hb' HQ3.out
        clear hb'
        go_simp
        first | done | with_reducible rfl
      simp only [List.setIfInBounds_toArray, List.set_cons_zero, List.set_cons_succ]
      apply plan_take rfl rfl (by rfl)
      case hy =>
        rintro W' hb'
        clear hb'
        go_simp
        first | done | with_reducible rfl
      simp only [List.setIfInBounds_toArray, List.set_cons_zero, List.set_cons_succ]
      apply plan_take rfl rfl (by rfl)
      case hy =>
        rintro W' hb'
        clear hb'
        go_simp
        first | done | with_reducible rfl
      simp only [List.setIfInBounds_toArray, List.set_cons_zero, List.set_cons_succ]
      apply plan_take rfl rfl (by rfl)
      case hy =>
        rintro W' hb'
        have e2 := cell_keep hb' HQ2.out
        have e3 := cell_keep hb' HQ3.out
        clear hb'
        go_simp
        first | done | with_reducible rfl
      simp only [List.setIfInBounds_toArray, List.set_cons_zero, List.set_cons_succ]
      refine plan_one rfl ?_
      gi_wp2_with (fail)
      refine ⟨HB2.out, ?_⟩
      refine plan_fin ?_
      gi_wp2_with (fail)
      go_wp2_with (fail)
      go_roundw
      case rel => exact ⟨i + 1, by omega, by simp, HM2.out, HB2.out⟩
      case measure => simp [intOf]; omega
    · obtain rfl : n = i := by omega
      have HMS := Lib.hid (show MapG tII wi B n (secF l) by have := HM.out; rwa [List.take_of_length_le (by rw [HN.out]; exact Nat.le_refl _)] at this)
      obtain ⟨S, hS⟩ : ∃ S, wi.heap.size = S := ⟨_, rfl⟩
      have HI0 := Lib.hid (show MapG tIB ((wi.alloc (.map #[] 0)).alloc (.map #[] 0)) S 0 (insF []) from by
        have := (MapG.made (T := tIB) wi).below (balloc (wi.alloc (.map #[] 0)) (.map #[] 0))
        rw [hS] at this
        exact this.ext fun s => (insF_nil s).symm)
      have HT0 := Lib.hid (show MapG tIB ((wi.alloc (.map #[] 0)).alloc (.map #[] 0)) (S + 1) 0 (insF []) from by
        have := MapG.made (T := tIB) (wi.alloc (.map #[] 0))
        rw [World.size_alloc, hS] at this
        exact this.ext fun s => (insF_nil s).symm)
      have HB1 := Lib.hid (bstep (balloc wi (.map #[] 0)) (balloc (wi.alloc (.map #[] 0)) (.map #[] 0)))
      have HBW := Lib.hid (bstep HB.out hb)
      have HRW := Lib.hid (HR.out.mono (Nat.le_refl _) hb)
      have hSB := HMS.out.lt
      rw [hS] at hSB
      have HSS := Lib.hid hS
      clear hb hS
      go_wp2_with (fail)
      rw [HSS.out]
      clear hmm
      go_loopw [52, 14] (fun iv ev wr => ∃ (i e : Nat) (ins tk : List Int), i ≤ n3 ∧ iv = .int .i64 i ∧ ev = .int .i64 e ∧ e ≤ n1 ∧ MapG tIB wr S e (insF ins) ∧ MapG tIB wr (S + 1) e (insF tk) ∧ E = chkG n1 n2 (allI l) ins tk e (bl.drop i) ∧ Below wi.heap.size wi wr) (fun iv _ _ => n3 - (intOf iv).toNat)
      case atStart => exact ⟨0, 0, [], [], Nat.zero_le _, rfl, rfl, Nat.zero_le _, HI0.out, HT0.out, HE0.out, HB1.out⟩
      case round =>
        obtain ⟨wj, rfl⟩ : ∃ wj : World, wj = wr := ⟨_, rfl⟩
        obtain ⟨i, e, ins, tk, hi, rfl, rfl, he, hmi, hmt, hEE, hb⟩ := hrel
        by_cases hin : i < n3
        · obtain ⟨x, b, o, hx, rfl, x0, x1, x2⟩ := (blks_mono (blks_mono HX.out (Nat.le_refl _) HBW.out) (Nat.le_refl _) hb).at hin
          obtain ⟨hi0, hi1, hi2⟩ := HI.out x (List.mem_of_getElem? hx)
          obtain ⟨fst, snd, len⟩ := x
          simp only at x0 x1 x2 hi0 hi1 hi2
          rw [drop_cons hx] at hEE
          have hbx := balloc wj (.cells #[.int .i64 fst, .int .i64 snd, .int .i64 len] 54)
          obtain ⟨V, hV⟩ : ∃ V, wj.alloc (.cells #[.int .i64 fst, .int .i64 snd, .int .i64 len] 54) = V := ⟨_, rfl⟩
          obtain ⟨X, hX⟩ : ∃ X, wj.heap.size = X := ⟨_, rfl⟩
          have hk0 := BlkK.new wj #[.int .i64 fst, .int .i64 snd, .int .i64 len] 54
          have k0 := hk0.cell (i := 0) (u := .int .i64 fst) rfl
          have k1 := hk0.cell (i := 1) (u := .int .i64 snd) rfl
          have k2 := hk0.cell (i := 2) (u := .int .i64 len) rfl
          rw [hV] at hbx hk0
          rw [hX] at hk0
          have HK := Lib.hid hk0
          have HMI := Lib.hid (hmi.below hbx)
          have HMT := Lib.hid (hmt.below hbx)
          have hXS : S + 1 < X := by have := hmt.lt; omega
          have HV := Lib.hid (bstep hb hbx)
          have HBV := Lib.hid (bstep HBW.out HV.out)
          have HV2 := Lib.hid hV
          have HX2 := Lib.hid hX
          have HEE := Lib.hid hEE
          have HBAD := Lib.hid (fun h => hEE.trans (chkG_bad (blkE_two h) (by decide)))
          have i1 : (i : Int) < (n3 : Int) := by omega
          obtain ⟨i01, i02⟩ := hi0
          obtain ⟨i11, i12⟩ := hi1
          obtain ⟨i21, i22⟩ := hi2
          clear hk0 hmi hmt hEE hb hbx hx hV hX
          by_cases q0 : len < 1
          · have HE2 := Lib.hid (HBAD.out (badR_true (by simp only; omega)))
            have d0 : decide ((len : Int) < 1) = true := decide_eq_true q0
            clear q0
            go_wp2_with (fail)
            go_ret
            exact ⟨by rw [HE2.out]; rfl, by rw [HV2.out]; exact HBV.out⟩
          by_cases q1 : fst < 0
          · have HE2 := Lib.hid (HBAD.out (badR_true (by simp only; omega)))
            have d0 : decide ((len : Int) < 1) = false := decide_eq_false q0
            have d1 : decide ((fst : Int) < 0) = true := decide_eq_true q1
            clear q0 q1
            go_wp2_with (fail)
            go_ret
            exact ⟨by rw [HE2.out]; rfl, by rw [HV2.out]; exact HBV.out⟩
          by_cases q2 : snd < 0
          · have HE2 := Lib.hid (HBAD.out (badR_true (by simp only; omega)))
            have d0 : decide ((len : Int) < 1) = false := decide_eq_false q0
            have d1 : decide ((fst : Int) < 0) = false := decide_eq_false q1
            have d2 : decide ((snd : Int) < 0) = true := decide_eq_true q2
            clear q0 q1 q2
            go_wp2_with (fail)
            go_ret
            exact ⟨by rw [HE2.out]; rfl, by rw [HV2.out]; exact HBV.out⟩
          by_cases q3 : (n1 : Int) < fst
          · have HE2 := Lib.hid (HBAD.out (badR_true (by simp only; omega)))
            have d0 : decide ((len : Int) < 1) = false := decide_eq_false q0
            have d1 : decide ((fst : Int) < 0) = false := decide_eq_false q1
            have d2 : decide ((snd : Int) < 0) = false := decide_eq_false q2
            have d3 : decide ((n1 : Int) < fst) = true := decide_eq_true q3
            clear q0 q1 q2 q3
            go_wp2_with (fail)
            go_ret
            exact ⟨by rw [HE2.out]; rfl, by rw [HV2.out]; exact HBV.out⟩
          by_cases q4 : (n2 : Int) < snd
          · have HE2 := Lib.hid (HBAD.out (badR_true (by simp only; omega)))
            have d0 : decide ((len : Int) < 1) = false := decide_eq_false q0
            have d1 : decide ((fst : Int) < 0) = false := decide_eq_false q1
            have d2 : decide ((snd : Int) < 0) = false := decide_eq_false q2
            have d3 : decide ((n1 : Int) < fst) = false := decide_eq_false q3
            have d4 : decide ((n2 : Int) < snd) = true := decide_eq_true q4
            clear q0 q1 q2 q3 q4
            go_wp2_with (fail)
            go_ret
            exact ⟨by rw [HE2.out]; rfl, by rw [HV2.out]; exact HBV.out⟩
          by_cases q5 : (n1 : Int) - fst < len
          · have HE2 := Lib.hid (HBAD.out (badR_true (by simp only; omega)))
            have w5 : IntKind.i64.wrap ((n1 : Int) - fst) = (n1 : Int) - fst := IntWalk.i64_in _ (by omega)
            have d0 : decide ((len : Int) < 1) = false := decide_eq_false q0
            have d1 : decide ((fst : Int) < 0) = false := decide_eq_false q1
            have d2 : decide ((snd : Int) < 0) = false := decide_eq_false q2
            have d3 : decide ((n1 : Int) < fst) = false := decide_eq_false q3
            have d4 : decide ((n2 : Int) < snd) = false := decide_eq_false q4
            have d5 : decide ((n1 : Int) - fst < len) = true := decide_eq_true q5
            clear q0 q1 q2 q3 q4 q5
            go_wp2_with (fail)
            go_ret
            exact ⟨by rw [HE2.out]; rfl, by rw [HV2.out]; exact HBV.out⟩
          by_cases q6 : (n2 : Int) - snd < len
          · have HE2 := Lib.hid (HBAD.out (badR_true (by simp only; omega)))
            have w5 : IntKind.i64.wrap ((n1 : Int) - fst) = (n1 : Int) - fst := IntWalk.i64_in _ (by omega)
            have w6 : IntKind.i64.wrap ((n2 : Int) - snd) = (n2 : Int) - snd := IntWalk.i64_in _ (by omega)
            have d0 : decide ((len : Int) < 1) = false := decide_eq_false q0
            have d1 : decide ((fst : Int) < 0) = false := decide_eq_false q1
            have d2 : decide ((snd : Int) < 0) = false := decide_eq_false q2
            have d3 : decide ((n1 : Int) < fst) = false := decide_eq_false q3
            have d4 : decide ((n2 : Int) < snd) = false := decide_eq_false q4
            have d5 : decide ((n1 : Int) - fst < len) = false := decide_eq_false q5
            have d6 : decide ((n2 : Int) - snd < len) = true := decide_eq_true q6
            clear q0 q1 q2 q3 q4 q5 q6
            go_wp2_with (fail)
            go_ret
            exact ⟨by rw [HE2.out]; rfl, by rw [HV2.out]; exact HBV.out⟩
          have HGOOD := Lib.hid ((badR_false (na := n1) (nb := n2) (x := ⟨fst, snd, len⟩)).2 ⟨Int.not_lt.1 q0, Int.not_lt.1 q1, Int.not_lt.1 q2, Int.not_lt.1 q3, Int.not_lt.1 q4, Int.not_lt.1 q5, Int.not_lt.1 q6⟩)
          have w5 : IntKind.i64.wrap ((n1 : Int) - fst) = (n1 : Int) - fst := IntWalk.i64_in _ (by omega)
          have w6 : IntKind.i64.wrap ((n2 : Int) - snd) = (n2 : Int) - snd := IntWalk.i64_in _ (by omega)
          have d0 : decide ((len : Int) < 1) = false := decide_eq_false q0
          have d1 : decide ((fst : Int) < 0) = false := decide_eq_false q1
          have d2 : decide ((snd : Int) < 0) = false := decide_eq_false q2
          have d3 : decide ((n1 : Int) < fst) = false := decide_eq_false q3
          have d4 : decide ((n2 : Int) < snd) = false := decide_eq_false q4
          have d5 : decide ((n1 : Int) - fst < len) = false := decide_eq_false q5
          have d6 : decide ((n2 : Int) - snd < len) = false := decide_eq_false q6
          clear q0 q1 q2 q3 q4 q5 q6
          by_cases qe : fst < (e : Int)
          · have HE2 := Lib.hid (HEE.out.trans (chkG_bad (blkE_ten HGOOD.out qe) (by decide)))
            have de : decide ((fst : Int) < (e : Int)) = true := decide_eq_true qe
            clear qe
            go_wp2_with (fail)
            go_ret
            exact ⟨by rw [HE2.out]; rfl, by rw [HV2.out]; exact HBV.out⟩
          have HQE := Lib.hid qe
          have de : decide ((fst : Int) < (e : Int)) = false := decide_eq_false qe
          have z0 := badR_false.1 HGOOD.out
          simp only at z0
          obtain ⟨z0, z1, z2, z3, z4, z5, z6⟩ := z0
          clear qe
          go_wp2_with (fail)
          rw [HV2.out, HX2.out]
          clear k0 k1 k2 d0 d1 d2 d3 d4 d5 d6 de w5 w6
          have k0 := HK.out.cell (i := 0) (u := .int .i64 fst) rfl
          have k1 := HK.out.cell (i := 1) (u := .int .i64 snd) rfl
          have k2 := HK.out.cell (i := 2) (u := .int .i64 len) rfl
          go_loopw [109] (fun jv wr => ∃ j : Nat, (j : Int) ≤ len ∧ jv = .int .i64 j ∧ V = wr ∧ ∀ t : Nat, t < j → snd + (t : Int) ∉ tk) (fun jv _ => len.toNat - (intOf jv).toNat)
          case atStart => exact ⟨0, by omega, rfl, rfl, fun t ht => by omega⟩
          case round =>
            obtain ⟨j, hj, rfl, rfl, hno⟩ := hrel
            have HNO := Lib.hid hno
            clear hno
            by_cases hjl : (j : Int) < len
            · have hlk := HMT.out.look (T := tIB) (s := snd + (j : Int)) ⟨by omega, by omega⟩
              replace hlk : (Instr.lookup 87 (.map (some (S + 1))) (.int .i64 (snd + (j : Int))) false).run Tryz.prog V = .ok (.bool ((insF tk (snd + (j : Int))).getD false)) V := hlk
              rw [insF_get] at hlk
              have ws : IntKind.i64.wrap (snd + (j : Int)) = snd + (j : Int) := IntWalk.i64_in _ (by omega)
              have dj : decide ((j : Int) < len) = true := decide_eq_true hjl
              by_cases hm : snd + (j : Int) ∈ tk
              · rw [decide_eq_true hm] at hlk
                have HE2 := Lib.hid (HEE.out.trans (chkG_bad (blkE_seven HGOOD.out (by have := HQE.out; simp only; omega) j hjl hm) (by decide)))
                clear hm hjl hj
                go_wp2_with (fail)
                go_ret
                exact ⟨by rw [HE2.out]; rfl, HBV.out⟩
              · rw [decide_eq_false hm] at hlk
                have HM := Lib.hid hm
                have HJ := Lib.hid hjl
                clear hm hjl
                go_wp2_with (fail)
                go_roundw
                case rel => exact ⟨j + 1, by have := HJ.out; omega, by simp, trivial, fun t ht => by
                  rcases Nat.lt_or_ge t j with h | h
                  · exact HNO.out t h
                  · obtain rfl : t = j := by omega
                    exact HM.out⟩
                case measure => have := HJ.out; simp [intOf]; omega
            · have HJE := Lib.hid (show (j : Int) = len by omega)
              have dj : decide ((j : Int) < len) = false := decide_eq_false hjl
              have HNT := Lib.hid (show ∀ t : Nat, (t : Int) < len → snd + (t : Int) ∉ tk from fun t ht => HNO.out t (by have := HJE.out; omega))
              clear hjl
              go_wp2_with (fail)
              clear dj HJE HNO
              go_loopw [121] (fun jv wr => ∃ j : Nat, (j : Int) ≤ len ∧ jv = .int .i64 j ∧ MapG tIB wr S (e + j) (insF (ins ++ fstsT ⟨fst, snd, len⟩ j)) ∧ MapG tIB wr (S + 1) (e + j) (insF (tk ++ sndsT ⟨fst, snd, len⟩ j)) ∧ (∀ t : Nat, t < j → (fst + (t : Int), snd + (t : Int)) ∈ allI l) ∧ BlkK wr X #[.int .i64 fst, .int .i64 snd, .int .i64 len] 54 ∧ Below wi.heap.size wi wr) (fun jv _ => len.toNat - (intOf jv).toNat)
              case atStart => exact ⟨0, by omega, rfl, by rw [fstsT_zero, List.append_nil]; exact HMI.out, by rw [sndsT_zero, List.append_nil]; exact HMT.out, fun t ht => by omega, HK.out, HV.out⟩
              case round =>
                obtain ⟨wk, rfl⟩ : ∃ wk : World, wk = wr := ⟨_, rfl⟩
                obtain ⟨j, hj, rfl, hmi, hmt, hall, hbk, hb⟩ := hrel
                have HBK := Lib.hid hb
                have HMI4 := Lib.hid hmi
                have HMT4 := Lib.hid hmt
                have HALL := Lib.hid hall
                have HK4 := Lib.hid hbk
                clear k0 k1 k2 hmi hmt hall hbk
                have k0 := HK4.out.cell (i := 0) (u := .int .i64 fst) rfl
                have k1 := HK4.out.cell (i := 1) (u := .int .i64 snd) rfl
                have k2 := HK4.out.cell (i := 2) (u := .int .i64 len) rfl
                by_cases hjl : (j : Int) < len
                · have hlk := (HMS.out.below hb).look_ok (T := tII) (s := fst + (j : Int)) ⟨by omega, by omega⟩
                  replace hlk : (Instr.lookup 86 (.map (some B)) (.int .i64 (fst + (j : Int))) true).run Tryz.prog wk = .ok (.tuple #[.int .i64 ((secF l (fst + (j : Int))).getD 0), .bool (secF l (fst + (j : Int))).isSome]) wk := hlk
                  have hiff := fun v => @secF_iff l HASC.out (fst + (j : Int)) v
                  have wf : IntKind.i64.wrap (fst + (j : Int)) = fst + (j : Int) := IntWalk.i64_in _ (by omega)
                  have ws : IntKind.i64.wrap (snd + (j : Int)) = snd + (j : Int) := IntWalk.i64_in _ (by omega)
                  have dj : decide ((j : Int) < len) = true := decide_eq_true hjl
                  have HJ := Lib.hid hjl
                  clear hb hjl
                  cases hsec : secF l (fst + (j : Int)) with
                  | none =>
                    rw [hsec] at hlk hiff
                    simp only [Option.getD_none, Option.isSome_none] at hlk
                    have hnot : (fst + (j : Int), snd + (j : Int)) ∉ allI l := fun h => by have := (hiff _).2 h; cases this
                    have HE2 := Lib.hid (HEE.out.trans (chkG_bad (blkE_nine HGOOD.out (by have := HQE.out; simp only; omega) HNT.out j HJ.out hnot) (by decide)))
                    clear hiff hnot hsec
                    go_wp2_with (fail)
                    go_ret
                    exact ⟨by rw [HE2.out]; rfl, bstep HBW.out HBK.out⟩
                  | some v =>
                    rw [hsec] at hlk hiff
                    simp only [Option.getD_some, Option.isSome_some] at hlk
                    by_cases hv : v = snd + (j : Int)
                    · have dv : (v != snd + (j : Int)) = false := by simp [hv]
                      have dv' : (v == snd + (j : Int)) = true := by simp [hv]
                      have HIN := Lib.hid (show (fst + (j : Int), snd + (j : Int)) ∈ allI l from (hiff _).1 (by rw [hv]))
                      clear hiff hsec hv
                      have hSz : S + 1 < wk.heap.size := HMT4.out.lt
                      obtain ⟨W1, hu1, hm1, hg1⟩ := MapG.store (T := tIB) (s := fst + (j : Int)) (v := true) (HMI4.out.below (bdrewN wk 1)) (by unfold maxLen; omega) ⟨by omega, by omega⟩ trivial
                      replace hu1 : (Instr.mapUpdate 87 (.map (some S)) (.int .i64 (fst + (j : Int))) (.bool true)).run Tryz.prog wk.drew = .ok () W1 := hu1
                      obtain ⟨W2, hu2, hm2, hg2⟩ := MapG.store (T := tIB) (s := snd + (j : Int)) (v := true) ((HMT4.out.below (bdrewN wk 1)).kept hg1 (by simp)) (by unfold maxLen; omega) ⟨by omega, by omega⟩ trivial
                      replace hu2 : (Instr.mapUpdate 87 (.map (some (S + 1))) (.int .i64 (snd + (j : Int))) (.bool true)).run Tryz.prog W1 = .ok () W2 := hu2
                      have hf1 : ∀ s, updF (insF (ins ++ fstsT ⟨fst, snd, len⟩ j)) (fst + (j : Int)) true s = insF (ins ++ fstsT ⟨fst, snd, len⟩ (j + 1)) s := fun s => by rw [fstsT_succ, ← List.append_assoc, insF_push]; rfl
                      have hf2 : ∀ s, updF (insF (tk ++ sndsT ⟨fst, snd, len⟩ j)) (snd + (j : Int)) true s = insF (tk ++ sndsT ⟨fst, snd, len⟩ (j + 1)) s := fun s => by rw [sndsT_succ, ← List.append_assoc, insF_push]; rfl
                      have hbd := bstep HBK.out (bdrewN wk 1)
                      have HSW := Lib.hid HSS.out
                      have HB1 := Lib.hid (show Below wi.heap.size wi W1 from hbd.grown hg1 hbd.size fun r hr => by cases hr; rw [HSS.out]; omega)
                      have HB2 := Lib.hid (show Below wi.heap.size wi W2 from HB1.out.grown hg2 HB1.out.size fun r hr => by cases hr; rw [HSS.out]; omega)
                      have hkd : BlkK wk.drew X #[.int .i64 fst, .int .i64 snd, .int .i64 len] 54 := HK4.out.below (bdrewN wk 1)
                      have HKD := Lib.hid hkd
                      have HK1 := Lib.hid (hkd.keptE hg1 (by simp; omega))
                      have HK2 := Lib.hid (HK1.out.keptE hg2 (by simp; omega))
                      have HA1 := Lib.hid (show MapG tIB W2 S (e + (j + 1)) (insF (ins ++ fstsT ⟨fst, snd, len⟩ (j + 1))) from (hm1.kept hg2 (by simp)).ext hf1)
                      have HA2 := Lib.hid (show MapG tIB W2 (S + 1) (e + (j + 1)) (insF (tk ++ sndsT ⟨fst, snd, len⟩ (j + 1))) from hm2.ext hf2)
                      have HAL := Lib.hid (show ∀ t : Nat, t < j + 1 → (fst + (t : Int), snd + (t : Int)) ∈ allI l from fun t ht => by
                        rcases Nat.lt_or_ge t j with h | h
                        · exact HALL.out t h
                        · obtain rfl : t = j := by omega
                          exact HIN.out)
                      clear hm1 hm2 hg1 hg2 hf1 hf2 hbd hkd
                      go_wp2_with (fail)
                      refine (wpIn_wide (n := 20)).1 ?_
                      refine wpIn_region_planN (fun W' => Below wi.heap.size wi W' ∧ BlkK W' X #[.int .i64 fst, .int .i64 snd, .int .i64 len] 54) (.take 0 <| .take 1 <| .take 2 <| .take 3 <| .take 4 <| .take 5 <| .take 6 <| .take 7 <| .take 8 <| .take 9 <| .one 10 <| .one 11 .fin) (fun _ => trivial) (by kernel_rfl) (by kernel_rfl) ⟨bstep HBK.out (bdrewN _ 1), HKD.out⟩ ?_
                      apply plan_take rfl rfl (by rfl)
                      case hy =>
                        rintro W' hb'
                        clear hb'
                        go_simp
                        first | done | with_reducible rfl
                      simp only [List.setIfInBounds_toArray, List.set_cons_zero, List.set_cons_succ]
                      apply plan_take rfl rfl (by rfl)
                      case hy =>
                        rintro W' hb'
                        clear hb'
                        go_simp
                        first | done | with_reducible rfl
                      simp only [List.setIfInBounds_toArray, List.set_cons_zero, List.set_cons_succ]
                      apply plan_take rfl rfl (by rfl)
                      case hy =>
                        rintro W' hb'
                        have e0 := hb'.2.cell (i := 0) (u := .int .i64 fst) rfl
                        have e1 := hb'.2.cell (i := 1) (u := .int .i64 snd) rfl
                        clear hb'
                        go_simp
                        first | done | with_reducible rfl
                      simp only [List.setIfInBounds_toArray, List.set_cons_zero, List.set_cons_succ]
                      apply plan_take rfl rfl (by rfl)
                      case hy =>
                        rintro W' hb'
                        clear hb'
                        go_simp
                        first | done | with_reducible rfl
                      simp only [List.setIfInBounds_toArray, List.set_cons_zero, List.set_cons_succ]
                      apply plan_take rfl rfl (by rfl)
                      case hy =>
                        rintro W' hb'
                        clear hb'
                        go_simp
                        first | done | with_reducible rfl
                      simp only [List.setIfInBounds_toArray, List.set_cons_zero, List.set_cons_succ]
                      apply plan_take rfl rfl (by rfl)
                      case hy =>
                        rintro W' hb'
                        clear hb'
                        go_simp
                        first | done | with_reducible rfl
                      simp only [List.setIfInBounds_toArray, List.set_cons_zero, List.set_cons_succ]
                      apply plan_take rfl rfl (by rfl)
                      case hy =>
                        rintro W' hb'
                        clear hb'
                        go_simp
                        first | done | with_reducible rfl
                      simp only [List.setIfInBounds_toArray, List.set_cons_zero, List.set_cons_succ]
                      apply plan_take rfl rfl (by rfl)
                      case hy =>
                        rintro W' hb'
                        have e0 := hb'.2.cell (i := 0) (u := .int .i64 fst) rfl
                        have e1 := hb'.2.cell (i := 1) (u := .int .i64 snd) rfl
                        clear hb'
                        go_simp
                        first | done | with_reducible rfl
                      simp only [List.setIfInBounds_toArray, List.set_cons_zero, List.set_cons_succ]
                      apply plan_take rfl rfl (by rfl)
                      case hy =>
                        rintro W' hb'
                        clear hb'
                        go_simp
                        first | done | with_reducible rfl
                      simp only [List.setIfInBounds_toArray, List.set_cons_zero, List.set_cons_succ]
                      apply plan_take rfl rfl (by rfl)
                      case hy =>
                        rintro W' hb'
                        clear hb'
                        go_simp
                        first | done | with_reducible rfl
                      simp only [List.setIfInBounds_toArray, List.set_cons_zero, List.set_cons_succ]
                      refine plan_one rfl ?_
                      gi_wp2_with (fail)
                      refine ⟨⟨HB1.out, HK1.out⟩, ?_⟩
                      refine plan_one rfl ?_
                      gi_wp2_with (fail)
                      refine ⟨⟨HB2.out, HK2.out⟩, ?_⟩
                      refine plan_fin ?_
                      gi_wp2_with (fail)
                      go_wp2_with (fail)
                      go_roundw
                      case rel => exact ⟨j + 1, by have := HJ.out; omega, by simp, HA1.out, HA2.out, HAL.out, HK2.out, HB2.out⟩
                      case measure => have := HJ.out; simp [intOf]; omega
                    · have dv : (v != snd + (j : Int)) = true := by simp [hv]
                      have dv' : (v == snd + (j : Int)) = false := by simp [hv]
                      have hnot : (fst + (j : Int), snd + (j : Int)) ∉ allI l := fun h => by have := (hiff _).2 h; cases this; exact hv rfl
                      have HE2 := Lib.hid (HEE.out.trans (chkG_bad (blkE_nine HGOOD.out (by have := HQE.out; simp only; omega) HNT.out j HJ.out hnot) (by decide)))
                      clear hiff hnot hsec hv
                      go_wp2_with (fail)
                      go_ret
                      exact ⟨by rw [HE2.out]; rfl, bstep HBW.out HBK.out⟩
                · have hje : (j : Int) = len := by omega
                  have dj : decide ((j : Int) < len) = false := decide_eq_false hjl
                  obtain ⟨e', he'⟩ : ∃ e' : Nat, fst + len = (e' : Int) := ⟨(fst + len).toNat, by omega⟩
                  have w33 : IntKind.i64.wrap (fst + len) = (e' : Int) := by rw [← he']; exact IntWalk.i64_in _ (by omega)
                  have HE2 := Lib.hid (HEE.out.trans (chkG_ok (blkE_none HGOOD.out (by have := HQE.out; simp only; omega) HNT.out fun t ht => HALL.out t (by simp only at ht; omega))))
                  have hqe := not_lt_nat (f := fst.toNat) (e := e) (by have := HQE.out; omega)
                  have HA1 := Lib.hid (show MapG tIB wk S e' (insF (ins ++ fstsB ⟨fst, snd, len⟩)) by have := HMI4.out.mono (m := e') (by omega); rwa [fstsT_all (by exact hje.symm)] at this)
                  have HA2 := Lib.hid (show MapG tIB wk (S + 1) e' (insF (tk ++ sndsB ⟨fst, snd, len⟩)) by have := HMT4.out.mono (m := e') (by omega); rwa [sndsT_all (by exact hje.symm)] at this)
                  have he1 : e' ≤ n1 := by omega
                  have HE3 := Lib.hid (show E = chkG n1 n2 (allI l) (ins ++ fstsB ⟨fst, snd, len⟩) (tk ++ sndsB ⟨fst, snd, len⟩) (e' : Int) (bl.drop (i + 1)) by rw [← he']; exact HE2.out)
                  clear hb hjl hje he' hqe
                  go_wp2_with (fail)
                  go_roundw
                  case rel => exact ⟨i + 1, e', _, _, by omega, by simp, rfl, he1, HA1.out, HA2.out, HE3.out, HBK.out⟩
                  case measure => simp [intOf]; omega
        · obtain rfl : n3 = i := by omega
          rw [List.drop_of_length_le (by rw [hl3.out]; exact Nat.le_refl _), chkG_nil] at hEE
          have HEE := Lib.hid (show E = ordE ins (-1) ((allI l).drop 0) from hEE)
          have HMI := Lib.hid hmi
          have HBV := Lib.hid (bstep HBW.out hb)
          have HRV := Lib.hid (HRW.out.mono (Nat.le_refl _) hb)
          clear hEE hmi hmt hb
          go_wp2_with (fail)
          go_loopw [162, 21] (fun iv zv wr => ∃ (i : Nat) (z : Int), i ≤ n ∧ iv = .int .i64 i ∧ zv = .int .i64 z ∧ wj = wr ∧ E = ordE ins z ((allI l).drop i)) (fun iv _ _ => n - (intOf iv).toNat)
          case atStart => exact ⟨0, -1, Nat.zero_le _, rfl, rfl, rfl, HEE.out⟩
          case round =>
            obtain ⟨i, z, hi, rfl, rfl, rfl, hE5⟩ := hrel
            by_cases hin : i < n
            · obtain ⟨p, b, o, ab, ao, kr, hp, rfl, q1, q2, q3⟩ := rowAt HRV.out hin
              have hlt := HLT.out p (List.mem_of_getElem? hp)
              have hpi : (allI l)[i]? = some (pairI p) := by simp [allI, hp]
              rw [drop_cons hpi] at hE5
              have hlk := HMI.out.look (T := tIB) (s := (p.1 : Int)) ⟨by omega, by omega⟩
              replace hlk : (Instr.lookup 87 (.map (some S)) (.int .i64 (p.1 : Int)) false).run Tryz.prog wj = .ok (.bool ((insF ins (p.1 : Int)).getD false)) wj := hlk
              rw [insF_get] at hlk
              have i1 : (i : Int) < (n : Int) := by omega
              by_cases hm : (p.1 : Int) ∈ ins
              · rw [decide_eq_true hm] at hlk
                have HE2 := Lib.hid (hE5.trans (ordE_skip (p := pairI p) hm))
                clear hp hpi hE5 hm
                obtain ⟨f, hf⟩ : ∃ f, p.1 = f := ⟨_, rfl⟩
                rw [hf] at q2 hlk
                clear hf q3 hlt
                go_wp2_with (fail)
                go_roundw
                case rel => exact ⟨i + 1, z, by omega, by simp, rfl, trivial, HE2.out⟩
                case measure => simp [intOf]; omega
              · rw [decide_eq_false hm] at hlk
                by_cases hz : (p.2 : Int) < z
                · have HE2 := Lib.hid (hE5.trans (ordE_bad (p := pairI p) hm hz))
                  obtain ⟨f, hf⟩ : ∃ f, p.1 = f := ⟨_, rfl⟩
                  obtain ⟨g, hg⟩ : ∃ g, p.2 = g := ⟨_, rfl⟩
                  rw [hf] at q2 hlk
                  rw [hg] at q3 hz
                  have dz : decide ((g : Int) < z) = true := decide_eq_true hz
                  clear hp hpi hE5 hm hf hg hz hlt
                  go_wp2_with (fail)
                  go_ret
                  exact ⟨by rw [HE2.out]; rfl, HBV.out⟩
                · have HE2 := Lib.hid (hE5.trans (ordE_next (p := pairI p) hm hz))
                  obtain ⟨f, hf⟩ : ∃ f, p.1 = f := ⟨_, rfl⟩
                  obtain ⟨g, hg⟩ : ∃ g, p.2 = g := ⟨_, rfl⟩
                  have HE3 := Lib.hid (show E = ordE ins (g : Int) ((allI l).drop (i + 1)) by rw [← hg]; exact HE2.out)
                  rw [hf] at q2 hlk
                  rw [hg] at q3 hz
                  have dz : decide ((g : Int) < z) = false := decide_eq_false hz
                  clear hp hpi hE5 hm hf hg hz hlt HE2
                  go_wp2_with (fail)
                  go_roundw
                  case rel => exact ⟨i + 1, (g : Int), by omega, by simp, rfl, trivial, HE3.out⟩
                  case measure => simp [intOf]; omega
            · obtain rfl : n = i := by omega
              rw [List.drop_of_length_le (by simp [allI, HN.out]), ordE_nil] at hE5
              have HE2 := Lib.hid hE5
              clear hE5
              go_wp2_with (fail)
              go_ret
              exact ⟨by rw [HE2.out]; rfl, HBV.out⟩
theorem CheckP (xs ys : List Tok) (a1 : Option Addr) (n1 c1 : Nat) (a2 : Option Addr) (n2 c2 : Nat) (bl : List Blk) (a3 : Option Addr) (n3 c3 : Nat) (w : World) (h1 : Toks w a1 n1 xs) (h2 : Toks w a2 n2 ys) (h3 : Blks w a3 n3 bl)
    (hI : ∀ x ∈ bl, I64 x.fst ∧ I64 x.snd ∧ I64 x.len) (hv : EV w) :
    Calls Tryz.prog 36 #[.slice a1 n1 c1, .slice a2 n2 c2, .slice a3 n3 c3] w fun e w' => e = .returned (.int .i64 (chkE xs ys bl)) ∧ Below w.heap.size w w' := by
  by_cases hk : chkT xs ys = 0
  · have e1 : chkE xs ys bl = chkB n1 n2 (allI (prsE xs ys)) bl := by unfold chkE; rw [if_pos hk, h1.len, h2.len]
    rw [e1]
    exact chk_go36 xs ys a1 n1 c1 a2 n2 c2 bl a3 n3 c3 w h1 h2 h3 hI hv hk
  · have e1 : chkE xs ys bl = chkT xs ys := by unfold chkE; rw [if_neg hk]
    rw [e1]
    exact chk_stop36 xs ys a1 n1 c1 a2 n2 c2 _ w h1 h2 hv hk
end Go.Proofs.YtbahddjbncinbaaGreatDoor
