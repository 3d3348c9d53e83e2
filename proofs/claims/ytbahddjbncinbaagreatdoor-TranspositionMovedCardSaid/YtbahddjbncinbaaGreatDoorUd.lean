/-
  Undo of both sides.
-/
import Derived.Test.YtbahddjbncinbaaGreatDoorSd
namespace Go.Ap
open Go Go.RowKit
/-- what Undo answers -/
def undE (xs ys : List Tok) : List Nat := if chkT xs ys = 0 then undoF (ksL (prsE xs ys)) ys.length else []
def GivesI (w : World) (L : List Int) (er : Int) (e : Ending) (w' : World) : Prop := ∃ v, e = .returned (.tuple #[v, .int .i64 er]) ∧ OwnI 3 w' w.heap.size v L ∧ Below w.heap.size w w'
theorem ksL_len (l : List (Nat × Nat)) : (ksL l).length = l.length := by simp [ksL]
theorem ksL_at {l : List (Nat × Nat)} {i : Nat} {p : Nat × Nat} (h : l[i]? = some p) : (ksL l)[i]? = some p.2 := by simp [ksL, h]
theorem secs_ks (l : List (Nat × Nat)) : secsL l = (ksL l).map fun k => ((k : Nat) : Int) := by simp [secsL, ksL]
end Go.Ap
namespace Go.Proofs.YtbahddjbncinbaaGreatDoor
open Go.RowKit Go.Ap Go.Shelf Go.Proofs

attribute [local go_sem] Oper.semAt_some bs_toList empty_toList bs_size bs_extract
set_option maxRecDepth 100000 in
set_option maxHeartbeats 8000000 in
theorem UndoR (xs ys : List Tok) (a1 : Option Addr) (n1 c1 : Nat) (a2 : Option Addr) (n2 c2 : Nat) (w : World) (h1 : Toks w a1 n1 xs) (h2 : Toks w a2 n2 ys) :
    Calls Tryz.prog 19 #[.slice a1 n1 c1, .slice a2 n2 c2] w (GivesI w (castL (undE xs ys)) (chkT xs ys)) := by
  obtain ⟨i9, hi9, hy0, hy1, hy2⟩ := info_parts infoInt
  have HC := Lib.hid (checkR xs ys a1 n1 c1 a2 n2 c2 w h1 h2)
  by_cases hk : chkT xs ys = 0
  · obtain ⟨g1, g2, g3, g4⟩ := chkT_zero hk
    have HP := Lib.hid (fun W (hb : Below w.heap.size w W) => pairsR xs ys a1 n1 c1 a2 n2 c2 W (Toks.mono h1 (Nat.le_refl _) hb) (Toks.mono h2 (Nat.le_refl _) hb) (fun t ht => (tok_flags (g3 t ht)).1) (fun t ht => (tok_flags (g4 t ht)).1) (by have := h1.len; omega) (by have := h2.len; omega))
    have HE := Lib.hid (show prsE xs ys = pairsL (keysT xs) (keysT ys) by unfold prsE; rw [if_pos hk])
    have hpl := @prsE_len xs ys
    have hnd : (ksL (prsE xs ys)).Nodup := by rw [HE.out]; exact ks_nodup _ _
    have hlt : ∀ k ∈ ksL (prsE xs ys), k < ys.length := by rw [HE.out]; intro k hk; have := ks_lt hk; rwa [keysT_len] at this
    have hyl : ys.length = n2 := h2.len
    have HCE := Lib.hid (show undE xs ys = undoF (ksL (prsE xs ys)) ys.length by unfold undE; rw [if_pos hk])
    rw [hyl] at hlt HCE
    have hn2 : n2 ≤ 1024 := by omega
    obtain ⟨l, hll⟩ : ∃ l, prsE xs ys = l := ⟨_, rfl⟩
    rw [hll] at HE hpl HCE hnd hlt
    rw [← HE.out] at HP
    rw [hk] at HC ⊢
    rw [HCE.out]
    have HND := Lib.hid hnd
    have HLT := Lib.hid hlt
    clear h1 h2 hk g1 g2 g3 g4 hll hnd hlt hyl
    unfold GivesI
    go_enter Tryz.func19, Tryz.ntmps19
    go_wp2_with (fail)
    refine HC.out.mono ?_
    rintro e wa ⟨rfl, hba⟩
    have HBA := Lib.hid hba
    clear hba
    go_wp2_with (fail)
    refine (HP.out _ HBA.out).mono ?_
    rintro e wb ⟨v, rfl, ho, hb⟩
    obtain ⟨ap, kp, rfl, hr⟩ := ho.rows (by rw [rowsP_len]; omega) rows_two
    rw [rowsP_len] at hr ⊢
    have HB := Lib.hid (bstep HBA.out hb)
    have HR := Lib.hid hr
    obtain ⟨n, hn⟩ : ∃ n, l.length = n := ⟨_, rfl⟩
    rw [hn] at HR hpl ⊢
    have HN := Lib.hid hn
    obtain ⟨S, hS⟩ : ∃ S, wb.heap.size = S := ⟨_, rfl⟩
    have HSS := Lib.hid hS
    have hmk := make_bools n2 (by omega) wb
    have HA0 := Lib.hid (show ArrB (wb.alloc (.cells (Array.replicate n2 (.bool false)) 4)) S (hasB (ksL l) n2 0) by rw [hasB_zero, ArrB, show ((List.replicate n2 false).map Value.bool).toArray = Array.replicate n2 (.bool false) by simp]; exact heap_fresh hS.symm)
    have HB3 := Lib.hid (balloc wb (.cells (Array.replicate n2 (.bool false)) 4))
    clear ho hb hr hn hS
    go_wp2_with (fail)
    rw [HSS.out]
    clear hmk
    go_loopw [9] (fun jv wr => ∃ j : Nat, j ≤ n ∧ jv = .int .i64 j ∧ ArrB wr S (hasB (ksL l) n2 j) ∧ Below wb.heap.size wb wr) (fun jv _ => n - (intOf jv).toNat)
    case atStart => exact ⟨0, Nat.zero_le _, rfl, HA0.out, HB3.out⟩
    case round =>
      obtain ⟨wj, rfl⟩ : ∃ wj : World, wj = wr := ⟨_, rfl⟩
      obtain ⟨j, hj, rfl, ha, hb⟩ := hrel
      by_cases hjn : j < n
      · obtain ⟨row, b1, o1, v1, hx, rfl, hc1, ar, nr, kr, rfl, hr⟩ := HR.out.at hjn
        obtain ⟨p, hp, rfl⟩ : ∃ p, l[j]? = some p ∧ rowP p = row := by
          unfold rowsP at hx
          rw [List.getElem?_map] at hx
          exact Option.map_eq_some_iff.1 hx
        obtain rfl : 2 = nr := hr.len
        obtain ⟨z, b3, o3, z1, hz, rfl, hz1, rfl, hi64⟩ := Sl.at hr (show 1 < 2 by omega)
        have hz2 : z = (p.2 : Int) := by simp [rowP] at hz; exact hz.symm
        subst hz2
        have c1 := cell_keep hb hc1
        have c2 := cell_keep hb hz1
        obtain ⟨k, hk⟩ : ∃ k, p.2 = k := ⟨_, rfl⟩
        have hkl : (ksL l)[j]? = some k := by rw [← hk]; exact ksL_at hp
        have hkn : k < n2 := HLT.out _ (List.mem_of_getElem? hkl)
        rw [hk] at c2
        have fs := ha.free k
        have cs := ha.cell (k := k) (by rw [hasB_len]; exact hkn)
        have HAS := Lib.hid (show ArrB (wj.setCell ⟨S, k, none⟩ (.bool true)) S (hasB (ksL l) n2 (j + 1)) by have := ha.set k true; rwa [hasB_set hkl] at this)
        have HBS := Lib.hid (show Below wb.heap.size wb (wj.setCell ⟨S, k, none⟩ (.bool true)) from hb.setCell (p := ⟨S, k, none⟩) (by simp [HSS.out]) _)
        have i1 : (j : Int) < (n : Int) := by omega
        have i2 : (k : Int) < (n2 : Int) := by omega
        clear ha hb hx hp hr hz hz1 hc1 hk hkl hi64
        go_wp2_with (fail)
        go_roundw
        case rel => exact ⟨j + 1, by omega, by simp, HAS.out, HBS.out⟩
        case measure => simp [intOf]; omega
      · obtain rfl : n = j := by omega
        have HA := Lib.hid ha
        have HB4 := Lib.hid hb
        clear ha hb
        go_wp2_with (fail)
        go_loopw [10, 11, 12] (fun ov cv iv wr => ∃ i : Nat, i ≤ n2 ∧ iv = .int .i64 i ∧ cv = .int .i64 (rankF (ksL l) i) ∧ OwnI 3 wr wj.heap.size ov (castL ((undoF (ksL l) n2).take i)) ∧ Below wj.heap.size wj wr) (fun _ _ iv _ => n2 - (intOf iv).toNat)
        case atStart => exact ⟨0, Nat.zero_le _, rfl, by rw [rank_zero]; rfl, by simpa [castL] using OwnI.nil 3 _ _, Below.refl _ _⟩
        case round =>
          obtain ⟨wi, rfl⟩ : ∃ wi : World, wi = wr := ⟨_, rfl⟩
          obtain ⟨i, hi, rfl, rfl, ho, hb⟩ := hrel
          have HO := Lib.hid ho
          have HBI := Lib.hid hb
          have hsz := hb.size
          by_cases hin : i < n2
          · have cs := (HA.out.kept hb).cell (k := i) (by rw [hasB_len]; exact hin)
            rw [hasB_at hin, List.take_of_length_le (by rw [ksL_len, HN.out]; exact Nat.le_refl _)] at cs
            have hrs := rank_succ (ksL l) HND.out i
            have hrl := rank_le (ksL l) i
            rw [ksL_len, HN.out] at hrl
            have hut := undo_take (ksL l) hin
            have hql : (castL ((undoF (ksL l) n2).take i)).length = i := by rw [castL_len, List.length_take, undo_len]; omega
            have HOW := Lib.hid (show wi.ownsRow wj.heap.size 3 1 _ i ((castL ((undoF (ksL l) n2).take i)).map (Value.int .i64)) by have := HO.out.1; rwa [hql] at this)
            have HQL := Lib.hid hql
            have i1 : (i : Int) < (n2 : Int) := by omega
            by_cases hmem : i ∈ ksL l
            · have hrk := rank_lt hmem
              rw [ksL_len, HN.out] at hrk
              rw [if_pos hmem] at hrs hut
              rw [List.contains_iff_mem.2 hmem] at cs
              obtain ⟨r, hrr⟩ : ∃ r, rankF (ksL l) i = r := ⟨_, rfl⟩
              rw [hrr] at hrs hut hrk hrl ⊢
              obtain ⟨row, b1, o1, v1, hx, rfl, hc1, ar, nr, kr, rfl, hr⟩ := HR.out.at hrk
              obtain ⟨p, hp, rfl⟩ : ∃ p, l[r]? = some p ∧ rowP p = row := by
                unfold rowsP at hx
                rw [List.getElem?_map] at hx
                exact Option.map_eq_some_iff.1 hx
              obtain rfl : 2 = nr := hr.len
              obtain ⟨z, b3, o3, z1, hz, rfl, hz1, rfl, hi64⟩ := Sl.at hr (show 1 < 2 by omega)
              have hz2 : z = (p.2 : Int) := by simp [rowP] at hz; exact hz.symm
              subst hz2
              have hgd : (ksL l).getD r 0 = p.2 := by simp [ksL_at hp]
              rw [hgd] at hut
              have c1 := cell_keep (bstep HB4.out hb) hc1
              have c2 := cell_keep (bstep HB4.out hb) hz1
              have HUT := Lib.hid (show castL ((undoF (ksL l) n2).take (i + 1)) = castL ((undoF (ksL l) n2).take i) ++ [(p.2 : Int)] by rw [hut]; simp [castL])
              have HRS := Lib.hid hrs
              have HW := Lib.hid hi64
              have r1 : (r : Int) < (n : Int) := by omega
              clear hx hp hr hz hz1 hc1 hql hb hi64 ho hut hrs hmem hrr hgd
              go_wp2_with (at_builtin; refine wpList_append_own _ rfl _ _ 29 rfl wj.heap.size 3 i9 (.int .i64 0) 1 8 Tryz.underlying29 hi9 hy0 hy1 hy2 rfl (by decide) _ _ _ rfl (HOW.out.alloc _) ⟨wi.heap.size, 0, none⟩ 1 1 [.int .i64 (p.2 : Int)] rfl rfl (cell_one_new _ _ _) (by simp [Value.oneCell']) (by unfold maxLen; omega) (by omega) (by simp; omega) ?_; intro v1 w4 hown1 hgrow1 _; have HO3 := Lib.hid hown1; have HG := Lib.hid hgrow1; clear hown1 hgrow1)
              obtain ⟨j1, j2⟩ := OwnI.pushed (x := (p.2 : Int)) HO.out HW.out hsz (by rw [HQL.out]; exact HO3.out) HG.out
              go_roundw
              case rel => exact ⟨i + 1, by omega, by simp, by rw [HRS.out]; simp, by rw [HUT.out]; exact j1, HBI.out.trans j2⟩
              case measure => simp [intOf]; omega
            · rw [if_neg hmem] at hrs hut
              have hct : (ksL l).contains i = false := by rw [Bool.eq_false_iff]; exact fun h => hmem (List.contains_iff_mem.1 h)
              rw [hct] at cs
              have HUT := Lib.hid (show castL ((undoF (ksL l) n2).take (i + 1)) = castL ((undoF (ksL l) n2).take i) ++ [(i : Int)] by rw [hut]; simp [castL])
              have HRS := Lib.hid hrs
              have HW := Lib.hid (show I64 (i : Int) from ⟨by omega, by omega⟩)
              clear hql hb ho hut hrs hmem hct
              go_wp2_with (at_builtin; refine wpList_append_own _ rfl _ _ 29 rfl wj.heap.size 3 i9 (.int .i64 0) 1 8 Tryz.underlying29 hi9 hy0 hy1 hy2 rfl (by decide) _ _ _ rfl (HOW.out.alloc _) ⟨wi.heap.size, 0, none⟩ 1 1 [.int .i64 (i : Int)] rfl rfl (cell_one_new _ _ _) (by simp [Value.oneCell']) (by unfold maxLen; omega) (by omega) (by simp; omega) ?_; intro v1 w4 hown1 hgrow1 _; have HO3 := Lib.hid hown1; have HG := Lib.hid hgrow1; clear hown1 hgrow1)
              obtain ⟨j1, j2⟩ := OwnI.pushed (x := (i : Int)) HO.out HW.out hsz (by rw [HQL.out]; exact HO3.out) HG.out
              go_roundw
              case rel => exact ⟨i + 1, by omega, by simp, by rw [HRS.out]; simp, by rw [HUT.out]; exact j1, HBI.out.trans j2⟩
              case measure => simp [intOf]; omega
          · obtain rfl : n2 = i := by omega
            have HALL := Lib.hid (show (undoF (ksL l) n2).take n2 = undoF (ksL l) n2 from List.take_of_length_le (by rw [undo_len]; exact Nat.le_refl _))
            clear hb ho
            go_wp2_with (fail)
            go_ret2
            exact ⟨_, rfl, by have := HO.out; rw [HALL.out] at this; exact this.mono (bstep HB.out HB4.out).size, bstep (bstep HB.out HB4.out) HBI.out⟩
  · have HE := Lib.hid (show castL (undE xs ys) = [] by unfold undE; rw [if_neg hk]; rfl)
    have dn : (chkT xs ys != 0) = true := by simpa using hk
    obtain ⟨k, hk2⟩ : ∃ k, chkT xs ys = k := ⟨_, rfl⟩
    rw [hk2] at HC dn ⊢
    rw [HE.out]
    clear h1 h2 hk hk2
    unfold GivesI
    go_enter Tryz.func19, Tryz.ntmps19
    go_wp2_with (fail)
    refine HC.out.mono ?_
    rintro e wa ⟨rfl, hba⟩
    have HBA := Lib.hid hba
    clear hba
    go_wp2_with (fail)
    go_ret2
    exact ⟨_, rfl, OwnI.nil _ _ _, HBA.out⟩
end Go.Proofs.YtbahddjbncinbaaGreatDoor
