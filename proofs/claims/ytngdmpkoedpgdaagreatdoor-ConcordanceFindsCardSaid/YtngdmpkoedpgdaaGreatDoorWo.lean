/-
  The index of words (program).
-/
import Derived.Test.YtngdmpkoedpgdaaGreatDoorQ3
import Derived.Test.YtngdmpkoedpgdaaGreatDoorQ4
import Derived.Maps.OwnIn
namespace Go.Proofs.YtngdmpkoedpgdaaGreatDoor
open Go.RowKit Go.Ap Go.Shelf Go.Proofs

attribute [local go_sem] Oper.semAt_some bs_toList empty_toList bs_size bs_extract

theorem infoInt5 : (Tryz.prog.info? 3).map (fun i => (i.zero, i.size, i.bytes)) = some (some (.int .i64 0), 1, 8) := by kernel_rfl
/-- what Words answers -/
def WordsA (e : Ending) (w w' : World) (c : Int) (l : List Post) : Prop := ∃ u, e = .returned (.tuple #[u, .int .i64 c]) ∧ (c = 0 → GivesPo w' u l) ∧ (c ≠ 0 → u = .slice none 0 0) ∧ Below w.heap.size w w'
theorem WordsA.bad {w w' : World} {c : Int} {l : List Post} (h : c ≠ 0) (hb : Below w.heap.size w w') : WordsA (.returned (.tuple #[.slice none 0 0, .int .i64 c])) w w' c l :=
  ⟨_, rfl, fun e => absurd e h, fun _ => rfl, hb⟩
set_option maxRecDepth 100000 in
set_option maxHeartbeats 8000000 in
theorem wordsBad (sec : Str) (ws : List Str) (ls : List Int) (a1 : Option Addr) (n1 c1 : Nat) (a2 : Option Addr) (n2 c2 : Nat) (w : World) (h1 : StrsL w a1 n1 ws) (h2 : Ints w a2 n2 ls) (hs : sec.length ≤ 4611686018427387903) (l : List Post) (hc : wordsC sec ws ls ≠ 0) :
    Calls Tryz.prog 14 #[.string (bs sec), .slice a1 n1 c1, .slice a2 n2 c2] w fun e w' => WordsA e w w' (wordsC sec ws ls) l := by
  have HN := Lib.hid (nameP sec w hs)
  have HA := Lib.hid (badLines a2 n2 c2 ls w h2)
  have e1 := h1.len
  have e2 := h2.len
  unfold wordsC at hc ⊢
  rw [e1, e2] at hc ⊢
  clear h1 h2 e1 e2
  cases hnm : nameB sec
  · rw [hnm] at HN
    simp only [if_true]
    clear hnm hc
    go_enter Tryz.func14, Tryz.ntmps14
    go_wp2_with (fail)
    refine HN.out.mono ?_
    rintro e W ⟨rfl, rfl⟩
    go_wp2_with (fail)
    go_ret2
    exact WordsA.bad (by decide) (Below.refl _ _)
  · rw [hnm] at HN hc
    simp only [Bool.true_eq_false, if_false] at hc ⊢
    by_cases g1 : 4096 < n1
    · rw [if_pos g1]
      have d1 : decide ((4096 : Int) < (n1 : Int)) = true := by rw [decide_eq_true_eq]; omega
      clear hnm hc g1
      go_enter Tryz.func14, Tryz.ntmps14
      go_wp2_with (fail)
      refine HN.out.mono ?_
      rintro e W ⟨rfl, rfl⟩
      go_wp2_with (fail)
      go_ret2
      exact WordsA.bad (by decide) (Below.refl _ _)
    · rw [if_neg g1] at hc ⊢
      have d1 : decide ((4096 : Int) < (n1 : Int)) = false := by rw [decide_eq_false_iff_not]; omega
      by_cases g2 : n2 = n1
      · rw [if_neg (fun h => h g2)] at hc ⊢
        have d2 : ((n2 : Int) != (n1 : Int)) = false := by subst g2; simp
        cases hb : ls.any fun n => !lineOk n
        · rw [hb] at hc
          simp at hc
        · rw [hb] at HA
          rw [if_pos rfl]
          clear hnm hc g1 g2 hb
          go_enter Tryz.func14, Tryz.ntmps14
          go_wp2_with (fail)
          refine HN.out.mono ?_
          rintro e W ⟨rfl, rfl⟩
          go_wp2_with (fail)
          refine HA.out.mono ?_
          rintro e W ⟨rfl, hb⟩
          go_wp2_with (fail)
          go_ret2
          exact WordsA.bad (by decide) hb
      · rw [if_pos g2]
        have d2 : ((n2 : Int) != (n1 : Int)) = true := by rw [bne_iff_ne]; omega
        clear hnm hc g1 g2
        go_enter Tryz.func14, Tryz.ntmps14
        go_wp2_with (fail)
        refine HN.out.mono ?_
        rintro e W ⟨rfl, rfl⟩
        go_wp2_with (fail)
        go_ret2
        exact WordsA.bad (by decide) (Below.refl _ _)
theorem below_drew {B : Nat} {w w' : World} (h : Below B w w') : Below B w w'.drew := ⟨h.os, h.tape, h.output, h.size, h.block⟩
theorem entOf_no {sec : Str} {x : Str} {y : Int} (h : isWordB x = false) : entOf sec (x, y) = [] := by simp [entOf, h]
theorem entOf_yes {sec : Str} {x : Str} {y : Int} (h : isWordB x = true) : entOf sec (x, y) = [((x, sec), y)] := by simp [entOf, h]
set_option maxRecDepth 100000 in
set_option maxHeartbeats 8000000 in
theorem wordsOk (sec : Str) (ws : List Str) (ls : List Int) (a1 : Option Addr) (n c1 : Nat) (a2 : Option Addr) (c2 : Nat) (w : World) (h1 : StrsL w a1 n ws) (h2 : Ints w a2 n ls) (hs : nameB sec = true) (hn : n ≤ 4096) (hw : ∀ s ∈ ws, s.length ≤ 4611686018427387903) (hl : (ls.any fun n => !lineOk n) = false) :
    Calls Tryz.prog 14 #[.string (bs sec), .slice a1 n c1, .slice a2 n c2] w fun e w' => (∃ u, e = .returned (.tuple #[u, .int .i64 0]) ∧ GivesPo w' u (idxM mkB (wordsEs sec (ws.zip ls)))) ∧ Below w.heap.size w w' := by
  obtain ⟨i0, hi, hz0, hz1, hz2⟩ := info_parts infoInt5
  have hsec := nameB_16 hs
  have HN := Lib.hid (nameP sec w (by omega))
  rw [hs] at HN
  have HA := Lib.hid (badLines a2 n c2 ls w h2)
  rw [hl] at HA
  have d1 : decide ((4096 : Int) < (n : Int)) = false := by rw [decide_eq_false_iff_not]; omega
  have d2 : ((n : Int) != (n : Int)) = false := by simp
  have HWD := Lib.hid (fun (x : Str) (W : World) (hx : x ∈ ws) => isWordP x W (hw x hx))
  have HX1 := Lib.hid h1
  have HX2 := Lib.hid h2
  have HSL := Lib.hid (show sec.length ≤ maxLen by unfold maxLen; omega)
  have HWL := Lib.hid (fun (x : Str) (hx : x ∈ ws) => show x.length ≤ maxLen from Nat.le_trans (hw x hx) (by decide))
  have HZL := Lib.hid (show (wordsEs sec (ws.zip ls)).length ≤ n by
    have a := wordsEs_len sec (ws.zip ls)
    have b := h1.len
    rw [List.length_zip] at a
    omega)
  have HEL := Lib.hid (show ∀ x ∈ wordsEs sec (ws.zip ls), x.1.1.length ≤ 4611686018427387903 ∧ x.1.2.length ≤ 4611686018427387903 from fun x hx => by
    obtain ⟨p, hp, _, rfl⟩ := wordsEs_mem.1 hx
    exact ⟨hw _ (List.of_mem_zip hp).1, by show sec.length ≤ _; omega⟩)
  have HPO := Lib.hid (fun bm W (hG : Grp tHd 3 W bm w.heap.size n (grpOf (wordsEs sec (ws.zip ls)))) (hsz : w.heap.size ≤ W.heap.size) => postingsP bm w.heap.size n _ W hG hsz hn (fun s => by
    have a := grpOf_len (wordsEs sec (ws.zip ls)) s
    have b := HZL.out
    omega) (wordsEs sec (ws.zip ls)) (fun h m => grpOf_mem) HEL.out)
  have HLL := Lib.hid (show (ws.zip ls).length = n by rw [List.length_zip, h1.len, h2.len, Nat.min_self])
  clear h1 h2 hs hl hw hsec
  obtain ⟨base, hbase⟩ : ∃ b, w.heap.size = b := ⟨_, rfl⟩
  simp only [hbase] at HPO
  have HBS := Lib.hid hbase
  go_enter Tryz.func14, Tryz.ntmps14
  go_wp2_with (fail)
  refine HN.out.mono ?_
  rintro e W ⟨rfl, rfl⟩
  go_wp2_with (fail)
  refine HA.out.mono ?_
  rintro e W ⟨rfl, hb⟩
  have HB0 := Lib.hid (show Below base w W by rw [← hbase]; exact hb)
  have hszW : base ≤ W.heap.size := by have := hb.size; omega
  obtain ⟨bm, hbm⟩ : ∃ b, W.heap.size = b := ⟨_, rfl⟩
  have HBM := Lib.hid hbm
  have HG0 := Lib.hid (show Grp tHd 3 (W.alloc (.map #[] 0)) bm base 0 (grpOf (wordsEs sec ((ws.zip ls).take 0))) by rw [← hbm]; exact Grp.made W)
  have HB1 := Lib.hid (HB0.out.alloc hszW (.map #[] 0))
  have HSW := Lib.hid hszW
  have hmm := @run_makeMap Tryz.prog
  clear hb HN HA hbm hszW
  go_wp2_with (fail)
  rw [HBM.out]
  clear hmm
  go_loopw [32] (fun iv wr => ∃ i : Nat, i ≤ n ∧ iv = .int .i64 i ∧ Grp tHd 3 wr bm base i (grpOf (wordsEs sec ((ws.zip ls).take i))) ∧ Below base w wr) (fun iv _ => n - (intOf iv).toNat)
  case atStart => exact ⟨0, Nat.zero_le _, rfl, HG0.out, HB1.out⟩
  case round =>
    obtain ⟨wi, rfl⟩ : ∃ wi : World, wi = wr := ⟨_, rfl⟩
    obtain ⟨i, hile, rfl, hG, hb⟩ := hrel
    have HB := Lib.hid hb
    have HG := Lib.hid hG
    have HSZ := Lib.hid (show base ≤ wi.heap.size by have := hb.size; have := HBS.out; omega)
    by_cases hin : i < n
    · obtain ⟨x, b, off, v, hx, rfl, hcv, rfl, _⟩ := Sl.at (HX1.out.mono (Nat.le_of_eq HBS.out) hb) hin
      unfold sv at hcv
      obtain ⟨y, b2, off2, v2, hy, rfl, hcy, rfl, hiy⟩ := Sl.at (HX2.out.mono (Nat.le_of_eq HBS.out) hb) hin
      have HC0 := Lib.hid (show w.cell? ⟨b2, off2 + i, none⟩ = some (.int .i64 y) by
        obtain ⟨y', b3, off3, v3, hy3, he3, hc3, hv3, _⟩ := Sl.at HX2.out hin
        cases he3
        rw [hy] at hy3
        cases hy3
        rw [hv3] at hc3
        exact hc3)
      have hxm := List.mem_of_getElem? hx
      have HSN := Lib.hid (wordsEs_snoc sec (zip_at hx hy))
      have HCALL := Lib.hid (HWD.out x wi hxm)
      have HXL := Lib.hid (HWL.out x hxm)
      have HIY := Lib.hid hiy
      have i1 : (i : Int) < (n : Int) := by omega
      cases hword : isWordB x
      · rw [hword] at HCALL
        have HS2 := Lib.hid (show wordsEs sec ((ws.zip ls).take (i + 1)) = wordsEs sec ((ws.zip ls).take i) by rw [HSN.out, entOf_no hword, List.append_nil])
        clear hx hy hxm hword hb hG hiy
        go_wp2_with (fail)
        refine HCALL.out.mono ?_
        rintro e w2 ⟨rfl, hb2⟩
        have HB2 := Lib.hid (HB.out.trans (hb2.mono HSZ.out))
        have HG2 := Lib.hid ((HG.out.below hb2).le (Nat.le_succ i))
        clear hb2
        go_wp2_with (fail)
        exact ⟨⟨i + 1, by omega, by simp, by rw [HS2.out]; exact HG2.out, HB2.out⟩, by simp [intOf]; omega⟩
      · rw [hword] at HCALL
        have HS2 := Lib.hid (show wordsEs sec ((ws.zip ls).take (i + 1)) = wordsEs sec ((ws.zip ls).take i) ++ [((x, sec), y)] by rw [HSN.out, entOf_yes hword])
        have HCY := Lib.hid hcy
        clear hx hy hxm hword hb hG hiy hcy
        go_wp2_with (fail)
        refine HCALL.out.mono ?_
        rintro e w2 ⟨rfl, hb2⟩
        have HB2 := Lib.hid (HB.out.trans (hb2.mono HSZ.out))
        have HSZ2 := Lib.hid (show base ≤ w2.heap.size by have := hb2.size; have := HSZ.out; omega)
        have HG2 := Lib.hid (HG.out.below hb2)
        have HCY2 := Lib.hid (cell_keep hb2 HCY.out)
        obtain ⟨X, hX⟩ : ∃ X, w2.heap.size = X := ⟨_, rfl⟩
        have HA := Lib.hid (balloc w2 (.cells #[.string (bs x), .string (bs sec)] 92))
        have K := Lib.hid (show BlkK (w2.alloc (.cells #[.string (bs x), .string (bs sec)] 92)) X #[.string (bs x), .string (bs sec)] 92 by rw [← hX]; exact BlkK.new w2 _ _)
        have HBA := Lib.hid (HB2.out.alloc HSZ2.out (.cells #[.string (bs x), .string (bs sec)] 92))
        have HSA := Lib.hid (show base ≤ (w2.alloc (.cells #[.string (bs x), .string (bs sec)] 92)).heap.size by have := HSZ2.out; simp; omega)
        obtain ⟨WA, hWA⟩ : ∃ W, w2.alloc (.cells #[.string (bs x), .string (bs sec)] 92) = W := ⟨_, rfl⟩
        rw [hWA] at HA K HBA HSA
        have HGA := Lib.hid (HG2.out.below HA.out)
        have HCA := Lib.hid (cell_keep HA.out HCY2.out)
        have HNE := Lib.hid (HGA.out.ne K.out)
        clear hb2
        go_wp2_with (fail)
        refine (wpIn_wide (n := 20)).1 ?_
        refine wpIn_region_planN (fun W' => BlkK W' X #[.string (bs x), .string (bs sec)] 92 ∧ W'.cell? ⟨b2, off2 + i, none⟩ = some (.int .i64 y)) (.take 0 <| .take 1 <| .take 2 <| .take 3 <| .take 4 <| .take 5 <| .one 6 <| .one 7 <| .take 8 <| .take 10 <| .one 9 <| .one 11 <| .fin) (fun _ => trivial) (by kernel_rfl) (by kernel_rfl) ⟨K.out.below (bdrewN _ 1), HCA.out⟩ ?_
        apply plan_take rfl rfl (by rfl)
        case hy =>
          rintro W' hb'
          clear hb'
          go_simp
          first | done | with_reducible rfl
        simp only [List.setIfInBounds_toArray, List.set_cons_zero, List.set_cons_succ]
        apply plan_take rfl rfl (by rfl)
        case hy =>
          rintro W' hb'
          have x0 : W'.cell? ⟨X, 0, none⟩ = some (.string (bs x)) := hb'.1.cell (i := 0) rfl
          have x1 : W'.cell? ⟨X, 1, none⟩ = some (.string (bs sec)) := hb'.1.cell (i := 1) rfl
          clear hb'
          go_simp
          first | done | with_reducible rfl
        simp only [List.setIfInBounds_toArray, List.set_cons_zero, List.set_cons_succ]
        iterate 3
          apply plan_take rfl rfl (by rfl)
          case hy =>
            rintro W' hb'
            clear hb'
            go_simp
            first | done | with_reducible rfl
          simp only [List.setIfInBounds_toArray, List.set_cons_zero, List.set_cons_succ]
        apply plan_take rfl rfl (by rfl)
        case hy =>
          rintro W' hb'
          have x2 := hb'.2
          clear hb'
          go_simp
          first | done | with_reducible rfl
        simp only [List.setIfInBounds_toArray, List.set_cons_zero, List.set_cons_succ]
        have HCW := Lib.hid (show w.cell? ⟨b2, off2 + i, none⟩ = some (.int .i64 y) from HC0.out)
        have HBB := Lib.hid (below_drew (HBA.out.alloc HSA.out (.cells #[.int .i64 y] 3)))
        have HGB := Lib.hid (HGA.out.below (balloc WA (.cells #[.int .i64 y] 3)))
        have HKB := Lib.hid (K.out.allocK (.cells #[.int .i64 y] 3))
        have HNB := Lib.hid (show BlkK (WA.alloc (.cells #[.int .i64 y] 3)) WA.heap.size #[.int .i64 y] 3 from BlkK.new _ _ _)
        refine plan_one rfl ?_
        gi_wp2_with (fail)
        refine ⟨⟨HKB.out, Go.Ap.cell_kept (Nat.le_of_eq HBS.out) HBB.out HCW.out⟩, ?_⟩
        obtain ⟨V, hV⟩ : ∃ V, WA.heap.size = V := ⟨_, rfl⟩
        rw [hV] at HNB
        have hVB : base ≤ V := by rw [← hV]; exact HSA.out
        have hbV : bm < V := by rw [← hV]; exact HGA.out.lt
        obtain ⟨WB, hWB⟩ : ∃ W, (WA.alloc (.cells #[.int .i64 y] 3)).drew = W := ⟨_, rfl⟩
        replace HBB := Lib.hid (show Below base w WB by rw [← hWB]; exact HBB.out)
        replace HGB := Lib.hid (show Grp tHd 3 WB bm base i (grpOf (wordsEs sec ((ws.zip ls).take i))) by rw [← hWB]; exact HGB.out)
        replace HKB := Lib.hid (show BlkK WB X #[.string (bs x), .string (bs sec)] 92 by rw [← hWB]; exact HKB.out)
        replace HNB := Lib.hid (show BlkK WB V #[.int .i64 y] 3 by rw [← hWB]; exact HNB.out)
        have HVB := Lib.hid hVB
        have HbV := Lib.hid hbV
        rw [hV, hWB]
        clear hWB hV hVB hbV
        obtain ⟨u, w1, st, o1, hme, hou, hg1, ho1, hoc1, _, hst⟩ := Grp.entry (s := (x, sec)) rfl HGB.out (by unfold maxLen; omega) ⟨HXL.out, HSL.out⟩
        replace hme : (Instr.mapEntry 90 (.map (some bm)) (.agg #[.string (bs x), .string (bs sec)])).run Tryz.prog WB = .ok (.tuple #[u, st]) w1 := hme
        have HBM1 := Lib.hid (show base ≤ bm by have := HSW.out; have := HBM.out; omega)
        have hszB := HBB.out.size
        have HB3 := Lib.hid (HBB.out.grown hg1 (by have := HBS.out; omega) fun k hk => by cases hk; exact HBM1.out)
        have HK3 := Lib.hid (HKB.out.keptE hg1 HNE.out)
        have HN3 := Lib.hid (HNB.out.keptE hg1 (by have := HbV.out; simp; omega))
        have HOU := Lib.hid hou
        have HO1 := Lib.hid ho1
        have HOC := Lib.hid hoc1
        have HST := Lib.hid hst
        have HS3 := Lib.hid (show base ≤ w1.heap.size by have := HB3.out.size; have := HBS.out; omega)
        have HGL := Lib.hid (show (grpOf (wordsEs sec ((ws.zip ls).take i)) (x, sec)).length ≤ 4096 by
          have a := grpOf_len (wordsEs sec ((ws.zip ls).take i)) (x, sec)
          have b := wordsEs_len sec ((ws.zip ls).take i)
          rw [List.length_take] at b
          omega)
        clear hou hg1 ho1 hoc1 hst hszB
        refine plan_one rfl ?_
        gi_wp2_with (fail)
        refine ⟨⟨HK3.out, Go.Ap.cell_kept (Nat.le_of_eq HBS.out) HB3.out HCW.out⟩, ?_⟩
        clear hme
        iterate 2
          apply plan_take rfl rfl (by rfl)
          case hy =>
            rintro W' hb'
            clear hb'
            go_simp
            first | done | with_reducible rfl
          simp only [List.setIfInBounds_toArray, List.set_cons_zero, List.set_cons_succ]
        have HNW := Lib.hid (show ∀ (j : Nat) (u : Value), [.int .i64 y][j]? = some u → w1.cell? ((⟨V, 0, none⟩ : Addr).add j) = some u from World.news_of_block (cs := #[.int .i64 y]) HN3.out)
        refine plan_one rfl ?_
        refine wpListIn_append_own_at _ rfl _ _ 26 rfl base 3 i0 (.int .i64 0) 1 8 Tryz.underlying26 hi hz0 hz1 hz2 rfl (by decide) u _ _ rfl HOU.out.1 ⟨V, 0, none⟩ 1 1 [.int .i64 y] rfl rfl HNW.out (by simp [Value.oneCell']) (by have := HGL.out; unfold maxLen; omega) (by have := HGL.out; omega) HS3.out ?_
        intro v' w9 hown' hgr' _ hat
        have hv9 : OwnI 3 w9 base v' (grpOf (wordsEs sec ((ws.zip ls).take i)) (x, sec) ++ [y]) := HOU.out.push1 HIY.out hown'
        obtain ⟨w4, hes, hG4, hg4⟩ := HST.out w9 v' _ ((hgr'.block bm (by have := HO1.out; exact (Array.getElem?_eq_some_iff.1 this).1) (fun e => (own_not HOU.out.1 HO1.out HOC.out).elim (fun h => by rw [h] at e; cases e) (fun h => h e.symm))).trans HO1.out) hgr' hv9 (by simp) (hat.imp id fun h => ⟨_, Nat.le_refl _, h⟩)
        rw [grpOf_add _ _ [y]] at hG4
        have HB9 := Lib.hid (HB3.out.grown hgr' HS3.out fun k hk => (HOU.out.1.lt k hk).1)
        have HK9 := Lib.hid (HK3.out.keptE hgr' (HK3.out.apart HOU.out.1 (by decide)))
        have HS9 := Lib.hid (show base ≤ w9.heap.size by have := HB9.out.size; have := HBS.out; omega)
        have HB10 := Lib.hid (HB9.out.grown hg4 HS9.out fun k hk => by cases hk; exact HBM1.out)
        have HK10 := Lib.hid (HK9.out.keptE hg4 HNE.out)
        have HG10 := Lib.hid (show Grp tHd 3 w4 bm base (i + 1) (grpOf (wordsEs sec ((ws.zip ls).take (i + 1)))) by rw [HS2.out]; exact hG4)
        clear hown' hgr' hat hv9 hG4 hg4
        rw [put_some (d := 51) rfl]
        simp only [List.setIfInBounds_toArray, List.set_cons_zero, List.set_cons_succ]
        gi_wp2_with (fail)
        refine ⟨⟨HK9.out, Go.Ap.cell_kept (Nat.le_of_eq HBS.out) HB9.out HCW.out⟩, ?_⟩
        refine plan_one rfl ?_
        gi_wp2_with (fail)
        refine ⟨⟨HK10.out, Go.Ap.cell_kept (Nat.le_of_eq HBS.out) HB10.out HCW.out⟩, ?_⟩
        clear hes
        refine plan_fin ?_
        gi_wp2_with (fail)
        go_wp2_with (fail)
        go_roundw
        case rel => exact ⟨i + 1, by omega, by simp, HG10.out, HB10.out⟩
        case measure => simp [intOf]; omega
    · obtain rfl : n = i := by omega
      have HG1 := Lib.hid (show Grp tHd 3 wi bm base n (grpOf (wordsEs sec (ws.zip ls))) by
        have := HG.out
        rw [List.take_of_length_le (Nat.le_of_eq HLL.out)] at this
        exact this)
      have HC := Lib.hid (HPO.out bm wi HG1.out HSZ.out)
      clear hG hb
      go_wp2_with (fail)
      refine HC.out.mono ?_
      rintro e w2 ⟨⟨u, rfl, hu⟩, hb2⟩
      have HU := Lib.hid hu
      have HB2 := Lib.hid hb2
      clear hu hb2
      go_wp2_with (fail)
      go_ret2
      exact ⟨⟨_, rfl, HU.out⟩, by rw [HBS.out]; exact HB.out.trans HB2.out⟩
theorem wordsC_ok {sec : Str} {ws : List Str} {ls : List Int} (h : wordsC sec ws ls = 0) : nameB sec = true ∧ ws.length ≤ 4096 ∧ ls.length = ws.length ∧ (ls.any fun n => !lineOk n) = false := by
  unfold wordsC at h
  split at h
  · cases h
  · rename_i h1
    split at h
    · cases h
    · rename_i h2
      split at h
      · cases h
      · rename_i h3
        split at h
        · cases h
        · rename_i h4
          exact ⟨by simpa using h1, by omega, by simpa using h3, by simpa using h4⟩
theorem wordsP (sec : Str) (ws : List Str) (ls : List Int) (a1 : Option Addr) (n1 c1 : Nat) (a2 : Option Addr) (n2 c2 : Nat) (w : World) (h1 : StrsL w a1 n1 ws) (h2 : Ints w a2 n2 ls) (hs : sec.length ≤ 4611686018427387903) (hw : ∀ s ∈ ws, s.length ≤ 4611686018427387903) :
    Calls Tryz.prog 14 #[.string (bs sec), .slice a1 n1 c1, .slice a2 n2 c2] w fun e w' => WordsA e w w' (wordsC sec ws ls) (idxM mkB (wordsEs sec (ws.zip ls))) := by
  by_cases hc : wordsC sec ws ls = 0
  · obtain ⟨g1, g2, g3, g4⟩ := wordsC_ok hc
    have e1 := h1.len
    have e2 := h2.len
    obtain rfl : n1 = n2 := by omega
    rw [hc]
    refine (wordsOk sec ws ls a1 n1 c1 a2 c2 w h1 h2 g1 (by omega) hw g4).mono ?_
    rintro e w' ⟨⟨u, rfl, hu⟩, hb⟩
    exact ⟨u, rfl, fun _ => hu, fun h => absurd rfl h, hb⟩
  · exact wordsBad sec ws ls a1 n1 c1 a2 n2 c2 w h1 h2 hs _ hc
end Go.Proofs.YtngdmpkoedpgdaaGreatDoor
