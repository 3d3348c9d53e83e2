/-
  The law of the index of words: complete.
-/
import Derived.Test.YtngdmpkoedpgdaaGreatDoorQ6
import Derived.Test.YtngdmpkoedpgdaaGreatDoorHp
import Derived.Test.YtngdmpkoedpgdaaGreatDoorQe
import Derived.Test.YtngdmpkoedpgdaaGreatDoorFq
namespace Go.Ap
open Go Go.RowKit
/-- lines out of bytes -/
def atL (ls : List Int) : List Int := ls.map (1 + ·)
/-- the places that the law wants after i words -/
def wantF (ps : List (Str × Int)) (s : Str × Int) : Option Value := if isWordB s.1 = true ∧ s ∈ ps then some (.bool true) else none
theorem wantF_snoc {ps : List (Str × Int)} {i : Nat} {p : Str × Int} (h : ps[i]? = some p) : wantF (ps.take (i + 1)) = if isWordB p.1 = true then updV (wantF (ps.take i)) p (.bool true) else wantF (ps.take i) := by
  funext s
  rw [take_snoc h]
  unfold wantF
  by_cases hw : isWordB p.1 = true
  · rw [if_pos hw]
    unfold updV
    by_cases hs : s = p
    · subst hs
      simp [hw]
    · rw [if_neg hs]
      simp [hs]
  · rw [if_neg hw]
    by_cases hs : s = p
    · subst hs
      simp [hw]
    · simp [hs]
/-- each place once -/
def onceL : List (Str × Int) → List (Str × Int)
  | [] => []
  | p :: r => if p ∈ onceL r then onceL r else p :: onceL r
theorem onceL_mem {x : Str × Int} : ∀ {l : List (Str × Int)}, x ∈ onceL l ↔ x ∈ l
  | [] => by simp [onceL]
  | p :: r => by
    unfold onceL
    split
    · rename_i h
      rw [onceL_mem, List.mem_cons]
      constructor
      · exact .inr
      · rintro (rfl | h')
        · exact onceL_mem.1 h
        · exact h'
    · rw [List.mem_cons, List.mem_cons, onceL_mem]
theorem onceL_nodup : ∀ l : List (Str × Int), (onceL l).Nodup
  | [] => by simp [onceL]
  | p :: r => by
    unfold onceL
    split
    · exact onceL_nodup r
    · rename_i h
      rw [List.nodup_cons]
      exact ⟨h, onceL_nodup r⟩
def wantK (ps : List (Str × Int)) : List (Str × Int) := onceL (ps.filter fun p => isWordB p.1)
theorem wantK_mem {ps : List (Str × Int)} {s : Str × Int} : wantF ps s ≠ none ↔ s ∈ wantK ps := by
  unfold wantF wantK
  rw [onceL_mem, List.mem_filter]
  by_cases h : isWordB s.1 = true ∧ s ∈ ps
  · rw [if_pos h]
    simp [h.1, h.2]
  · rw [if_neg h]
    constructor
    · intro e; exact absurd rfl e
    · rintro ⟨h1, h2⟩
      exact absurd ⟨h2, h1⟩ h
theorem wantK_count (sec : Str) (ps : List (Str × Int)) : countL (idxM mkB (wordsEs sec ps)) = (wantK ps).length := by
  rw [count_idx (ks := (wantK ps).map fun s => ((s.1, sec), s.2)), List.length_map]
  · rw [List.Nodup, List.pairwise_map]
    exact (onceL_nodup _).imp fun hne e => hne (by
      have e1 := (Prod.mk.inj (Prod.mk.inj e).1).1
      have e2 := (Prod.mk.inj e).2
      exact Prod.ext e1 e2)
  · intro x
    rw [wordsEs_mem, List.mem_map]
    unfold wantK
    constructor
    · rintro ⟨s, hs, rfl⟩
      rw [onceL_mem, List.mem_filter] at hs
      exact ⟨s, hs.1, by simpa using hs.2, rfl⟩
    · rintro ⟨p, hp, hw, rfl⟩
      exact ⟨p, by rw [onceL_mem, List.mem_filter]; exact ⟨hp, by simpa using hw⟩, rfl⟩
end Go.Ap
namespace Go.Proofs.YtngdmpkoedpgdaaGreatDoor
open Go.RowKit Go.Ap Go.Shelf Go.Proofs

attribute [local go_sem] Oper.semAt_some bs_toList empty_toList bs_size bs_extract
set_option maxRecDepth 100000 in
set_option maxHeartbeats 4000000 in
theorem law3 (sec : Str) (a1 : Option Addr) (n1 c1 : Nat) (ws : List Str) (a2 : Option Addr) (n2 c2 : Nat) (us : List Int) (w : World) (hsec : sec.length ≤ 281474976710656) (h1 : StrsL w a1 n1 ws ∧ n1 ≤ c1 ∧ ∀ s ∈ ws, s.length ≤ 281474976710656) (h2 : Sl U8R w a2 n2 us) (ht : ET w) :
    Calls Tryz.prog 3 #[.string (bs sec), .slice a1 n1 c1, .slice a2 n2 c2] w fun e w' => e = .returned (.bool true) ∧ Below w.heap.size w w' := by
  obtain ⟨h1, _, _⟩ := h1
  obtain ⟨i0, hi, hz0, hz1, hz2⟩ := info_parts infoInt5
  have HM := Lib.hid (many12 ws a1 n1 c1 w h1)
  have HA := Lib.hid (fun W (hb : Below w.heap.size w W) => awake13 W (ht.mono (Nat.le_refl _) hb))
  cases hm : manyB ws
  rotate_left
  · rw [hm] at HM
    clear hm h1 h2
    go_enter Tryz.func3, Tryz.ntmps3
    go_wp2_with (fail)
    refine HM.out.mono ?_
    rintro e W ⟨rfl, hb⟩
    have HB := Lib.hid hb
    clear hb
    go_wp2_with (fail)
    refine (HA.out W HB.out).mono ?_
    rintro e W2 ⟨rfl, hb2⟩
    have HB2 := Lib.hid (bstep HB.out hb2)
    clear hb2
    go_wp2_with (fail)
    go_ret
    exact ⟨rfl, HB2.out⟩
  rw [hm] at HM
  obtain ⟨m1, m2⟩ := manyB_no hm
  have hl1 := h1.len
  have hl2 := h2.len
  by_cases hnn : n2 = n1
  rotate_left
  · have d1 : ((n2 : Int) != (n1 : Int)) = true := by rw [bne_iff_ne]; omega
    clear hm h1 h2 m1 m2 hl1 hl2 hnn
    go_enter Tryz.func3, Tryz.ntmps3
    go_wp2_with (fail)
    refine HM.out.mono ?_
    rintro e W ⟨rfl, hb⟩
    have HB := Lib.hid hb
    clear hb
    go_wp2_with (fail)
    refine (HA.out W HB.out).mono ?_
    rintro e W2 ⟨rfl, hb2⟩
    have HB2 := Lib.hid (bstep HB.out hb2)
    clear hb2
    go_wp2_with (fail)
    go_ret
    exact ⟨rfl, HB2.out⟩
  subst hnn
  have d1 : ((n2 : Int) != (n2 : Int)) = false := by simp
  have HX1 := Lib.hid h1
  have HX2 := Lib.hid h2
  have HL1 := Lib.hid hl1
  have HL2 := Lib.hid hl2
  have M1 := Lib.hid (show n2 ≤ 12 by omega)
  have hn12 : n2 ≤ 12 := M1.out
  have M2 := Lib.hid m2
  have HSL := Lib.hid hsec
  have HU := Lib.hid (show ∀ u ∈ us, 0 ≤ u ∧ u ≤ 255 from fun u hu => by
    obtain ⟨k, hk⟩ := List.getElem?_of_mem hu
    obtain ⟨_, _, _, _, _, hr⟩ := h2.cells k u hk
    exact hr.2)
  clear hm h1 h2 m1 m2 hl1 hl2 hsec
  obtain ⟨base, hbase⟩ : ∃ b, w.heap.size = b := ⟨_, rfl⟩
  have HBS := Lib.hid hbase
  clear hbase
  go_enter Tryz.func3, Tryz.ntmps3
  go_wp2_with (fail)
  refine HM.out.mono ?_
  rintro e W ⟨rfl, hb⟩
  have HB := Lib.hid (show Below base w W by rw [← HBS.out]; exact hb)
  clear hb HM
  go_wp2_with (fail)
  go_loopw [29, 7] (fun iv ov wr => ∃ i : Nat, i ≤ n2 ∧ iv = .int .i64 i ∧ OwnI 3 wr base ov (atL (us.take i)) ∧ Below base w wr) (fun iv _ _ => n2 - (intOf iv).toNat)
  case atStart => exact ⟨0, Nat.zero_le _, rfl, OwnI.nil _ _ _, HB.out⟩
  case round =>
    obtain ⟨wi, rfl⟩ : ∃ wi : World, wi = wr := ⟨_, rfl⟩
    obtain ⟨i, hile, rfl, ho, hb⟩ := hrel
    have HO := Lib.hid ho
    have HB := Lib.hid hb
    have HSZ := Lib.hid (show base ≤ wi.heap.size by have := hb.size; have := HBS.out; omega)
    by_cases hin : i < n2
    · obtain ⟨x, b, off, v, hx, rfl, hcv, ⟨rfl, hx0, hx1⟩⟩ := Sl.at HX2.out hin
      replace hcv := Go.Ap.cell_kept (Nat.le_of_eq HBS.out) hb hcv
      have HSN := Lib.hid (show atL (us.take (i + 1)) = atL (us.take i) ++ [1 + x] by unfold atL; rw [take_snoc hx, List.map_append]; rfl)
      have HLN := Lib.hid (show (atL (us.take i)).length ≤ 12 by unfold atL; rw [List.length_map, List.length_take]; have := M1.out; omega)
      have hw1 : IntKind.i64.wrap (1 + x) = 1 + x := IntWalk.i64_in _ (by omega)
      have hw2 : wrap64 (1 + x) = 1 + x := IntWalk.wrap64_in _ (by omega)
      have HI := Lib.hid (show I64 (1 + x) from ⟨by omega, by omega⟩)
      have i1 : (i : Int) < (n2 : Int) := by omega
      have HNW := Lib.hid (show ∀ (j : Nat) (u : Value), [.int .i64 (1 + x)][j]? = some u → (wi.alloc (.cells #[.int .i64 (1 + x)] 3)).cell? ((⟨wi.heap.size, 0, none⟩ : Addr).add j) = some u from World.news_of_block (cs := #[.int .i64 (1 + x)]) (heap_fresh rfl))
      clear hx ho hb
      go_wp2_with (at_builtin; refine wpList_append_own _ rfl _ _ 26 rfl base 3 i0 (.int .i64 0) 1 8 Tryz.underlying26 hi hz0 hz1 hz2 rfl (by decide) _ _ _ rfl (HO.out.1.alloc _) ⟨wi.heap.size, 0, none⟩ 1 1 [.int .i64 (1 + x)] rfl rfl HNW.out (by simp [Value.oneCell']) (by have := HLN.out; unfold maxLen; omega) (by have := HLN.out; omega) (by have := HSZ.out; simp; omega) ?_)
      intro v' w9 hown' hgr' _
      have HO9 := Lib.hid (show OwnI 3 w9 base v' (atL (us.take (i + 1))) by rw [HSN.out]; exact HO.out.push1 HI.out hown')
      have HB9 := Lib.hid ((HB.out.alloc HSZ.out _).grown hgr' (by have := HSZ.out; simp; omega) (fun k hk => (HO.out.1.lt k hk).1))
      clear hown' hgr' hw1 hw2
      go_wp2_with (fail)
      go_roundw
      case rel => exact ⟨i + 1, by omega, by simp, HO9.out, HB9.out⟩
      case measure => simp [intOf]; omega
    · obtain rfl : n2 = i := by omega
      rw [List.take_of_length_le (Nat.le_of_eq HL2.out)] at ho
      have hal : (atL us).length = n2 := by unfold atL; rw [List.length_map]; exact HL2.out
      obtain ⟨a5, c5, rfl, hi5⟩ := ho.ints (by have := M1.out; omega)
      rw [hal] at hi5 ⊢
      have HI5 := Lib.hid hi5
      have HX1i := Lib.hid (HX1.out.mono (Nat.le_of_eq HBS.out) hb)
      have HWO := Lib.hid (wordsP sec ws (atL us) a1 n2 c1 a5 n2 c5 wi HX1i.out hi5 (by have := HSL.out; omega) (fun s hs => by have := M2.out s hs; omega))
      have HLO := Lib.hid (show ((atL us).any fun n => !lineOk n) = false by
        rw [List.any_eq_false]
        intro y hy
        obtain ⟨u, hu, rfl⟩ := List.mem_map.1 hy
        have := HU.out u hu
        unfold lineOk
        simp
        omega)
      have HAL := Lib.hid hal
      have hwc : wordsC sec ws (atL us) = if nameB sec = false then 14 else 0 := by
        unfold wordsC
        rw [HLO.out, if_neg (show ¬4096 < ws.length by have := M1.out; have := HL1.out; omega), if_neg (show ¬(atL us).length ≠ ws.length by rw [hal, HL1.out]; simp)]
        rfl
      rw [hwc] at HWO
      clear ho hi5 hwc hal HO
      cases hnm : nameB sec
      · rw [hnm, if_pos rfl] at HWO
        have HN := Lib.hid (fun W => nameR sec W (by have := HSL.out; omega))
        rw [hnm] at HN
        clear hnm hb
        go_wp2_with (fail)
        refine HWO.out.mono ?_
        rintro e W5 ⟨u, rfl, _, hu, hb5⟩
        obtain rfl := hu (by decide)
        have HB5 := Lib.hid (HB.out.trans (hb5.mono HSZ.out))
        clear hb5
        go_wp2_with (fail)
        refine (HN.out W5).mono ?_
        rintro e W6 ⟨rfl, hb6⟩
        have HB6 := Lib.hid (HB5.out.trans (hb6.mono (by have := HB5.out.size; have := HBS.out; omega)))
        clear hb6
        go_wp2_with (fail)
        refine (HA.out W6 (by rw [HBS.out]; exact HB6.out)).mono ?_
        rintro e W7 ⟨rfl, hb7⟩
        have HB7 := Lib.hid (HB6.out.trans (hb7.mono (by have := HB6.out.size; have := HBS.out; omega)))
        clear hb7
        go_wp2_with (fail)
        go_ret
        exact ⟨rfl, by rw [HBS.out]; exact HB7.out⟩
      · rw [hnm] at HWO
        simp only [Bool.true_eq_false, if_false] at HWO
        clear hnm hb
        go_wp2_with (fail)
        refine HWO.out.mono ?_
        rintro e W5 ⟨u, rfl, hg, _, hb5⟩
        obtain ⟨a6, c6, rfl, hpo, _⟩ := hg rfl
        have HB5 := Lib.hid (HB.out.trans (hb5.mono HSZ.out))
        have HX15 := Lib.hid (HX1i.out.mono (Nat.le_refl _) hb5)
        have HI55 := Lib.hid (HI5.out.mono (Nat.le_refl _) hb5)
        have HPO := Lib.hid hpo
        have HZ5 := Lib.hid (show base ≤ W5.heap.size by have := HB5.out.size; have := HBS.out; omega)
        obtain ⟨ps, hps⟩ : ∃ ps, ws.zip (atL us) = ps := ⟨_, rfl⟩
        rw [hps] at HPO
        have HPS := Lib.hid hps
        have HPL := Lib.hid (show ps.length = n2 by rw [← hps, List.length_zip, HAL.out, HL1.out, Nat.min_self])
        obtain ⟨m, hm⟩ : ∃ m, (idxM mkB (wordsEs sec ps)).length = m := ⟨_, rfl⟩
        rw [hm] at HPO
        simp only [hps, hm]
        have HML := Lib.hid hm
        obtain ⟨bm, hbm⟩ : ∃ b, W5.heap.size = b := ⟨_, rfl⟩
        have HBM := Lib.hid hbm
        have HG0 := Lib.hid (show MapH tPl (W5.alloc (.map #[] 0)) bm 0 (wantF (ps.take 0)) by
          rw [← hbm]
          exact (MapH.made W5).ext fun s => by simp [wantF])
        have HB50 := Lib.hid (show Below bm W5 (W5.alloc (.map #[] 0)) by rw [← hbm]; exact balloc _ _)
        have hmm := @run_makeMap Tryz.prog
        clear hg hpo hb5 hps hm hbm HWO
        go_wp2_with (fail)
        rw [HBM.out]
        clear hmm
        go_loopw [66] (fun iv wr => ∃ i : Nat, i ≤ n2 ∧ iv = .int .i64 i ∧ MapH tPl wr bm i (wantF (ps.take i)) ∧ Below bm W5 wr) (fun iv _ => n2 - (intOf iv).toNat)
        case atStart => exact ⟨0, Nat.zero_le _, rfl, HG0.out, HB50.out⟩
        case round =>
          obtain ⟨wj, rfl⟩ : ∃ wj : World, wj = wr := ⟨_, rfl⟩
          obtain ⟨i, hile, rfl, hG, hb⟩ := hrel
          have HB1 := Lib.hid hb
          have HG := Lib.hid hG
          have HZ := Lib.hid (show bm ≤ wj.heap.size by have := hb.size; have := HBM.out; omega)
          by_cases hin : i < n2
          · obtain ⟨x, b, off, v, hx, rfl, hcv, rfl, _⟩ := Sl.at HX15.out hin
            unfold sv at hcv
            obtain ⟨y, b2, off2, v2, hy, rfl, hcy, rfl, hiy⟩ := Sl.at HI55.out hin
            replace hcv := Go.Ap.cell_kept (Nat.le_of_eq HBM.out) hb hcv
            have HCY := Lib.hid hcy
            have hpi : ps[i]? = some (x, y) := by rw [← HPS.out]; exact zip_at hx hy
            have hxm := List.mem_of_getElem? hx
            have HSN := Lib.hid (wantF_snoc hpi)
            have HXL := Lib.hid (M2.out x hxm)
            have HIY := Lib.hid hiy
            have HWR := Lib.hid (isWordR x wj (by have := M2.out x hxm; omega))
            have HIN := Lib.hid (List.mem_of_getElem? hpi)
            have i1 : (i : Int) < (n2 : Int) := by omega
            cases hword : isWordB x
            · rw [hword] at HWR
              have HS2 := Lib.hid (show wantF (ps.take (i + 1)) = wantF (ps.take i) by rw [HSN.out, if_neg (by simp [hword])])
              clear hx hy hcy hiy hpi hxm hword hb hG
              go_wp2_with (fail)
              refine HWR.out.mono ?_
              rintro e W6 ⟨rfl, hb6⟩
              have HB6 := Lib.hid (HB1.out.trans (hb6.mono HZ.out))
              have HG6 := Lib.hid ((HG.out.below hb6).mono (Nat.le_succ i))
              clear hb6
              go_wp2_with (fail)
              exact ⟨⟨i + 1, by omega, by simp, by rw [HS2.out]; exact HG6.out, HB6.out⟩, by simp [intOf]; omega⟩
            · rw [hword] at HWR
              have HS2 := Lib.hid (show wantF (ps.take (i + 1)) = updV (wantF (ps.take i)) (x, y) (.bool true) by rw [HSN.out, if_pos hword])
              have HHB := Lib.hid (show hasB (idxM mkB (wordsEs sec ps)) x sec y = true from hasB_idx (wordsEs_mem.2 ⟨_, HIN.out, hword, rfl⟩))
              clear hx hy hcy hiy hpi hxm hword hb hG
              go_wp2_with (fail)
              refine HWR.out.mono ?_
              rintro e W6 ⟨rfl, hb6⟩
              have HB6 := Lib.hid (HB1.out.trans (hb6.mono HZ.out))
              have HZ6 := Lib.hid (show bm ≤ W6.heap.size by have := hb6.size; have := HZ.out; omega)
              obtain ⟨W7, hu7, hm7, hg7⟩ := MapH.store (T := tPl) (s := (x, y)) (HG.out.below hb6) (by unfold maxLen; have := M1.out; omega) ⟨Nat.le_trans HXL.out (by decide), HIY.out⟩ (.bool true)
              replace hu7 : (Instr.mapUpdate 32 (.map (some bm)) (.agg #[.string (bs x), .int .i64 y]) (.bool true)).run Tryz.prog W6 = .ok () W7 := hu7
              have HM7 := Lib.hid (show MapH tPl W7 bm (i + 1) (wantF (ps.take (i + 1))) by rw [HS2.out]; exact hm7)
              have HB7 := Lib.hid (HB6.out.grown hg7 HZ6.out fun k hk => by cases hk; exact Nat.le_refl _)
              have HZ7 := Lib.hid (show bm ≤ W7.heap.size by have := HB7.out.size; have := HBM.out; omega)
              have y6 := Go.Ap.cell_kept (Nat.le_of_eq HBM.out) HB6.out HCY.out
              have y7 := Go.Ap.cell_kept (Nat.le_of_eq HBM.out) HB7.out HCY.out
              have HHS := Lib.hid (has17 (idxM mkB (wordsEs sec ps)) a6 m c6 x sec y W7 (HPO.out.mono (Nat.le_of_eq HBM.out) HB7.out))
              rw [HHB.out] at HHS
              clear hb6 hm7 hg7
              go_wp2_with (fail)
              clear hu7
              refine HHS.out.mono ?_
              rintro e W8 ⟨rfl, hb8⟩
              have HB8 := Lib.hid (HB7.out.trans (hb8.mono HZ7.out))
              have HM8 := Lib.hid (HM7.out.below hb8)
              clear hb8 y6 y7
              go_wp2_with (fail)
              exact ⟨⟨i + 1, by omega, by simp, HM8.out, HB8.out⟩, by simp [intOf]; omega⟩
          · obtain rfl : n2 = i := by omega
            rw [List.take_of_length_le (Nat.le_of_eq HPL.out)] at hG
            have HMW := Lib.hid hG
            have HLT := Lib.hid hG.lt
            have HMC := Lib.hid (show ∀ (ty : TypeId) (W : World), Below wj.heap.size wj W → (Builtin.len_ #[32] ty #[.map (some bm)]).run Tryz.prog W = .ok (.int .i64 ((wantK ps).length : Nat)) W from fun ty W hb => MapH.count (HMW.out.below hb) (onceL_nodup _) (fun s _ => wantK_mem) (fun s hs => by
              rw [onceL_mem, List.mem_filter] at hs
              have hz := hs.1
              rw [← HPS.out] at hz
              obtain ⟨q1, q2⟩ := List.of_mem_zip hz
              obtain ⟨u, hu, he⟩ := List.mem_map.1 q2
              have := HU.out u hu
              exact ⟨Nat.le_trans (M2.out _ q1) (by decide), by rw [← he]; exact ⟨by omega, by omega⟩⟩) ty)
            have HPOj := Lib.hid (HPO.out.mono (Nat.le_of_eq HBM.out) hb)
            have HIS := Lib.hid (idx_is mkB (wordsEs sec ps))
            have HBW := Lib.hid (HB5.out.trans (hb.mono (by rw [← HBM.out]; exact HZ5.out)))
            have HZW := Lib.hid (show base ≤ wj.heap.size by have := HZ.out; have := HBM.out; have := HZ5.out; omega)
            have hm12 : m ≤ 12 := by have c1 := idx_count mkB (wordsEs sec ps); have c2 := wordsEs_len sec ps; have c3 := HPL.out; have c4 := HML.out; omega
            clear hb hG HG
            go_wp2_with (fail)
            go_loopw [92] (fun iv wr => ∃ i : Nat, i ≤ m ∧ iv = .int .i64 i ∧ Below wj.heap.size wj wr) (fun iv _ => m - (intOf iv).toNat)
            case atStart => exact ⟨0, Nat.zero_le _, rfl, Below.refl _ _⟩
            case round =>
              obtain ⟨wk, rfl⟩ : ∃ wk : World, wk = wr := ⟨_, rfl⟩
              obtain ⟨i, hile, rfl, hb⟩ := hrel
              have HBK := Lib.hid hb
              by_cases hin : i < m
              · obtain ⟨p, bb, off, hp, rfl, a7, k7, e0, e1, e2, hps⟩ := (HPOj.out.mono (Nat.le_refl _) hb).at hin
                obtain ⟨⟨wd, sc⟩, ln⟩ := p
                simp only at e0 e1 e2
                have hpm := List.mem_of_getElem? hp
                have HLS := Lib.hid (HIS.out.lines _ hpm)
                have HNE := Lib.hid (HIS.out.some _ hpm)
                simp only at HLS HNE
                obtain ⟨q, hq⟩ : ∃ q, ln.length = q := ⟨_, rfl⟩
                have HQ := Lib.hid (show 1 ≤ q by rw [← hq]; exact List.length_pos_iff.2 HNE.out)
                rw [hq] at e2
                obtain ⟨X, hX⟩ : ∃ X, wk.heap.size = X := ⟨_, rfl⟩
                obtain ⟨W3, hW3⟩ : ∃ W, wk.alloc (.cells #[.string (bs wd), .string (bs sc), .slice a7 q k7] 37) = W := ⟨_, rfl⟩
                have hb3 : Below wk.heap.size wk W3 := by rw [← hW3]; exact balloc _ _
                have HK3 := Lib.hid (show BlkK W3 X #[.string (bs wd), .string (bs sc), .slice a7 q k7] 37 by rw [← hW3, ← hX]; exact BlkK.new _ _ _)
                have HX0 := Lib.hid (HK3.out.cell (i := 0) (u := .string (bs wd)) rfl)
                have HX2 := Lib.hid (HK3.out.cell (i := 2) (u := .slice a7 q k7) rfl)
                have HB3 := Lib.hid (bstep hb hb3)
                have HZ3 := Lib.hid (show wj.heap.size ≤ W3.heap.size by have := hb3.size; have := hb.size; omega)
                have HSO := Lib.hid (fun W (hw : Below W3.heap.size W3 W) => sorted19 ln a7 q k7 W (by have := (hps.lines.mono (Nat.le_refl _) hb3).mono (Nat.le_refl _) hw; rwa [hq] at this) HQ.out HLS.out)
                have i1 : (i : Int) < (m : Int) := by omega
                rcases Nat.eq_zero_or_pos i with hz | hz
                · subst hz
                  have g1 : decide ((0 : Int) < ((0 : Nat) : Int)) = false := by simp
                  rw [Nat.zero_mul, Nat.add_zero] at e0 e1 e2
                  clear hp hps hq hb hb3 hpm
                  go_wp2_with (fail)
                  refine (wpIn_wide (n := 20)).1 ?_
                  refine wpIn_region_planN (fun W' => Below W3.heap.size W3 W') (.take 0 <| .take 1 <| .take 2 <| .take 3 <| .take 4 <| .take 5 <| .take 6 <| .take 7 <| .take 8 <| .take 9 <| .take 10 <| .take 11 <| .take 12 <| .take 13 <| .take 14 <| .take 15 <| .take 16 <| .one 17 <| .take 18 <| .take 19 .fin) (fun _ => trivial) (by kernel_rfl) (by kernel_rfl) (show Below _ W3 _ from bdrewN _ 1) ?_
                  have HSX := Lib.hid (show Below W3.heap.size W3 W3.drew from bdrewN _ 1)
                  apply plan_take rfl rfl (by rfl)
                  case hy =>
                    rintro W' hb'
                    clear hb'
                    go_simp
                    first | done | with_reducible rfl
                  simp only [List.setIfInBounds_toArray, List.set_cons_zero, List.set_cons_succ]
                  apply plan_take rfl rfl (by rfl)
                  case hy =>
                    rintro W' hb'
                    clear hb'
                    go_simp
                    first | done | with_reducible rfl
                  simp only [List.setIfInBounds_toArray, List.set_cons_zero, List.set_cons_succ]
                  apply plan_take rfl rfl (by rfl)
                  case hy =>
                    rintro W' hb'
                    clear hb'
                    go_simp
                    first | done | with_reducible rfl
                  simp only [List.setIfInBounds_toArray, List.set_cons_zero, List.set_cons_succ]
                  apply plan_no (j := 2) (t := 99) (b := false) (c := true) rfl rfl rfl rfl rfl (by simp) rfl
                  simp only [List.setIfInBounds_toArray, List.set_cons_zero, List.set_cons_succ]
                  apply plan_no (j := 2) (t := 99) (b := false) (c := true) rfl rfl rfl rfl rfl (by simp) rfl
                  simp only [List.setIfInBounds_toArray, List.set_cons_zero, List.set_cons_succ]
                  apply plan_no (j := 2) (t := 99) (b := false) (c := true) rfl rfl rfl rfl rfl (by simp) rfl
                  simp only [List.setIfInBounds_toArray, List.set_cons_zero, List.set_cons_succ]
                  apply plan_no (j := 2) (t := 99) (b := false) (c := true) rfl rfl rfl rfl rfl (by simp) rfl
                  simp only [List.setIfInBounds_toArray, List.set_cons_zero, List.set_cons_succ]
                  apply plan_no (j := 2) (t := 99) (b := false) (c := true) rfl rfl rfl rfl rfl (by simp) rfl
                  simp only [List.setIfInBounds_toArray, List.set_cons_zero, List.set_cons_succ]
                  apply plan_no (j := 2) (t := 99) (b := false) (c := true) rfl rfl rfl rfl rfl (by simp) rfl
                  simp only [List.setIfInBounds_toArray, List.set_cons_zero, List.set_cons_succ]
                  apply plan_no (j := 2) (t := 99) (b := false) (c := true) rfl rfl rfl rfl rfl (by simp) rfl
                  simp only [List.setIfInBounds_toArray, List.set_cons_zero, List.set_cons_succ]
                  apply plan_no (j := 2) (t := 99) (b := false) (c := true) rfl rfl rfl rfl rfl (by simp) rfl
                  simp only [List.setIfInBounds_toArray, List.set_cons_zero, List.set_cons_succ]
                  apply plan_no (j := 2) (t := 99) (b := false) (c := true) rfl rfl rfl rfl rfl (by simp) rfl
                  simp only [List.setIfInBounds_toArray, List.set_cons_zero, List.set_cons_succ]
                  apply plan_no (j := 2) (t := 99) (b := false) (c := true) rfl rfl rfl rfl rfl (by simp) rfl
                  simp only [List.setIfInBounds_toArray, List.set_cons_zero, List.set_cons_succ]
                  apply plan_take rfl rfl (by rfl)
                  case hy =>
                    rintro W' hb'
                    clear hb'
                    go_simp
                    first | done | with_reducible rfl
                  simp only [List.setIfInBounds_toArray, List.set_cons_zero, List.set_cons_succ]
                  apply plan_take rfl rfl (by rfl)
                  case hy =>
                    rintro W' hb'
                    clear hb'
                    go_simp
                    first | done | with_reducible rfl
                  simp only [List.setIfInBounds_toArray, List.set_cons_zero, List.set_cons_succ]
                  apply plan_gd (j := 14) (t := 111) (b := false) (c := false) rfl rfl rfl rfl rfl (by simp) rfl
                  case hy =>
                    rintro W' hb'
                    clear hb'
                    go_simp
                    first | done | with_reducible rfl
                  simp only [List.setIfInBounds_toArray, List.set_cons_zero, List.set_cons_succ]
                  apply plan_gd (j := 14) (t := 111) (b := false) (c := false) rfl rfl rfl rfl rfl (by simp) rfl
                  case hy =>
                    rintro W' hb'
                    have e0 := cell_keep hb' HX0.out
                    have e2 := cell_keep hb' HX2.out
                    clear hb'
                    go_simp
                    first | done | with_reducible rfl
                  simp only [List.setIfInBounds_toArray, List.set_cons_zero, List.set_cons_succ]
                  refine plan_one rfl ?_
                  gi_wp2_with (fail)
                  refine ⟨trivial, (callsIn_wide.2 (HSO.out _ HSX.out)).mono ?_⟩
                  rintro e W9 ⟨rfl, hb9⟩
                  have HSX := Lib.hid (bstep HSX.out hb9)
                  clear hb9
                  gi_wp2_with (fail)
                  refine ⟨HSX.out, ?_⟩
                  apply plan_gd (j := 14) (t := 111) (b := false) (c := false) rfl rfl rfl rfl rfl (by simp) rfl
                  case hy =>
                    rintro W' hb'
                    clear hb'
                    go_simp
                    first | done | with_reducible rfl
                  simp only [List.setIfInBounds_toArray, List.set_cons_zero, List.set_cons_succ]
                  apply plan_take rfl rfl (by rfl)
                  case hy =>
                    rintro W' hb'
                    clear hb'
                    go_simp
                    first | done | with_reducible rfl
                  simp only [List.setIfInBounds_toArray, List.set_cons_zero, List.set_cons_succ]
                  refine plan_fin ?_
                  gi_wp2_with (fail)
                  go_wp2_with (fail)
                  go_roundw
                  case rel => exact ⟨0 + 1, by omega, by simp, HB3.out.trans (HSX.out.mono HZ3.out)⟩
                  case measure => simp [intOf]; omega
                · obtain ⟨j, rfl⟩ : ∃ j, i = j + 1 := ⟨i - 1, by omega⟩
                  obtain ⟨p', bb', off', hp', he', a8, k8, f0, _, _, hps'⟩ := (HPOj.out.mono (Nat.le_refl _) hb).at (show j < m by omega)
                  cases he'
                  obtain ⟨⟨wd', sc'⟩, ln'⟩ := p'
                  simp only at f0
                  have HD := Lib.hid (idx_dict hp' hp)
                  simp only at HD
                  have HPV := Lib.hid (cell_keep hb3 f0)
                  have hl1 : wd.length ≤ 65536 := by
                    obtain ⟨mm, hmm⟩ := (heads_mem _ (wd, sc)).1 (List.mem_map.2 ⟨_, hpm, rfl⟩)
                    obtain ⟨z, hz, _, he⟩ := wordsEs_mem.1 hmm
                    rw [← HPS.out] at hz
                    have := M2.out _ (List.of_mem_zip hz).1
                    have e9 := (Prod.mk.inj (Prod.mk.inj he).1).1
                    rw [e9]; omega
                  have hl2 : wd'.length ≤ 65536 := by
                    obtain ⟨mm, hmm⟩ := (heads_mem _ (wd', sc')).1 (List.mem_map.2 ⟨_, List.mem_of_getElem? hp', rfl⟩)
                    obtain ⟨z, hz, _, he⟩ := wordsEs_mem.1 hmm
                    rw [← HPS.out] at hz
                    have := M2.out _ (List.of_mem_zip hz).1
                    have e9 := (Prod.mk.inj (Prod.mk.inj he).1).1
                    rw [e9]; omega
                  obtain ⟨cm, hcm⟩ : ∃ cm, dictM mkB wd' wd = cm := ⟨_, rfl⟩
                  rw [hcm] at HD
                  have HCM := Lib.hid (fun W (_ : Below W3.heap.size W3 W) => by have := compareR wd' wd W hl2 hl1; rwa [hcm] at this)
                  have g1 : decide ((0 : Int) < (j : Int) + 1) = true := by rw [decide_eq_true_eq]; omega
                  have g2 : decide ((0 : Int) ≤ cm) = false := by rw [decide_eq_false_iff_not]; have := HD.out; omega
                  have hjm : (j : Int) ≤ 4611686018427387903 := by omega
                  have v1 : IntKind.i64.wrap (j : Int) = (j : Int) := IntWalk.i64_in _ (by omega)
                  have v2 : (j : Int) < (m : Int) := by omega
                  have v3 : (0 : Int) ≤ (j : Int) := by omega
                  clear hp hps hq hb hb3 hpm hp' hps' hcm hl1 hl2 hz f0
                  go_wp2_with (fail)
                  refine (wpIn_wide (n := 20)).1 ?_
                  refine wpIn_region_planN (fun W' => Below W3.heap.size W3 W') (.take 0 <| .take 1 <| .take 2 <| .take 3 <| .take 4 <| .take 5 <| .take 6 <| .take 7 <| .take 8 <| .take 9 <| .take 10 <| .one 11 <| .take 12 <| .take 13 <| .take 14 <| .take 15 <| .take 16 <| .one 17 <| .take 18 <| .take 19 .fin) (fun _ => trivial) (by kernel_rfl) (by kernel_rfl) (show Below _ W3 _ from bdrewN _ 1) ?_
                  have HSX := Lib.hid (show Below W3.heap.size W3 W3.drew from bdrewN _ 1)
                  apply plan_take rfl rfl (by rfl)
                  case hy =>
                    rintro W' hb'
                    clear hb'
                    go_simp
                    first | done | with_reducible rfl
                  simp only [List.setIfInBounds_toArray, List.set_cons_zero, List.set_cons_succ]
                  apply plan_take rfl rfl (by rfl)
                  case hy =>
                    rintro W' hb'
                    clear hb'
                    go_simp
                    first | done | with_reducible rfl
                  simp only [List.setIfInBounds_toArray, List.set_cons_zero, List.set_cons_succ]
                  apply plan_take rfl rfl (by rfl)
                  case hy =>
                    rintro W' hb'
                    clear hb'
                    go_simp
                    first | done | with_reducible rfl
                  simp only [List.setIfInBounds_toArray, List.set_cons_zero, List.set_cons_succ]
                  apply plan_gd (j := 2) (t := 99) (b := true) (c := true) rfl rfl rfl rfl rfl (by simp) rfl
                  case hy =>
                    rintro W' hb'
                    clear hb'
                    go_simp
                    first | done | with_reducible rfl
                  simp only [List.setIfInBounds_toArray, List.set_cons_zero, List.set_cons_succ]
                  apply plan_gd (j := 2) (t := 99) (b := true) (c := true) rfl rfl rfl rfl rfl (by simp) rfl
                  case hy =>
                    rintro W' hb'
                    clear hb'
                    go_simp
                    first | done | with_reducible rfl
                  simp only [List.setIfInBounds_toArray, List.set_cons_zero, List.set_cons_succ]
                  apply plan_gd (j := 2) (t := 99) (b := true) (c := true) rfl rfl rfl rfl rfl (by simp) rfl
                  case hy =>
                    rintro W' hb'
                    clear hb'
                    go_simp
                    first | done | with_reducible rfl
                  simp only [List.setIfInBounds_toArray, List.set_cons_zero, List.set_cons_succ]
                  apply plan_gd (j := 2) (t := 99) (b := true) (c := true) rfl rfl rfl rfl rfl (by simp) rfl
                  case hy =>
                    rintro W' hb'
                    clear hb'
                    go_simp
                    first | done | with_reducible rfl
                  simp only [List.setIfInBounds_toArray, List.set_cons_zero, List.set_cons_succ]
                  apply plan_gd (j := 2) (t := 99) (b := true) (c := true) rfl rfl rfl rfl rfl (by simp) rfl
                  case hy =>
                    rintro W' hb'
                    clear hb'
                    go_simp
                    first | done | with_reducible rfl
                  simp only [List.setIfInBounds_toArray, List.set_cons_zero, List.set_cons_succ]
                  apply plan_gd (j := 2) (t := 99) (b := true) (c := true) rfl rfl rfl rfl rfl (by simp) rfl
                  case hy =>
                    rintro W' hb'
                    have e0 := cell_keep hb' HX0.out
                    have e2 := cell_keep hb' HX2.out
                    have e3 := cell_keep hb' HPV.out
                    clear hb'
                    go_simp
                    first | done | with_reducible rfl
                  simp only [List.setIfInBounds_toArray, List.set_cons_zero, List.set_cons_succ]
                  apply plan_gd (j := 2) (t := 99) (b := true) (c := true) rfl rfl rfl rfl rfl (by simp) rfl
                  case hy =>
                    rintro W' hb'
                    clear hb'
                    go_simp
                    first | done | with_reducible rfl
                  simp only [List.setIfInBounds_toArray, List.set_cons_zero, List.set_cons_succ]
                  apply plan_gd (j := 2) (t := 99) (b := true) (c := true) rfl rfl rfl rfl rfl (by simp) rfl
                  case hy =>
                    rintro W' hb'
                    have e0 := cell_keep hb' HX0.out
                    have e2 := cell_keep hb' HX2.out
                    have e3 := cell_keep hb' HPV.out
                    clear hb'
                    go_simp
                    first | done | with_reducible rfl
                  simp only [List.setIfInBounds_toArray, List.set_cons_zero, List.set_cons_succ]
                  refine plan_one rfl ?_
                  gi_wp2_with (fail)
                  refine ⟨trivial, (callsIn_wide.2 (HCM.out _ HSX.out)).mono ?_⟩
                  rintro e W9 ⟨rfl, hb9⟩
                  have HSX := Lib.hid (bstep HSX.out hb9)
                  clear hb9
                  gi_wp2_with (fail)
                  refine ⟨HSX.out, ?_⟩
                  apply plan_gd (j := 2) (t := 99) (b := true) (c := true) rfl rfl rfl rfl rfl (by simp) rfl
                  case hy =>
                    rintro W' hb'
                    clear hb'
                    go_simp
                    first | done | with_reducible rfl
                  simp only [List.setIfInBounds_toArray, List.set_cons_zero, List.set_cons_succ]
                  apply plan_take rfl rfl (by rfl)
                  case hy =>
                    rintro W' hb'
                    clear hb'
                    go_simp
                    first | done | with_reducible rfl
                  simp only [List.setIfInBounds_toArray, List.set_cons_zero, List.set_cons_succ]
                  apply plan_take rfl rfl (by rfl)
                  case hy =>
                    rintro W' hb'
                    clear hb'
                    go_simp
                    first | done | with_reducible rfl
                  simp only [List.setIfInBounds_toArray, List.set_cons_zero, List.set_cons_succ]
                  apply plan_gd (j := 14) (t := 111) (b := false) (c := false) rfl rfl rfl rfl rfl (by simp) rfl
                  case hy =>
                    rintro W' hb'
                    clear hb'
                    go_simp
                    first | done | with_reducible rfl
                  simp only [List.setIfInBounds_toArray, List.set_cons_zero, List.set_cons_succ]
                  apply plan_gd (j := 14) (t := 111) (b := false) (c := false) rfl rfl rfl rfl rfl (by simp) rfl
                  case hy =>
                    rintro W' hb'
                    have e0 := cell_keep hb' HX0.out
                    have e2 := cell_keep hb' HX2.out
                    have e3 := cell_keep hb' HPV.out
                    clear hb'
                    go_simp
                    first | done | with_reducible rfl
                  simp only [List.setIfInBounds_toArray, List.set_cons_zero, List.set_cons_succ]
                  refine plan_one rfl ?_
                  gi_wp2_with (fail)
                  refine ⟨trivial, (callsIn_wide.2 (HSO.out _ HSX.out)).mono ?_⟩
                  rintro e W9 ⟨rfl, hb9⟩
                  have HSX := Lib.hid (bstep HSX.out hb9)
                  clear hb9
                  gi_wp2_with (fail)
                  refine ⟨HSX.out, ?_⟩
                  apply plan_gd (j := 14) (t := 111) (b := false) (c := false) rfl rfl rfl rfl rfl (by simp) rfl
                  case hy =>
                    rintro W' hb'
                    clear hb'
                    go_simp
                    first | done | with_reducible rfl
                  simp only [List.setIfInBounds_toArray, List.set_cons_zero, List.set_cons_succ]
                  apply plan_take rfl rfl (by rfl)
                  case hy =>
                    rintro W' hb'
                    clear hb'
                    go_simp
                    first | done | with_reducible rfl
                  simp only [List.setIfInBounds_toArray, List.set_cons_zero, List.set_cons_succ]
                  refine plan_fin ?_
                  gi_wp2_with (fail)
                  go_wp2_with (fail)
                  go_roundw
                  case rel => exact ⟨j + 1 + 1, by omega, by simp, HB3.out.trans (HSX.out.mono HZ3.out)⟩
                  case measure => simp [intOf]; omega
              · obtain rfl : m = i := by omega
                have HCO := Lib.hid (count20 (idxM mkB (wordsEs sec ps)) a6 m c6 wk (HPOj.out.mono (Nat.le_refl _) hb) (by
                  have c1 := countL_idx (wordsEs sec ps)
                  have c2 := wordsEs_len sec ps
                  have := HPL.out
                  have := M1.out
                  omega))
                rw [wantK_count] at HCO
                obtain ⟨K, hK⟩ : ∃ K, (wantK ps).length = K := ⟨_, rfl⟩
                rw [hK] at HCO HMC
                clear hb hK
                go_wp2_with (fail)
                refine HCO.out.mono ?_
                rintro e W8 ⟨rfl, hb8⟩
                have hlen := fun ty => HMC.out ty W8 (bstep HBK.out hb8)
                have HB8 := Lib.hid (HBW.out.trans ((bstep HBK.out hb8).mono HZW.out))
                clear hb8
                go_wp2_with (fail)
                refine (HA.out W8 (by rw [HBS.out]; exact HB8.out)).mono ?_
                rintro e W9 ⟨rfl, hb9⟩
                have HB9 := Lib.hid (HB8.out.trans (hb9.mono (by have := HB8.out.size; have := HBS.out; omega)))
                clear hb9
                go_wp2_with (fail)
                go_ret
                exact ⟨rfl, by rw [HBS.out]; exact HB9.out⟩
end Go.Proofs.YtngdmpkoedpgdaaGreatDoor
