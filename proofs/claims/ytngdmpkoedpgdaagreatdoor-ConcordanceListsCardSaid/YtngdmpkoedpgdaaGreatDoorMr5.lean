/-
  Merge (reference).
-/
import Derived.Test.YtngdmpkoedpgdaaGreatDoorU8
import Derived.Test.YtngdmpkoedpgdaaGreatDoorAd5
import Derived.Test.YtngdmpkoedpgdaaGreatDoorWo
import Derived.Test.YtngdmpkoedpgdaaGreatDoorIs
namespace Go.Ap
open Go Go.RowKit
theorem idx_side {es : List Entry} (he : ∀ x ∈ es, x.1.1.length ≤ 65536) (hl : es.length ≤ 100000) : ∀ p ∈ idxM mkB es, p.1.1.length ≤ 65536 ∧ p.2 ≠ [] ∧ p.2.length ≤ 1000000 := fun p hp => by
  have H := idx_is mkB es
  have h0 := H.some p hp
  obtain ⟨n, hm⟩ := List.exists_mem_of_ne_nil _ h0
  have h1 := he _ ((H.all p.1 n).2 ⟨p, hp, rfl, hm⟩)
  have a := le_sum hp
  have b := countL_idx es
  exact ⟨h1, h0, by omega⟩
theorem flatE_len (l : List Post) : (flatE l).length = countL l := by
  unfold flatE countL
  induction l with
  | nil => rfl
  | cons p r ih => simp only [List.flatMap_cons, List.length_append, List.length_map, List.map_cons, List.sum_cons, ih]
theorem flatE_pre (t : List Post) (j : Nat) : flatE (t.take j) <+: flatE t := ⟨flatE (t.drop j), by rw [← flatE_app, List.take_append_drop]⟩
theorem flats_pre (ls : List (List Post)) (i : Nat) : flatE (ls.take i).flatten <+: flatE ls.flatten := ⟨flatE (ls.drop i).flatten, by rw [← flatE_app, ← List.flatten_append, List.take_append_drop]⟩
theorem flats_snoc {ls : List (List Post)} {i : Nat} {t : List Post} (h : ls[i]? = some t) : flatE (ls.take (i + 1)).flatten = flatE (ls.take i).flatten ++ flatE t := by
  rw [take_snoc h, List.flatten_append, flatE_app]
  simp
/-- the entries so far -/
def soFar (ls : List (List Post)) (i : Nat) (t : List Post) (j : Nat) (p : Post) (k : Nat) : List Entry := flatE (ls.take i).flatten ++ (flatE (t.take j) ++ (p.2.take k).map fun n => (p.1, n))
theorem soFar_pre {ls : List (List Post)} {i j k : Nat} {t : List Post} {p : Post} (ht : ls[i]? = some t) (hp : t[j]? = some p) : soFar ls i t j p k <+: flatE ls.flatten := by
  have h1 : flatE (t.take j) ++ (p.2.take k).map (fun n => (p.1, n)) <+: flatE (t.take (j + 1)) := by
    rw [flatE_snoc hp]
    refine (List.prefix_append_right_inj _).2 ?_
    exact (List.take_prefix k p.2).map _
  have h2 : soFar ls i t j p k <+: flatE (ls.take (i + 1)).flatten := by
    rw [flats_snoc ht]
    exact (List.prefix_append_right_inj _).2 (h1.trans (flatE_pre t _))
  exact h2.trans (flats_pre ls _)
theorem soFar_next {ls : List (List Post)} {i j k : Nat} {t : List Post} {p : Post} {y : Int} (hy : p.2[k]? = some y) : soFar ls i t j p (k + 1) = soFar ls i t j p k ++ [(p.1, y)] := by
  unfold soFar
  rw [take_snoc hy]
  simp
end Go.Ap
namespace Go.Proofs.YtngdmpkoedpgdaaGreatDoor
open Go.RowKit Go.Ap Go.Shelf Go.Proofs

attribute [local go_sem] Oper.semAt_some bs_toList empty_toList bs_size bs_extract
/-- what lies in the list that grows -/
def OutI (E : List Entry) (ov : Value) (W : World) : Prop := ∃ b o c, ov = .slice (some ⟨b, o, none⟩) (idxM mkB E).length c ∧ Postc W (some ⟨b, o, none⟩) (idxM mkB E).length (idxM mkB E) ∧ (idxM mkB E).length ≤ c
theorem OutI.below {E : List Entry} {ov : Value} {W X : World} (h : OutI E ov W) (hb : Below W.heap.size W X) : OutI E ov X := by
  obtain ⟨b, o, c, e, hp, hc⟩ := h
  exact ⟨b, o, c, e, hp.mono (Nat.le_refl _) hb, hc⟩
set_option maxRecDepth 100000 in
set_option maxHeartbeats 8000000 in
theorem mergeR (ls : List (List Post)) (a : Option Addr) (n c : Nat) (w : World) (h : Posts2 w a n ls) (ht1 : ls.flatten.length ≤ 4096) (ht2 : countL ls.flatten ≤ 100000) (h64 : n ≤ 64) :
    Calls Tryz.prog 52 #[.slice a n c] w fun e w' => WordsA e w w' (mergeC ls) (mergeI ls) := by
  have HX := Lib.hid h
  have HLN := Lib.hid h.len
  have hsm := h.small
  have HF := Lib.hid (show (flatE ls.flatten).length ≤ 100000 by rw [flatE_len]; exact ht2)
  have HH := Lib.hid (show (idxM mkB (flatE ls.flatten)).length ≤ 4096 from Nat.le_trans (heads_le _) ht1)
  have d0 : decide ((64 : Int) < (n : Int)) = false := decide_eq_false (by omega)
  have HC := Lib.hid (show mergeC ls = if (ls.any fun l => !indexB l) = true then 1 else 0 by unfold mergeC; rw [if_neg (by rw [h.len]; omega)])
  obtain ⟨MC, hMC⟩ : ∃ x, mergeC ls = x := ⟨_, rfl⟩
  obtain ⟨MI, hMI⟩ : ∃ x, mergeI ls = x := ⟨_, rfl⟩
  have HMI := Lib.hid hMI
  rw [hMC] at HC ⊢
  rw [hMI]
  clear h ht1 ht2 hMC hMI
  go_enter Tryz.func52, Tryz.ntmps52
  go_wp2_with (fail)
  go_loopw [4] (fun iv wr => ∃ i : Nat, i ≤ n ∧ iv = .int .i64 i ∧ (∀ l ∈ ls.take i, indexB l = true) ∧ Below w.heap.size w wr) (fun iv _ => n - (intOf iv).toNat)
  case atStart => exact ⟨0, Nat.zero_le _, rfl, by simp, Below.refl _ _⟩
  case round =>
    obtain ⟨wi, rfl⟩ : ∃ wi : World, wi = wr := ⟨_, rfl⟩
    obtain ⟨i, hile, rfl, hgood, hb⟩ := hrel
    have HG := Lib.hid hgood
    have HB := Lib.hid hb
    clear hgood
    by_cases hin : i < n
    · obtain ⟨t, b, off, v, ht, rfl, hcv, ⟨a1, n1, c1, rfl, hps⟩⟩ := Sl.at (Posts2.mono HX.out (Nat.le_refl _) hb) hin
      have HI := Lib.hid (indexR t a1 n1 c1 wi hps)
      have HTM := Lib.hid (List.mem_of_getElem? ht)
      have HTK := Lib.hid (take_snoc ht)
      have i1 : (i : Int) < (n : Int) := by omega
      clear ht hps hb
      cases hx : indexB t
      · rw [hx] at HI
        obtain rfl : MC = 1 := by rw [HC.out, if_pos (List.any_eq_true.2 ⟨t, HTM.out, by rw [hx]; rfl⟩)]
        clear hx
        go_wp2_with (fail)
        refine HI.out.mono ?_
        rintro e W5 ⟨rfl, hb5⟩
        have HB5 := Lib.hid (bstep HB.out hb5)
        clear hb5
        go_wp2_with (fail)
        go_ret2
        exact WordsA.bad (by decide) HB5.out
      · rw [hx] at HI
        have HG2 := Lib.hid (show ∀ l ∈ ls.take (i + 1), indexB l = true from fun l hl => by
          rw [HTK.out, List.mem_append, List.mem_singleton] at hl
          rcases hl with hl | rfl
          · exact HG.out l hl
          · exact hx)
        clear hx
        go_wp2_with (fail)
        refine HI.out.mono ?_
        rintro e W5 ⟨rfl, hb5⟩
        have HB5 := Lib.hid (bstep HB.out hb5)
        clear hb5
        go_wp2_with (fail)
        exact ⟨⟨i + 1, by omega, by simp, HG2.out, HB5.out⟩, by simp [intOf]; omega⟩
    · obtain rfl : n = i := by omega
      rw [List.take_of_length_le (Nat.le_of_eq HLN.out)] at HG
      obtain rfl : MC = 0 := by
        rw [HC.out, if_neg]
        intro hh
        obtain ⟨l, hl, hx⟩ := List.any_eq_true.1 hh
        rw [HG.out l hl] at hx
        cases hx
      have HW := Lib.hid (show ∀ x ∈ flatE ls.flatten, x.1.1.length ≤ 64 ∧ x.1.2.length ≤ 16 from fun x hx => by
        obtain ⟨p, hp, hpe, _⟩ := flatE_mem.1 (show (x.1, x.2) ∈ flatE ls.flatten from hx)
        obtain ⟨l, hl, hpl⟩ := List.mem_flatten.1 hp
        have hv := validB_parts ((indexB_valid (HG.out l hl)).2 p hpl)
        rw [← hpe]
        exact ⟨isWordB_64 hv.1, nameB_16 hv.2.1⟩)
      have HSD := Lib.hid (show ∀ E, E <+: flatE ls.flatten → (idxM mkB E).length ≤ 100000 ∧ ∀ p ∈ idxM mkB E, p.1.1.length ≤ 65536 ∧ p.2 ≠ [] ∧ p.2.length ≤ 1000000 from fun E hE => by
        have hl := hE.length_le
        have := HF.out
        exact ⟨Nat.le_trans (idx_count mkB E) (by omega), idx_side (fun x hx => by have := (HW.out x (hE.subset hx)).1; omega) (by omega)⟩)
      clear hb
      go_wp2_with (fail)
      go_loopw [5, 6] (fun ov iv wr => ∃ i : Nat, i ≤ n ∧ iv = .int .i64 i ∧ OutI (flatE (ls.take i).flatten) ov wr ∧ Below w.heap.size w wr) (fun _ iv _ => n - (intOf iv).toNat)
      case atStart => exact ⟨0, Nat.zero_le _, rfl, ⟨_, _, _, rfl, ⟨rfl, by simp [flatE, idxM], fun k x hx => by simp [flatE, idxM] at hx⟩, by simp [flatE, idxM]⟩, bstep HB.out (balloc _ _)⟩
      case round =>
        obtain ⟨wj, rfl⟩ : ∃ wj : World, wj = wr := ⟨_, rfl⟩
        obtain ⟨i, hile, rfl, ho, hb⟩ := hrel
        have HO := Lib.hid ho
        have HB2 := Lib.hid hb
        clear ho
        by_cases hin : i < n
        · obtain ⟨t, b, off, v, ht, rfl, hcv, ⟨a1, n1, c1, rfl, hps⟩⟩ := Sl.at (Posts2.mono HX.out (Nat.le_refl _) hb) hin
          have HT := Lib.hid ht
          have HPT := Lib.hid hps
          have HTN := Lib.hid hps.len
          have hsm1 := hps.small
          have HCV := Lib.hid hcv
          have i1 : (i : Int) < (n : Int) := by omega
          have HBJ := Lib.hid (Below.refl wj.heap.size wj)
          clear ht hps hb hcv
          go_wp2_with (fail)
          go_loopw [5, 7] (fun ov jv wr => ∃ j : Nat, j ≤ n1 ∧ jv = .int .i64 j ∧ OutI (flatE (ls.take i).flatten ++ flatE (t.take j)) ov wr ∧ Below wj.heap.size wj wr) (fun _ jv _ => n1 - (intOf jv).toNat)
          case atStart => exact ⟨0, Nat.zero_le _, rfl, by simpa [flatE] using HO.out, HBJ.out⟩
          case round =>
            obtain ⟨wl, rfl⟩ : ∃ wl : World, wl = wr := ⟨_, rfl⟩
            obtain ⟨j, hjle, rfl, ho, hb⟩ := hrel
            have HO3 := Lib.hid ho
            have HB3 := Lib.hid hb
            have hcv := cell_keep hb HCV.out
            clear ho
            by_cases hjn : j < n1
            · obtain ⟨p, pb, poff, hp, rfl, a2, k1, c0, c1', c2, hpsl⟩ := (HPT.out.mono (Nat.le_refl _) hb).at hjn
              obtain ⟨⟨wd, sc⟩, lines⟩ := p
              have HPP := Lib.hid hp
              have HLS := Lib.hid hpsl.lines
              simp only at c0 c1' c2
              obtain ⟨m, hm⟩ : ∃ m, lines.length = m := ⟨_, rfl⟩
              rw [hm] at c2
              have HM := Lib.hid hm
              have hmsm := hpsl.lines.small
              simp only [hm] at hmsm
              have j1 : (j : Int) < (n1 : Int) := by omega
              obtain ⟨P, hP⟩ : ∃ P, wl.heap.size = P := ⟨_, rfl⟩
              have HPS := Lib.hid hP
              have HPK0 := Lib.hid (show BlkK (wl.alloc (.cells #[.string (bs wd), .string (bs sc), .slice a2 m k1] 37)) P #[.string (bs wd), .string (bs sc), .slice a2 m k1] 37 by rw [← hP]; exact BlkK.new _ _ _)
              have HB4 := Lib.hid (balloc wl (.cells #[.string (bs wd), .string (bs sc), .slice a2 m k1] 37))
              have HO4 := Lib.hid (show OutI (soFar ls i t j ((wd, sc), lines) 0) u5 (wl.alloc (.cells #[.string (bs wd), .string (bs sc), .slice a2 m k1] 37)) by
                have := HO3.out.below HB4.out
                unfold soFar
                simpa using this)
              obtain ⟨wm, hwm⟩ : ∃ W, wl.alloc (.cells #[.string (bs wd), .string (bs sc), .slice a2 m k1] 37) = W := ⟨_, rfl⟩
              rw [hwm] at HPK0 HB4 HO4
              have HPK1 := Lib.hid HPK0.out
              have HWM := Lib.hid hwm
              clear hp hpsl hm hb hP hwm
              go_wp2_with (fail)
              rw [HPS.out, HWM.out]
              go_loopw [5, 9] (fun ov kv wr => ∃ k : Nat, k ≤ m ∧ kv = .int .i64 k ∧ OutI (soFar ls i t j ((wd, sc), lines) k) ov wr ∧ Below wm.heap.size wm wr) (fun _ kv _ => m - (intOf kv).toNat)
              case atStart => exact ⟨0, Nat.zero_le _, rfl, HO4.out, Below.refl _ _⟩
              case round =>
                obtain ⟨wk, rfl⟩ : ∃ wk : World, wk = wr := ⟨_, rfl⟩
                obtain ⟨k, hkle, rfl, ho, hb⟩ := hrel
                obtain ⟨bo, oo, co, rfl, hpo, hco⟩ := ho
                have HPO := Lib.hid hpo
                have HCO := Lib.hid hco
                have HB5 := Lib.hid hb
                have HPK := Lib.hid (HPK1.out.below hb)
                have e2 := HPK.out.cell (i := 2) (u := .slice a2 m k1) rfl
                clear hpo hco
                by_cases hkm : k < m
                · obtain ⟨y, b2, off2, v2, hy, rfl, hcy, rfl, hiy⟩ := Sl.at (HLS.out.mono (Nat.le_refl _) (bstep HB4.out hb)) (show k < lines.length by have := HM.out; omega)
                  have HCY := Lib.hid hcy
                  have HPRE := Lib.hid (soFar_pre (k := k) HT.out HPP.out)
                  have HPRE2 := Lib.hid (soFar_pre (k := k + 1) HT.out HPP.out)
                  have HNX := Lib.hid (show idxM mkB (soFar ls i t j ((wd, sc), lines) (k + 1)) = addF (headM mkB) (idxM mkB (soFar ls i t j ((wd, sc), lines) k)) (wd, sc) y by rw [soFar_next hy, idx_succ])
                  have HWS := Lib.hid (show wd.length ≤ 64 ∧ sc.length ≤ 16 from HW.out ((wd, sc), y) (HPRE2.out.subset (by rw [soFar_next hy]; simp)))
                  have HADD := Lib.hid (fun W (h : Below wk.heap.size wk W) => add104 (idxM mkB (soFar ls i t j ((wd, sc), lines) k)) wd sc y bo oo _ co W (HPO.out.mono (Nat.le_refl _) h) HCO.out (HSD.out _ HPRE.out).1 hiy (by have := HWS.out; omega) (by have := HWS.out; omega) (HSD.out _ HPRE.out).2)
                  have k1' : (k : Int) < (m : Int) := by omega
                  obtain ⟨q, hq⟩ : ∃ q, (idxM mkB (soFar ls i t j ((wd, sc), lines) k)).length = q := ⟨_, rfl⟩
                  simp only [hq] at HADD
                  rw [hq]
                  clear hq hy hb hcy hiy
                  go_wp2_with (fail)
                  refine (wpIn_wide (n := 20)).1 ?_
                  refine wpIn_region_planN (fun W' => Below wk.heap.size wk W') (.take 0 <| .take 1 <| .take 2 <| .take 3 <| .take 4 <| .take 5 <| .take 6 <| .take 7 <| .take 8 <| .take 9 <| .one 10 <| .take 11 .fin) (fun _ => trivial) (by kernel_rfl) (by kernel_rfl) (show Below _ wk _ from bdrewN _ 1) ?_
                  have HSX := Lib.hid (show Below wk.heap.size wk wk.drew from bdrewN _ 1)
                  iterate 2
                    apply plan_take rfl rfl (by rfl)
                    case hy =>
                      rintro W' hb'
                      clear hb'
                      go_simp
                      first | done | with_reducible rfl
                    simp only [List.setIfInBounds_toArray, List.set_cons_zero, List.set_cons_succ]
                  apply plan_take rfl rfl (by rfl)
                  case hy =>
                    rintro W' hb'
                    have f0 := (HPK.out.below hb').cell (i := 0) (u := .string (bs wd)) rfl
                    have f1 := (HPK.out.below hb').cell (i := 1) (u := .string (bs sc)) rfl
                    have f2 := (HPK.out.below hb').cell (i := 2) (u := .slice (some ⟨b2, off2, none⟩) m k1) rfl
                    have f3 := cell_keep hb' HCY.out
                    clear hb'
                    go_simp
                    first | done | with_reducible rfl
                  simp only [List.setIfInBounds_toArray, List.set_cons_zero, List.set_cons_succ]
                  apply plan_take rfl rfl (by rfl)
                  case hy =>
                    rintro W' hb'
                    clear hb'
                    go_simp
                    first | done | with_reducible rfl
                  simp only [List.setIfInBounds_toArray, List.set_cons_zero, List.set_cons_succ]
                  apply plan_take rfl rfl (by rfl)
                  case hy =>
                    rintro W' hb'
                    have f0 := (HPK.out.below hb').cell (i := 0) (u := .string (bs wd)) rfl
                    have f1 := (HPK.out.below hb').cell (i := 1) (u := .string (bs sc)) rfl
                    have f2 := (HPK.out.below hb').cell (i := 2) (u := .slice (some ⟨b2, off2, none⟩) m k1) rfl
                    have f3 := cell_keep hb' HCY.out
                    clear hb'
                    go_simp
                    first | done | with_reducible rfl
                  simp only [List.setIfInBounds_toArray, List.set_cons_zero, List.set_cons_succ]
                  apply plan_take rfl rfl (by rfl)
                  case hy =>
                    rintro W' hb'
                    clear hb'
                    go_simp
                    first | done | with_reducible rfl
                  simp only [List.setIfInBounds_toArray, List.set_cons_zero, List.set_cons_succ]
                  apply plan_take rfl rfl (by rfl)
                  case hy =>
                    rintro W' hb'
                    have f0 := (HPK.out.below hb').cell (i := 0) (u := .string (bs wd)) rfl
                    have f1 := (HPK.out.below hb').cell (i := 1) (u := .string (bs sc)) rfl
                    have f2 := (HPK.out.below hb').cell (i := 2) (u := .slice (some ⟨b2, off2, none⟩) m k1) rfl
                    have f3 := cell_keep hb' HCY.out
                    clear hb'
                    go_simp
                    first | done | with_reducible rfl
                  simp only [List.setIfInBounds_toArray, List.set_cons_zero, List.set_cons_succ]
                  iterate 2
                    apply plan_take rfl rfl (by rfl)
                    case hy =>
                      rintro W' hb'
                      clear hb'
                      go_simp
                      first | done | with_reducible rfl
                    simp only [List.setIfInBounds_toArray, List.set_cons_zero, List.set_cons_succ]
                  apply plan_take rfl rfl (by rfl)
                  case hy =>
                    rintro W' hb'
                    have f0 := (HPK.out.below hb').cell (i := 0) (u := .string (bs wd)) rfl
                    have f1 := (HPK.out.below hb').cell (i := 1) (u := .string (bs sc)) rfl
                    have f2 := (HPK.out.below hb').cell (i := 2) (u := .slice (some ⟨b2, off2, none⟩) m k1) rfl
                    have f3 := cell_keep hb' HCY.out
                    clear hb'
                    go_simp
                    first | done | with_reducible rfl
                  simp only [List.setIfInBounds_toArray, List.set_cons_zero, List.set_cons_succ]
                  refine plan_one rfl ?_
                  gi_wp2_with (fail)
                  refine ⟨trivial, (callsIn_wide.2 (HADD.out _ HSX.out)).mono ?_⟩
                  rintro e W9 ⟨b9, o9, c9, rfl, hp9, hc9, hb9⟩
                  have HP9 := Lib.hid hp9
                  have HC9 := Lib.hid hc9
                  have HSX := Lib.hid (bstep HSX.out hb9)
                  clear hp9 hc9 hb9
                  gi_wp2_with (fail)
                  refine ⟨HSX.out, ?_⟩
                  apply plan_take rfl rfl (by rfl)
                  case hy =>
                    rintro W' hb'
                    clear hb'
                    go_simp
                    first | done | with_reducible rfl
                  simp only [List.setIfInBounds_toArray, List.set_cons_zero, List.set_cons_succ]
                  refine plan_fin ?_
                  gi_wp2_with (fail)
                  go_wp2_with (fail)
                  go_roundw
                  case rel => exact ⟨k + 1, by omega, by simp, ⟨b9, o9, c9, by rw [HNX.out], by rw [HNX.out]; exact HP9.out, by rw [HNX.out]; exact HC9.out⟩, bstep HB5.out HSX.out⟩
                  case measure => simp [intOf]; omega
                · obtain rfl : m = k := by omega
                  have HE := Lib.hid (show soFar ls i t j ((wd, sc), lines) m = flatE (ls.take i).flatten ++ flatE (t.take (j + 1)) by
                    unfold soFar
                    rw [flatE_snoc HPP.out, List.take_of_length_le (Nat.le_of_eq HM.out)])
                  rw [HE.out] at HPO HCO ⊢
                  clear hb
                  go_wp2_with (fail)
                  exact ⟨⟨j + 1, by omega, by simp, ⟨_, _, _, rfl, HPO.out, HCO.out⟩, bstep HB3.out (bstep HB4.out HB5.out)⟩, by simp [intOf]; omega⟩
            · obtain rfl : n1 = j := by omega
              rw [List.take_of_length_le (Nat.le_of_eq HTN.out), ← flats_snoc HT.out] at HO3
              clear hb
              go_wp2_with (fail)
              exact ⟨⟨i + 1, by omega, by simp, HO3.out, bstep HB2.out HB3.out⟩, by simp [intOf]; omega⟩
        · obtain rfl : n = i := by omega
          rw [List.take_of_length_le (Nat.le_of_eq HLN.out)] at HO
          obtain ⟨bo, oo, co, rfl, hpo, hco⟩ := HO.out
          have HPO := Lib.hid hpo
          have HCO := Lib.hid hco
          obtain rfl : MI = idxM mkB (flatE ls.flatten) := HMI.out.symm
          obtain ⟨q, hq⟩ : ∃ q, (idxM mkB (flatE ls.flatten)).length = q := ⟨_, rfl⟩
          have HQ := Lib.hid hq
          have hq4 : q ≤ 4096 := by rw [← hq]; exact HH.out
          rw [hq]
          have d4 : decide ((4096 : Int) < (q : Int)) = false := decide_eq_false (by omega)
          clear hpo hco hb hq
          go_wp2_with (fail)
          go_ret2
          exact ⟨_, rfl, fun _ => ⟨_, _, by rw [HQ.out]; rfl, HPO.out.plain, HCO.out⟩, fun h => absurd rfl h, HB2.out⟩
end Go.Proofs.YtngdmpkoedpgdaaGreatDoor
