import Derived.Test.YtngdmpkoedpgdaaGreatDoorAd5
import Derived.Test.YtngdmpkoedpgdaaGreatDoorWo
import Derived.Test.YtngdmpkoedpgdaaGreatDoorIs
import Derived.Test.YtngdmpkoedpgdaaGreatDoorNa5
import Derived.Test.YtngdmpkoedpgdaaGreatDoorRc

/-
  Words of the reference: bad arguments.
-/


namespace Go.Proofs.YtngdmpkoedpgdaaGreatDoor
open Go.RowKit Go.Ap Go.Shelf Go.Proofs

attribute [local go_sem] Oper.semAt_some bs_toList empty_toList bs_size bs_extract
set_option maxRecDepth 100000 in
set_option maxHeartbeats 4000000 in
theorem wordsRBad (sec : Str) (ws : List Str) (ls : List Int) (a1 : Option Addr) (n1 c1 : Nat) (a2 : Option Addr) (n2 c2 : Nat) (w : World) (h1 : StrsL w a1 n1 ws) (h2 : Ints w a2 n2 ls) (hs : sec.length ≤ 4611686018427387903) (l : List Post) (hc : wordsC sec ws ls ≠ 0) :
    Calls Tryz.prog 44 #[.string (bs sec), .slice a1 n1 c1, .slice a2 n2 c2] w fun e w' => WordsA e w w' (wordsC sec ws ls) l := by
  have HN := Lib.hid (nameR sec w hs)
  have HX2 := Lib.hid h2
  have e1 := h1.len
  have e2 := h2.len
  have hs2 := h2.small
  unfold wordsC at hc ⊢
  rw [e1, e2] at hc ⊢
  clear h1 h2 e1
  cases hnm : nameB sec
  · rw [hnm] at HN
    simp only [if_true]
    clear hnm hc
    go_enter Tryz.func44, Tryz.ntmps44
    go_wp2_with (fail)
    refine HN.out.mono ?_
    rintro e W ⟨rfl, hb⟩
    go_wp2_with (fail)
    go_ret2
    exact WordsA.bad (by decide) hb
  · rw [hnm] at HN hc
    simp only [Bool.true_eq_false, if_false] at hc ⊢
    by_cases g1 : 4096 < n1
    · rw [if_pos g1]
      have d1 : decide ((4096 : Int) < (n1 : Int)) = true := by rw [decide_eq_true_eq]; omega
      clear hnm hc g1
      go_enter Tryz.func44, Tryz.ntmps44
      go_wp2_with (fail)
      refine HN.out.mono ?_
      rintro e W ⟨rfl, hb⟩
      go_wp2_with (fail)
      go_ret2
      exact WordsA.bad (by decide) hb
    · rw [if_neg g1] at hc ⊢
      have d1 : decide ((4096 : Int) < (n1 : Int)) = false := by rw [decide_eq_false_iff_not]; omega
      by_cases g2 : n2 = n1
      · rw [if_neg (fun h => h g2)] at hc ⊢
        have d2 : ((n2 : Int) != (n1 : Int)) = false := by subst g2; simp
        cases hb : ls.any fun n => !lineOk n
        · rw [hb] at hc
          simp at hc
        · rw [if_pos rfl]
          have HBAD := Lib.hid (List.any_eq_true.1 hb)
          have HL := Lib.hid e2
          clear hnm hc g1 hb e2
          go_enter Tryz.func44, Tryz.ntmps44
          go_wp2_with (fail)
          refine HN.out.mono ?_
          rintro e W ⟨rfl, hb⟩
          have HB := Lib.hid hb
          clear hb
          go_wp2_with (fail)
          go_loopw [8] (fun kv wr => ∃ k : Nat, k ≤ n2 ∧ kv = .int .i64 k ∧ Below w.heap.size w wr ∧ ∀ j y, j < k → ls[j]? = some y → lineOk y = true) (fun kv _ => n2 - (intOf kv).toNat)
          case atStart => exact ⟨0, Nat.zero_le _, rfl, HB.out, fun j y hj => absurd hj (Nat.not_lt_zero _)⟩
          case round =>
            obtain ⟨wi, rfl⟩ : ∃ wi : World, wi = wr := ⟨_, rfl⟩
            obtain ⟨k, hk, rfl, hb, hall⟩ := hrel
            have HA := Lib.hid hall
            have HBI := Lib.hid hb
            clear hall
            by_cases hlt : k < n2
            · obtain ⟨y, b2, off2, v2, hy, rfl, hcy, rfl, hiy⟩ := Sl.at (HX2.out.mono (Nat.le_refl _) hb) hlt
              have HY := Lib.hid hy
              have i1 : (k : Int) < (n2 : Int) := by omega
              have i0' : (0 : Int) ≤ (k : Int) := by omega
              clear hy hiy hb
              by_cases g3 : y < 1
              · have d3 : decide (y < 1) = true := decide_eq_true g3
                clear g3
                go_wp2_with (fail)
                go_ret2
                exact WordsA.bad (by decide) HBI.out
              · have d3 : decide (y < 1) = false := decide_eq_false g3
                by_cases g4 : 4096 < y
                · have d4 : decide (4096 < y) = true := decide_eq_true g4
                  clear g3 g4
                  go_wp2_with (fail)
                  go_ret2
                  exact WordsA.bad (by decide) HBI.out
                · have d4 : decide (4096 < y) = false := decide_eq_false g4
                  have HOK := Lib.hid (show lineOk y = true by simp only [lineOk, Bool.and_eq_true, decide_eq_true_eq]; omega)
                  clear g3 g4
                  go_wp2_with (fail)
                  exact ⟨⟨k + 1, by omega, by simp, HBI.out, fun j z hj hz => by
                    by_cases hjk : j = k
                    · subst hjk
                      rw [HY.out] at hz
                      cases hz
                      exact HOK.out
                    · exact HA.out j z (by omega) hz⟩, by simp [intOf]; omega⟩
            · obtain rfl : n2 = k := by omega
              obtain ⟨y, hy, hbad⟩ := HBAD.out
              obtain ⟨j, hj⟩ := List.getElem?_of_mem hy
              have := HA.out j y (by have := (List.getElem?_eq_some_iff.1 hj).1; have := HL.out; omega) hj
              rw [this] at hbad
              cases hbad
      · rw [if_pos g2]
        have d2 : ((n2 : Int) != (n1 : Int)) = true := by rw [bne_iff_ne]; omega
        clear hnm hc g1 g2
        go_enter Tryz.func44, Tryz.ntmps44
        go_wp2_with (fail)
        refine HN.out.mono ?_
        rintro e W ⟨rfl, hb⟩
        go_wp2_with (fail)
        go_ret2
        exact WordsA.bad (by decide) hb
end Go.Proofs.YtngdmpkoedpgdaaGreatDoor

/-
  Words of the reference: good arguments.
-/


namespace Go.Ap
theorem words_side {sec : Str} {ps : List (Str × Int)} (hl : ps.length ≤ 4096) (hs : nameB sec = true) (hn : ∀ p ∈ ps, lineOk p.2 = true) : ∀ p ∈ idxM mkB (wordsEs sec ps), p.1.1.length ≤ 65536 ∧ p.2 ≠ [] ∧ p.2.length ≤ 1000000 := fun p hp => by
  have h := words_valid hl hs hn
  unfold indexB at h
  simp only [Bool.and_eq_true, Bool.not_eq_true', List.any_eq_false, decide_eq_true_eq] at h
  have hv : validB p = true := by have := h.1.2 p hp; simpa using this
  unfold validB at hv
  simp only [Bool.and_eq_true, decide_eq_true_eq] at hv
  obtain ⟨⟨⟨⟨v1, _⟩, v3⟩, v4⟩, _⟩ := hv
  have := isWordB_len v1
  exact ⟨by omega, fun e => by rw [e] at v3; simp at v3, by omega⟩
end Go.Ap
namespace Go.Proofs.YtngdmpkoedpgdaaGreatDoor
open Go.RowKit Go.Ap Go.Shelf Go.Proofs

attribute [local go_sem] Oper.semAt_some bs_toList empty_toList bs_size bs_extract
set_option maxRecDepth 100000 in
set_option maxHeartbeats 4000000 in
theorem wordsROk (sec : Str) (ws : List Str) (ls : List Int) (a1 : Option Addr) (n c1 : Nat) (a2 : Option Addr) (c2 : Nat) (w : World) (h1 : StrsL w a1 n ws) (h2 : Ints w a2 n ls) (hs : nameB sec = true) (hn : n ≤ 4096) (hw : ∀ s ∈ ws, s.length ≤ 4611686018427387903) (hl : (ls.any fun n => !lineOk n) = false) :
    Calls Tryz.prog 44 #[.string (bs sec), .slice a1 n c1, .slice a2 n c2] w fun e w' => ∃ b o c, e = .returned (.tuple #[.slice (some ⟨b, o, none⟩) (idxM mkB (wordsEs sec (ws.zip ls))).length c, .int .i64 0]) ∧ Postc w' (some ⟨b, o, none⟩) (idxM mkB (wordsEs sec (ws.zip ls))).length (idxM mkB (wordsEs sec (ws.zip ls))) ∧ (idxM mkB (wordsEs sec (ws.zip ls))).length ≤ c ∧ Below w.heap.size w w' := by
  have hsec := nameB_16 hs
  have HN := Lib.hid (nameR sec w (by omega))
  rw [hs] at HN
  have HX1 := Lib.hid h1
  have HX2 := Lib.hid h2
  have hlen : (ws.zip ls).length = n := by rw [List.length_zip, h1.len, h2.len, Nat.min_self]
  have HLL := Lib.hid hlen
  have HLO := Lib.hid (show ∀ y ∈ ls, lineOk y = true from fun y hy => by
    rw [List.any_eq_false] at hl
    simpa using hl y hy)
  have HWD := Lib.hid (fun (x : Str) (W : World) (hx : x ∈ ws) => isWordR x W (hw x hx))
  have HSD := Lib.hid (fun i => words_side (sec := sec) (ps := (ws.zip ls).take i) (by rw [List.length_take]; omega) hs (fun p hp => HLO.out _ (List.of_mem_zip (List.mem_of_mem_take hp)).2))
  have HCN := Lib.hid (show ∀ i, (idxM mkB (wordsEs sec ((ws.zip ls).take i))).length ≤ 4096 from fun i => by
    have a := idx_count mkB (wordsEs sec ((ws.zip ls).take i))
    have b := wordsEs_len sec ((ws.zip ls).take i)
    rw [List.length_take] at b
    omega)
  have d1 : decide ((4096 : Int) < (n : Int)) = false := by rw [decide_eq_false_iff_not]; omega
  have d2 : ((n : Int) != (n : Int)) = false := by simp
  have hsl := h2.small
  clear h1 h2 hs hl hlen
  go_enter Tryz.func44, Tryz.ntmps44
  go_wp2_with (fail)
  refine HN.out.mono ?_
  rintro e W ⟨rfl, hb⟩
  have HB := Lib.hid hb
  clear hb HN
  go_wp2_with (fail)
  go_loopw [8] (fun kv wr => ∃ k : Nat, k ≤ n ∧ kv = .int .i64 k ∧ Below w.heap.size w wr) (fun kv _ => n - (intOf kv).toNat)
  case atStart => exact ⟨0, Nat.zero_le _, rfl, HB.out⟩
  case round =>
    obtain ⟨wi, rfl⟩ : ∃ wi : World, wi = wr := ⟨_, rfl⟩
    obtain ⟨k, hk, rfl, hb⟩ := hrel
    have HBI := Lib.hid hb
    by_cases hlt : k < n
    · obtain ⟨y, b2, off2, v2, hy, rfl, hcy, rfl, hiy⟩ := Sl.at (HX2.out.mono (Nat.le_refl _) hb) hlt
      have hok := HLO.out y (List.mem_of_getElem? hy)
      simp only [lineOk, Bool.and_eq_true, decide_eq_true_eq] at hok
      have i1 : (k : Int) < (n : Int) := by omega
      have i0' : (0 : Int) ≤ (k : Int) := by omega
      have d3 : decide (y < 1) = false := decide_eq_false (by omega)
      have d4 : decide (4096 < y) = false := decide_eq_false (by omega)
      clear hy hiy hb hok
      go_wp2_with (fail)
      exact ⟨⟨k + 1, by omega, by simp, HBI.out⟩, by simp [intOf]; omega⟩
    · obtain rfl : n = k := by omega
      clear hb
      go_wp2_with (fail)
      go_loopw [9, 10] (fun ov iv wr => ∃ i : Nat, i ≤ n ∧ iv = .int .i64 i ∧ (∃ b o c, ov = .slice (some ⟨b, o, none⟩) (idxM mkB (wordsEs sec ((ws.zip ls).take i))).length c ∧ Postc wr (some ⟨b, o, none⟩) (idxM mkB (wordsEs sec ((ws.zip ls).take i))).length (idxM mkB (wordsEs sec ((ws.zip ls).take i))) ∧ (idxM mkB (wordsEs sec ((ws.zip ls).take i))).length ≤ c) ∧ Below w.heap.size w wr) (fun _ iv _ => n - (intOf iv).toNat)
      case atStart => exact ⟨0, Nat.zero_le _, rfl, ⟨_, _, _, rfl, ⟨rfl, by simp [wordsEs, idxM], fun k x hx => by simp [wordsEs, idxM] at hx⟩, by simp [wordsEs, idxM]⟩, bstep HBI.out (balloc _ _)⟩
      case round =>
        obtain ⟨wj, rfl⟩ : ∃ wj : World, wj = wr := ⟨_, rfl⟩
        obtain ⟨i, hile, rfl, ⟨bo, oo, co, rfl, hpo, hco⟩, hb⟩ := hrel
        have HB2 := Lib.hid hb
        have HPO := Lib.hid hpo
        have HCO := Lib.hid hco
        clear hpo hco
        by_cases hin : i < n
        · obtain ⟨x, b, off, v, hx, rfl, hcv, rfl, _⟩ := Sl.at (HX1.out.mono (Nat.le_refl _) hb) hin
          unfold sv at hcv
          obtain ⟨y, b2, off2, v2, hy, rfl, hcy, rfl, hiy⟩ := Sl.at (HX2.out.mono (Nat.le_refl _) hb) hin
          have hxm := List.mem_of_getElem? hx
          have HSN := Lib.hid (wordsEs_snoc sec (zip_at hx hy))
          have HCALL := Lib.hid (HWD.out x wj hxm)
          have HIY := Lib.hid hiy
          have HCX := Lib.hid hcv
          have HCY := Lib.hid hcy
          have i1 : (i : Int) < (n : Int) := by omega
          have i0' : (0 : Int) ≤ (i : Int) := by omega
          cases hword : isWordB x
          · rw [hword] at HCALL
            have HS2 := Lib.hid (show wordsEs sec ((ws.zip ls).take (i + 1)) = wordsEs sec ((ws.zip ls).take i) by rw [HSN.out, entOf_no hword, List.append_nil])
            clear hx hy hxm hword hb hiy
            go_wp2_with (fail)
            refine HCALL.out.mono ?_
            rintro e w2 ⟨rfl, hb2⟩
            have HB3 := Lib.hid hb2
            clear hb2
            go_wp2_with (fail)
            exact ⟨⟨i + 1, by omega, by simp, by rw [HS2.out]; exact ⟨_, _, _, rfl, HPO.out.mono (Nat.le_refl _) HB3.out, HCO.out⟩, bstep HB2.out HB3.out⟩, by simp [intOf]; omega⟩
          · rw [hword] at HCALL
            have HWL := Lib.hid (isWordB_len hword)
            have HS2 := Lib.hid (show wordsEs sec ((ws.zip ls).take (i + 1)) = wordsEs sec ((ws.zip ls).take i) ++ [((x, sec), y)] by rw [HSN.out, entOf_yes hword])
            have HS3 := Lib.hid (show idxM mkB (wordsEs sec ((ws.zip ls).take (i + 1))) = addF (headM mkB) (idxM mkB (wordsEs sec ((ws.zip ls).take i))) (x, sec) y by rw [HS2.out, idx_succ])
            clear hx hy hxm hword hb hiy
            go_wp2_with (fail)
            refine HCALL.out.mono ?_
            rintro e w2 ⟨rfl, hb2⟩
            have HB3 := Lib.hid hb2
            have HCX := Lib.hid (cell_keep hb2 HCX.out)
            have HCY := Lib.hid (cell_keep hb2 HCY.out)
            have HPO2 := Lib.hid (HPO.out.mono (Nat.le_refl _) hb2)
            have HADD := Lib.hid (fun W (h : Below w2.heap.size w2 W) => add104 (idxM mkB (wordsEs sec ((ws.zip ls).take i))) x sec y bo oo _ co W (HPO2.out.mono (Nat.le_refl _) h) HCO.out (Nat.le_trans (HCN.out i) (by omega)) HIY.out (by have := HWL.out; omega) (by omega) (HSD.out i))
            clear hb2
            have hzl : (0 : Int) ≤ (i : Int) := i0'
            obtain ⟨m, hm⟩ : ∃ m, (idxM mkB (wordsEs sec ((ws.zip ls).take i))).length = m := ⟨_, rfl⟩
            simp only [hm] at HADD HPO2
            rw [hm]
            clear hm
            go_wp2_with (fail)
            refine (wpIn_wide (n := 20)).1 ?_
            refine wpIn_region_planN (fun W' => Below w2.heap.size w2 W') (.take 0 <| .take 1 <| .take 2 <| .take 3 <| .take 4 <| .take 5 <| .take 6 <| .take 7 <| .take 8 <| .take 9 <| .one 10 <| .take 11 .fin) (fun _ => trivial) (by kernel_rfl) (by kernel_rfl) (show Below _ w2 _ from bdrewN _ 1) ?_
            have HSX := Lib.hid (show Below w2.heap.size w2 w2.drew from bdrewN _ 1)
            apply plan_take rfl rfl (by rfl)
            case hy =>
              rintro W' hb'
              clear hb'
              go_simp
              first | done | with_reducible rfl
            simp only [List.setIfInBounds_toArray, List.set_cons_zero, List.set_cons_succ]
            apply plan_take rfl rfl (by rfl)
            case hy =>
              rintro W' hb'
              clear hb'
              go_simp
              first | done | with_reducible rfl
            simp only [List.setIfInBounds_toArray, List.set_cons_zero, List.set_cons_succ]
            apply plan_take rfl rfl (by rfl)
            case hy =>
              rintro W' hb'
              clear hb'
              go_simp
              first | done | with_reducible rfl
            simp only [List.setIfInBounds_toArray, List.set_cons_zero, List.set_cons_succ]
            apply plan_take rfl rfl (by rfl)
            case hy =>
              rintro W' hb'
              clear hb'
              go_simp
              first | done | with_reducible rfl
            simp only [List.setIfInBounds_toArray, List.set_cons_zero, List.set_cons_succ]
            apply plan_take rfl rfl (by rfl)
            case hy =>
              rintro W' hb'
              have f0 := cell_keep hb' HCX.out
              have f1 := cell_keep hb' HCY.out
              clear hb'
              go_simp
              first | done | with_reducible rfl
            simp only [List.setIfInBounds_toArray, List.set_cons_zero, List.set_cons_succ]
            apply plan_take rfl rfl (by rfl)
            case hy =>
              rintro W' hb'
              clear hb'
              go_simp
              first | done | with_reducible rfl
            simp only [List.setIfInBounds_toArray, List.set_cons_zero, List.set_cons_succ]
            apply plan_take rfl rfl (by rfl)
            case hy =>
              rintro W' hb'
              clear hb'
              go_simp
              first | done | with_reducible rfl
            simp only [List.setIfInBounds_toArray, List.set_cons_zero, List.set_cons_succ]
            apply plan_take rfl rfl (by rfl)
            case hy =>
              rintro W' hb'
              clear hb'
              go_simp
              first | done | with_reducible rfl
            simp only [List.setIfInBounds_toArray, List.set_cons_zero, List.set_cons_succ]
            apply plan_take rfl rfl (by rfl)
            case hy =>
              rintro W' hb'
              clear hb'
              go_simp
              first | done | with_reducible rfl
            simp only [List.setIfInBounds_toArray, List.set_cons_zero, List.set_cons_succ]
            apply plan_take rfl rfl (by rfl)
            case hy =>
              rintro W' hb'
              have f0 := cell_keep hb' HCX.out
              have f1 := cell_keep hb' HCY.out
              clear hb'
              go_simp
              first | done | with_reducible rfl
            simp only [List.setIfInBounds_toArray, List.set_cons_zero, List.set_cons_succ]
            refine plan_one rfl ?_
            gi_wp2_with (fail)
            refine ⟨trivial, (callsIn_wide.2 (HADD.out _ HSX.out)).mono ?_⟩
            rintro e W9 ⟨b9, o9, c9, rfl, hp9, hc9, hb9⟩
            have HP9 := Lib.hid hp9
            have HC9 := Lib.hid hc9
            have HSX := Lib.hid (bstep HSX.out hb9)
            clear hp9 hc9 hb9
            gi_wp2_with (fail)
            refine ⟨HSX.out, ?_⟩
            apply plan_take rfl rfl (by rfl)
            case hy =>
              rintro W' hb'
              clear hb'
              go_simp
              first | done | with_reducible rfl
            simp only [List.setIfInBounds_toArray, List.set_cons_zero, List.set_cons_succ]
            refine plan_fin ?_
            gi_wp2_with (fail)
            go_wp2_with (fail)
            go_roundw
            case rel => exact ⟨i + 1, by omega, by simp, by rw [HS3.out]; exact ⟨_, _, _, rfl, HP9.out, HC9.out⟩, bstep HB2.out (bstep HB3.out HSX.out)⟩
            case measure => simp [intOf]; omega
        · obtain rfl : n = i := by omega
          have HT := Lib.hid (show (ws.zip ls).take n = ws.zip ls from List.take_of_length_le (Nat.le_of_eq HLL.out))
          rw [HT.out] at HPO HCO ⊢
          clear hb
          go_wp2_with (fail)
          go_ret2
          exact ⟨_, _, _, rfl, HPO.out, HCO.out, HB2.out⟩
end Go.Proofs.YtngdmpkoedpgdaaGreatDoor

/-
  Words of the reference.
-/

namespace Go.Proofs.YtngdmpkoedpgdaaGreatDoor
open Go.RowKit Go.Ap Go.Shelf Go.Proofs

/-- what Words of the reference answers -/
def WordsR (e : Ending) (w w' : World) (c : Int) (l : List Post) : Prop := ∃ u, e = .returned (.tuple #[u, .int .i64 c]) ∧ (c = 0 → ∃ b o k, u = .slice (some ⟨b, o, none⟩) l.length k ∧ Postc w' (some ⟨b, o, none⟩) l.length l ∧ l.length ≤ k) ∧ (c ≠ 0 → u = .slice none 0 0) ∧ Below w.heap.size w w'
theorem wordsR (sec : Str) (ws : List Str) (ls : List Int) (a1 : Option Addr) (n1 c1 : Nat) (a2 : Option Addr) (n2 c2 : Nat) (w : World) (h1 : StrsL w a1 n1 ws) (h2 : Ints w a2 n2 ls) (hs : sec.length ≤ 4611686018427387903) (hw : ∀ s ∈ ws, s.length ≤ 4611686018427387903) :
    Calls Tryz.prog 44 #[.string (bs sec), .slice a1 n1 c1, .slice a2 n2 c2] w fun e w' => WordsR e w w' (wordsC sec ws ls) (idxM mkB (wordsEs sec (ws.zip ls))) := by
  by_cases hc : wordsC sec ws ls = 0
  · obtain ⟨g1, g2, g3, g4⟩ := wordsC_ok hc
    have e1 := h1.len
    have e2 := h2.len
    obtain rfl : n1 = n2 := by omega
    rw [hc]
    refine (wordsROk sec ws ls a1 n1 c1 a2 c2 w h1 h2 g1 (by omega) hw g4).mono ?_
    rintro e w' ⟨b, o, c, rfl, hp, hc', hb⟩
    exact ⟨_, rfl, fun _ => ⟨b, o, c, rfl, hp, hc'⟩, fun h => absurd rfl h, hb⟩
  · refine (wordsRBad sec ws ls a1 n1 c1 a2 n2 c2 w h1 h2 hs (idxM mkB (wordsEs sec (ws.zip ls))) hc).mono ?_
    rintro e w' ⟨u, rfl, _, hu, hb⟩
    exact ⟨u, rfl, fun h => absurd h hc, hu, hb⟩
end Go.Proofs.YtngdmpkoedpgdaaGreatDoor

/-
  Names of the reference: bad arguments.
-/



namespace Go.Proofs.YtngdmpkoedpgdaaGreatDoor
open Go.RowKit Go.Ap Go.Shelf Go.Proofs

attribute [local go_sem] Oper.semAt_some bs_toList empty_toList bs_size bs_extract
set_option maxRecDepth 100000 in
set_option maxHeartbeats 4000000 in
theorem namesRBad (x : Coll) (ax : Option Addr) (nx cx : Nat) (ay : Option Addr) (ny cy : Nat) (az : Option Addr) (nz cz : Nat) (a1 : Option Addr) (n1 c1 : Nat) (a2 : Option Addr) (n2 c2 : Nat) (w : World) (hx : CollM w ax ay az nx ny nz x) (l : List Post)
    (hbad : collC x ≠ 0 ∨ 4096 < n1 ∨ n2 ≠ n1) (ps : List (Str × Int)) :
    Calls Tryz.prog 45 #[collV x.sec ax nx cx ay ny cy az nz cz, .slice a1 n1 c1, .slice a2 n2 c2] w fun e w' => WordsA e w w' (namesC (collC x) n1 n2 ps) l := by
  have HC := Lib.hid (fun W (hb : Below w.heap.size w W) => collR x ax nx cx ay ny cy az nz cz W (hx.mono (Nat.le_refl _) hb))
  have HBB := Lib.hid (balloc w (.cells #[.string (bs x.sec), .slice ax nx cx, .slice ay ny cy, .slice az nz cz] 68))
  unfold namesC
  unfold collV at *
  generalize collC x = v at *
  clear hx
  by_cases h0 : v = 0
  · subst h0
    rw [if_neg (by simp)]
    by_cases g1 : 4096 < n1
    · rw [if_pos g1]
      have d1 : decide ((4096 : Int) < (n1 : Int)) = true := by rw [decide_eq_true_eq]; omega
      clear hbad g1
      go_enter Tryz.func45, Tryz.ntmps45
      go_wp2_with (fail)
      refine (HC.out _ HBB.out).mono ?_
      rintro e W ⟨rfl, hb⟩
      have HB := Lib.hid (bstep HBB.out hb)
      clear hb
      go_wp2_with (fail)
      go_ret2
      exact WordsA.bad (by decide) HB.out
    · rw [if_neg g1]
      have d1 : decide ((4096 : Int) < (n1 : Int)) = false := by rw [decide_eq_false_iff_not]; omega
      have g2 : n2 ≠ n1 := by
        rcases hbad with h | h | h
        · exact absurd rfl h
        · exact absurd h g1
        · exact h
      rw [if_pos g2]
      have d2 : ((n2 : Int) != (n1 : Int)) = true := by rw [bne_iff_ne]; omega
      clear hbad g1 g2
      go_enter Tryz.func45, Tryz.ntmps45
      go_wp2_with (fail)
      refine (HC.out _ HBB.out).mono ?_
      rintro e W ⟨rfl, hb⟩
      have HB := Lib.hid (bstep HBB.out hb)
      clear hb
      go_wp2_with (fail)
      go_ret2
      exact WordsA.bad (by decide) HB.out
  · rw [if_pos h0]
    have d0 : (v != 0) = true := by rw [bne_iff_ne]; exact h0
    clear hbad h0
    go_enter Tryz.func45, Tryz.ntmps45
    go_wp2_with (fail)
    refine (HC.out _ HBB.out).mono ?_
    rintro e W ⟨rfl, hb⟩
    have HB := Lib.hid (bstep HBB.out hb)
    clear hb
    go_wp2_with (fail)
    go_ret2
    exact WordsA.bad (by decide) HB.out
end Go.Proofs.YtngdmpkoedpgdaaGreatDoor

/-
  Names of the reference.
-/

namespace Go.Ap
theorem scanN_zero : ∀ {ps : List (Str × Int)}, scanN ps = 0 → ∀ p ∈ ps, (p.1 = [] ∨ nameB p.1 = true) ∧ lineOk p.2 = true
  | [], _, p, hp => by cases hp
  | q :: r, h, p, hp => by
    unfold scanN at h
    split at h
    · cases h
    · rename_i h1
      split at h
      · cases h
      · rename_i h2
        rcases List.mem_cons.1 hp with rfl | hp
        · refine ⟨?_, by simpa using h2⟩
          by_cases h0 : p.1 = []
          · exact .inl h0
          · refine .inr ?_
            cases hn : nameB p.1
            · exact absurd ⟨h0, hn⟩ h1
            · rfl
        · exact scanN_zero h p hp
theorem names_side {sec : Str} {ps : List (Str × Int)} (hl : ps.length ≤ 4096) (hn : ∀ p ∈ ps, p.1 = [] ∨ nameB p.1 = true) : ∀ p ∈ idxM mkB (namesEs sec ps), p.1.1.length ≤ 65536 ∧ p.2 ≠ [] ∧ p.2.length ≤ 1000000 := fun p hp => by
  have H := idx_is mkB (namesEs sec ps)
  have h0 := H.some p hp
  obtain ⟨n, hm⟩ := List.exists_mem_of_ne_nil _ h0
  have he := (H.all p.1 n).2 ⟨p, hp, rfl, hm⟩
  obtain ⟨q, hq, hq0, he2⟩ := namesEs_mem.1 he
  have e1 : p.1.1 = q.1 := by rw [(Prod.mk.inj he2).1]
  have hb : nameB q.1 = true := (hn q hq).resolve_left hq0
  have h16 := nameB_16 hb
  have a := le_sum hp
  have b := countL_idx (namesEs sec ps)
  have c := namesEs_len sec ps
  exact ⟨by rw [e1]; omega, h0, by omega⟩
end Go.Ap
namespace Go.Proofs.YtngdmpkoedpgdaaGreatDoor
open Go.RowKit Go.Ap Go.Shelf Go.Proofs

attribute [local go_sem] Oper.semAt_some bs_toList empty_toList bs_size bs_extract
theorem WordsR.bad {w w' : World} {c : Int} {l : List Post} (h : c ≠ 0) (hb : Below w.heap.size w w') : WordsR (.returned (.tuple #[.slice none 0 0, .int .i64 c])) w w' c l :=
  ⟨_, rfl, fun e => absurd e h, fun _ => rfl, hb⟩
set_option maxRecDepth 100000 in
set_option maxHeartbeats 8000000 in
theorem namesROk (x : Coll) (ax : Option Addr) (nx cx : Nat) (ay : Option Addr) (ny cy : Nat) (az : Option Addr) (nz cz : Nat) (bsl : List Wrd) (ls : List Int) (a1 : Option Addr) (n c1 : Nat) (a2 : Option Addr) (c2 : Nat) (w : World) (hx : CollM w ax ay az nx ny nz x)
    (h1 : Wrds w a1 n bsl) (h2 : Ints w a2 n ls) (hn : n ≤ 4096) (hok : collC x = 0) :
    Calls Tryz.prog 45 #[collV x.sec ax nx cx ay ny cy az nz cz, .slice a1 n c1, .slice a2 n c2] w fun e w' => WordsR e w w' (scanN ((bsl.map Wrd.name).zip ls)) (idxM mkB (namesEs x.sec ((bsl.map Wrd.name).zip ls))) := by
  have HC := Lib.hid (fun W (hb : Below w.heap.size w W) => collR x ax nx cx ay ny cy az nz cz W (hx.mono (Nat.le_refl _) hb))
  rw [hok] at HC
  have hsec := hx.sec
  obtain ⟨sec, hsc⟩ : ∃ s, x.sec = s := ⟨_, rfl⟩
  unfold collV at *
  rw [hsc] at HC hsec ⊢
  have d1 : decide ((4096 : Int) < (n : Int)) = false := by rw [decide_eq_false_iff_not]; omega
  have d2 : ((n : Int) != (n : Int)) = false := by simp
  have HX1 := Lib.hid h1
  have HX2 := Lib.hid h2
  obtain ⟨ps, hps⟩ : ∃ ps, (bsl.map Wrd.name).zip ls = ps := ⟨_, rfl⟩
  rw [hps]
  have HPS := Lib.hid hps
  have HPL := Lib.hid (show ps.length = n by rw [← hps, List.length_zip, List.length_map, h1.len, h2.len, Nat.min_self])
  have HSECL := Lib.hid (show sec.length ≤ 65536 by
    have hh : headC x.sec x.sigla x.tokens = 0 := by
      unfold collC at hok
      split at hok
      · rename_i h1
        exact absurd hok h1
      · rename_i h1
        exact Classical.byContradiction h1
    have := nameB_16 (head_zero hh).1
    rw [hsc] at this
    omega)
  have HN := Lib.hid (fun (s : Str) (hs : s.length ≤ 281474976710656) W => nameR s W (by omega))
  have HB0 := Lib.hid (balloc w (.cells #[.string (bs sec), .slice ax nx cx, .slice ay ny cy, .slice az nz cz] 68))
  have HK0 := Lib.hid (BlkK.new w #[.string (bs sec), .slice ax nx cx, .slice ay ny cy, .slice az nz cz] 68)
  have HCN := Lib.hid (show ∀ i, (idxM mkB (namesEs sec (ps.take i))).length ≤ 4096 from fun i => by
    have a := idx_count mkB (namesEs sec (ps.take i))
    have b := namesEs_len sec (ps.take i)
    have c := HPL.out
    rw [List.length_take] at b
    omega)
  have hsl := h2.small
  clear h1 h2 hok hx hsc hps hsec
  go_enter Tryz.func45, Tryz.ntmps45
  go_wp2_with (fail)
  refine (HC.out _ HB0.out).mono ?_
  rintro e W ⟨rfl, hb⟩
  have HB1 := Lib.hid (bstep HB0.out hb)
  have HK1 := Lib.hid (HK0.out.below hb)
  clear hb HC
  go_wp2_with (fail)
  go_loopw [8] (fun kv wr => ∃ k : Nat, k ≤ n ∧ kv = .int .i64 k ∧ Below w.heap.size w wr ∧ BlkK wr w.heap.size #[.string (bs sec), .slice ax nx cx, .slice ay ny cy, .slice az nz cz] 68 ∧ scanN (ps.drop k) = scanN ps) (fun kv _ => n - (intOf kv).toNat)
  case atStart => exact ⟨0, Nat.zero_le _, rfl, HB1.out, HK1.out, rfl⟩
  case round =>
    obtain ⟨wi, rfl⟩ : ∃ wi : World, wi = wr := ⟨_, rfl⟩
    obtain ⟨k, hk, rfl, hb, hbk, hsn⟩ := hrel
    have HBI := Lib.hid hb
    have HKI := Lib.hid hbk
    have HSC := Lib.hid hsn
    by_cases hlt : k < n
    · obtain ⟨t, b, off, ht, rfl, c0, c1, c2, c3, c4, c5, c6, hts⟩ := (Wrds.mono HX1.out (Nat.le_refl _) hb).at hlt
      obtain ⟨y, b2, off2, v2, hy, rfl, hcy, rfl, hiy⟩ := Sl.at (HX2.out.mono (Nat.le_refl _) hb) hlt
      have hzp : ps[k]? = some (t.name, y) := by rw [← HPS.out]; exact zipn_at ht hy
      have HSD := Lib.hid (scanN_drop hzp)
      obtain ⟨xn, hxn⟩ : ∃ s, t.name = s := ⟨_, rfl⟩
      rw [hxn] at c6 hts HSD
      clear hzp
      simp only at HSD
      have HCALL := Lib.hid (HN.out xn hts)
      have HCY := Lib.hid hcy
      have i1 : (k : Int) < (n : Int) := by omega
      have i0' : (0 : Int) ≤ (k : Int) := by omega
      clear ht hy hiy hb hbk hsn c0 c1 c2 c3 c4 c5 hxn hcy
      by_cases hx0 : xn = []
      · subst hx0
        have HD2 := Lib.hid (show scanN (ps.drop k) = if lineOk y = false then 2 else scanN (ps.drop (k + 1)) by rw [HSD.out, if_neg (fun h => h.1 rfl)])
        have hcy := HCY.out
        by_cases y1 : y < 1
        · have e1 : decide (y < 1) = true := decide_eq_true y1
          have HE := Lib.hid (show scanN ps = 2 by rw [← HSC.out, HD2.out, if_pos (by unfold lineOk; simp; omega)])
          clear y1
          go_wp2_with (fail)
          go_ret2
          rw [HE.out]
          exact WordsR.bad (by decide) HBI.out
        · have e1 : decide (y < 1) = false := decide_eq_false y1
          by_cases y2 : 4096 < y
          · have e2 : decide ((4096 : Int) < y) = true := decide_eq_true y2
            have HE := Lib.hid (show scanN ps = 2 by rw [← HSC.out, HD2.out, if_pos (by unfold lineOk; simp; omega)])
            clear y1 y2
            go_wp2_with (fail)
            go_ret2
            rw [HE.out]
            exact WordsR.bad (by decide) HBI.out
          · have e2 : decide ((4096 : Int) < y) = false := decide_eq_false y2
            have HE := Lib.hid (show scanN (ps.drop (k + 1)) = scanN ps by rw [← HSC.out, HD2.out, if_neg (by unfold lineOk; simp; omega)])
            clear y1 y2
            go_wp2_with (fail)
            exact ⟨⟨k + 1, by omega, by simp, HBI.out, HKI.out, HE.out⟩, by simp [intOf]; omega⟩
      · have n1 : (xn == []) = false := by rw [beq_eq_false_iff_ne]; exact hx0
        have n2 : xn.isEmpty = false := by simpa using hx0
        have n3 : (xn != []) = true := by rw [bne_iff_ne]; exact hx0
        cases hnm : nameB xn
        · rw [hnm] at HCALL
          have HE := Lib.hid (show scanN ps = 14 by rw [← HSC.out, HSD.out, if_pos ⟨hx0, hnm⟩])
          clear hx0 hnm
          go_wp2_with (fail)
          refine (HCALL.out _).mono ?_
          rintro e w3 ⟨rfl, hb3⟩
          have HB3 := Lib.hid (bstep HBI.out hb3)
          clear hb3
          go_wp2_with (fail)
          go_ret2
          rw [HE.out]
          exact WordsR.bad (by decide) HB3.out
        · rw [hnm] at HCALL
          have HD2 := Lib.hid (show scanN (ps.drop k) = if lineOk y = false then 2 else scanN (ps.drop (k + 1)) by rw [HSD.out, if_neg (fun h => by rw [hnm] at h; cases h.2)])
          clear hx0 hnm
          go_wp2_with (fail)
          refine (HCALL.out _).mono ?_
          rintro e w3 ⟨rfl, hb3⟩
          have HBI := Lib.hid (bstep HBI.out hb3)
          have HKI := Lib.hid (HKI.out.below hb3)
          have hcy := cell_keep hb3 HCY.out
          clear hb3
          by_cases y1 : y < 1
          · have e1 : decide (y < 1) = true := decide_eq_true y1
            have HE := Lib.hid (show scanN ps = 2 by rw [← HSC.out, HD2.out, if_pos (by unfold lineOk; simp; omega)])
            clear y1
            go_wp2_with (fail)
            go_ret2
            rw [HE.out]
            exact WordsR.bad (by decide) HBI.out
          · have e1 : decide (y < 1) = false := decide_eq_false y1
            by_cases y2 : 4096 < y
            · have e2 : decide ((4096 : Int) < y) = true := decide_eq_true y2
              have HE := Lib.hid (show scanN ps = 2 by rw [← HSC.out, HD2.out, if_pos (by unfold lineOk; simp; omega)])
              clear y1 y2
              go_wp2_with (fail)
              go_ret2
              rw [HE.out]
              exact WordsR.bad (by decide) HBI.out
            · have e2 : decide ((4096 : Int) < y) = false := decide_eq_false y2
              have HE := Lib.hid (show scanN (ps.drop (k + 1)) = scanN ps by rw [← HSC.out, HD2.out, if_neg (by unfold lineOk; simp; omega)])
              clear y1 y2
              go_wp2_with (fail)
              exact ⟨⟨k + 1, by omega, by simp, HBI.out, HKI.out, HE.out⟩, by simp [intOf]; omega⟩
    · obtain rfl : n = k := by omega
      have HE := Lib.hid (show scanN ps = 0 by rw [← HSC.out, List.drop_of_length_le (Nat.le_of_eq HPL.out)]; rfl)
      have HVAL := Lib.hid (scanN_zero HE.out)
      have HSDE := Lib.hid (fun i => names_side (sec := sec) (ps := ps.take i) (by rw [List.length_take]; have := HPL.out; omega) (fun p hp => (HVAL.out p (List.mem_of_mem_take hp)).1))
      clear hb hbk hsn
      go_wp2_with (fail)
      have HK2 := Lib.hid (HKI.out.allocK (.cells #[] 37))
      go_loopw [9, 10] (fun ov iv wr => ∃ i : Nat, i ≤ n ∧ iv = .int .i64 i ∧ (∃ b o c, ov = .slice (some ⟨b, o, none⟩) (idxM mkB (namesEs sec (ps.take i))).length c ∧ Postc wr (some ⟨b, o, none⟩) (idxM mkB (namesEs sec (ps.take i))).length (idxM mkB (namesEs sec (ps.take i))) ∧ (idxM mkB (namesEs sec (ps.take i))).length ≤ c) ∧ Below w.heap.size w wr ∧ BlkK wr w.heap.size #[.string (bs sec), .slice ax nx cx, .slice ay ny cy, .slice az nz cz] 68) (fun _ iv _ => n - (intOf iv).toNat)
      case atStart => exact ⟨0, Nat.zero_le _, rfl, ⟨_, _, _, rfl, ⟨rfl, by simp [namesEs, idxM], fun k x hx => by simp [namesEs, idxM] at hx⟩, by simp [namesEs, idxM]⟩, bstep HBI.out (balloc _ _), HK2.out⟩
      case round =>
        obtain ⟨wj, rfl⟩ : ∃ wj : World, wj = wr := ⟨_, rfl⟩
        obtain ⟨i, hile, rfl, ⟨bo, oo, co, rfl, hpo, hco⟩, hb, hbk⟩ := hrel
        have HB2 := Lib.hid hb
        have HKJ := Lib.hid hbk
        have HPO := Lib.hid hpo
        have HCO := Lib.hid hco
        clear hpo hco
        by_cases hin : i < n
        · obtain ⟨t, b, off, ht, rfl, c0, c1, c2, c3, c4, c5, c6, hts⟩ := (Wrds.mono HX1.out (Nat.le_refl _) hb).at hin
          obtain ⟨y, b2, off2, v2, hy, rfl, hcy, rfl, hiy⟩ := Sl.at (HX2.out.mono (Nat.le_refl _) hb) hin
          have hzp : ps[i]? = some (t.name, y) := by rw [← HPS.out]; exact zipn_at ht hy
          have HSN := Lib.hid (namesEs_snoc sec hzp)
          obtain ⟨xn, hxn⟩ : ∃ s, t.name = s := ⟨_, rfl⟩
          rw [hxn] at c6 hts HSN hzp
          simp only at HSN
          have HV := Lib.hid (HVAL.out _ (List.mem_of_getElem? hzp)).1
          have HIY := Lib.hid hiy
          have HCX := Lib.hid c6
          have HCY := Lib.hid hcy
          have HCS := Lib.hid (hbk.cell (i := 0) (u := .string (bs sec)) rfl)
          have i1 : (i : Int) < (n : Int) := by omega
          have i0' : (0 : Int) ≤ (i : Int) := by omega
          by_cases hx0 : xn = []
          · subst hx0
            have HS2 := Lib.hid (show namesEs sec (ps.take (i + 1)) = namesEs sec (ps.take i) by rw [HSN.out, if_pos rfl, List.append_nil])
            clear ht hy hiy hb hbk c0 c1 c2 c3 c4 c5 hxn hcy hzp
            go_wp2_with (fail)
            exact ⟨⟨i + 1, by omega, by simp, by rw [HS2.out]; exact ⟨_, _, _, rfl, HPO.out, HCO.out⟩, HB2.out, HKJ.out⟩, by simp [intOf]; omega⟩
          · have n1 : (xn == []) = false := by rw [beq_eq_false_iff_ne]; exact hx0
            have n2 : xn.isEmpty = false := by simpa using hx0
            have n3 : (xn != []) = true := by rw [bne_iff_ne]; exact hx0
            have HWL := Lib.hid (nameB_16 (HV.out.resolve_left hx0))
            have HS2 := Lib.hid (show namesEs sec (ps.take (i + 1)) = namesEs sec (ps.take i) ++ [((xn, sec), y)] by rw [HSN.out, if_neg hx0])
            have HS3 := Lib.hid (show idxM mkB (namesEs sec (ps.take (i + 1))) = addF (headM mkB) (idxM mkB (namesEs sec (ps.take i))) (xn, sec) y by rw [HS2.out, idx_succ])
            have HADD := Lib.hid (fun W (h : Below wj.heap.size wj W) => add104 (idxM mkB (namesEs sec (ps.take i))) xn sec y bo oo _ co W (HPO.out.mono (Nat.le_refl _) h) HCO.out (Nat.le_trans (HCN.out i) (by omega)) HIY.out (by have := HWL.out; simp only at this; omega) HSECL.out (HSDE.out i))
            clear ht hy hiy hb hbk c0 c1 c2 c3 c4 c5 hxn hcy hzp hx0
            have hzl : (0 : Int) ≤ (i : Int) := i0'
            obtain ⟨m, hm⟩ : ∃ m, (idxM mkB (namesEs sec (ps.take i))).length = m := ⟨_, rfl⟩
            simp only [hm] at HADD HPO
            rw [hm]
            clear hm
            go_wp2_with (fail)
            clear c6
            refine (wpIn_wide (n := 20)).1 ?_
            refine wpIn_region_planN (fun W' => Below wj.heap.size wj W') (.take 0 <| .take 1 <| .take 2 <| .take 3 <| .take 4 <| .take 5 <| .take 6 <| .take 7 <| .take 8 <| .take 9 <| .take 10 <| .take 11 <| .one 12 <| .take 13 .fin) (fun _ => trivial) (by kernel_rfl) (by kernel_rfl) (show Below _ wj _ from bdrewN _ 1) ?_
            have HSX := Lib.hid (show Below wj.heap.size wj wj.drew from bdrewN _ 1)
            apply plan_take rfl rfl (by rfl)
            case hy =>
              rintro W' hb'
              clear hb'
              go_simp
              first | done | with_reducible rfl
            simp only [List.setIfInBounds_toArray, List.set_cons_zero, List.set_cons_succ]
            apply plan_take rfl rfl (by rfl)
            case hy =>
              rintro W' hb'
              clear hb'
              go_simp
              first | done | with_reducible rfl
            simp only [List.setIfInBounds_toArray, List.set_cons_zero, List.set_cons_succ]
            apply plan_take rfl rfl (by rfl)
            case hy =>
              rintro W' hb'
              clear hb'
              go_simp
              first | done | with_reducible rfl
            simp only [List.setIfInBounds_toArray, List.set_cons_zero, List.set_cons_succ]
            apply plan_take rfl rfl (by rfl)
            case hy =>
              rintro W' hb'
              clear hb'
              go_simp
              first | done | with_reducible rfl
            simp only [List.setIfInBounds_toArray, List.set_cons_zero, List.set_cons_succ]
            apply plan_take rfl rfl (by rfl)
            case hy =>
              rintro W' hb'
              clear hb'
              go_simp
              first | done | with_reducible rfl
            simp only [List.setIfInBounds_toArray, List.set_cons_zero, List.set_cons_succ]
            apply plan_take rfl rfl (by rfl)
            case hy =>
              rintro W' hb'
              have f0 := cell_keep hb' HCX.out
              have f1 := cell_keep hb' HCY.out
              have f2 := cell_keep hb' HCS.out
              clear hb'
              go_simp
              first | done | with_reducible rfl
            simp only [List.setIfInBounds_toArray, List.set_cons_zero, List.set_cons_succ]
            apply plan_take rfl rfl (by rfl)
            case hy =>
              rintro W' hb'
              clear hb'
              go_simp
              first | done | with_reducible rfl
            simp only [List.setIfInBounds_toArray, List.set_cons_zero, List.set_cons_succ]
            apply plan_take rfl rfl (by rfl)
            case hy =>
              rintro W' hb'
              have f0 := cell_keep hb' HCX.out
              have f1 := cell_keep hb' HCY.out
              have f2 := cell_keep hb' HCS.out
              clear hb'
              go_simp
              first | done | with_reducible rfl
            simp only [List.setIfInBounds_toArray, List.set_cons_zero, List.set_cons_succ]
            apply plan_take rfl rfl (by rfl)
            case hy =>
              rintro W' hb'
              clear hb'
              go_simp
              first | done | with_reducible rfl
            simp only [List.setIfInBounds_toArray, List.set_cons_zero, List.set_cons_succ]
            apply plan_take rfl rfl (by rfl)
            case hy =>
              rintro W' hb'
              clear hb'
              go_simp
              first | done | with_reducible rfl
            simp only [List.setIfInBounds_toArray, List.set_cons_zero, List.set_cons_succ]
            apply plan_take rfl rfl (by rfl)
            case hy =>
              rintro W' hb'
              clear hb'
              go_simp
              first | done | with_reducible rfl
            simp only [List.setIfInBounds_toArray, List.set_cons_zero, List.set_cons_succ]
            apply plan_take rfl rfl (by rfl)
            case hy =>
              rintro W' hb'
              have f0 := cell_keep hb' HCX.out
              have f1 := cell_keep hb' HCY.out
              have f2 := cell_keep hb' HCS.out
              clear hb'
              go_simp
              first | done | with_reducible rfl
            simp only [List.setIfInBounds_toArray, List.set_cons_zero, List.set_cons_succ]
            refine plan_one rfl ?_
            gi_wp2_with (fail)
            refine ⟨trivial, (callsIn_wide.2 (HADD.out _ HSX.out)).mono ?_⟩
            rintro e W9 ⟨b9, o9, c9, rfl, hp9, hc9, hb9⟩
            have HP9 := Lib.hid hp9
            have HC9 := Lib.hid hc9
            have HSX := Lib.hid (bstep HSX.out hb9)
            clear hp9 hc9 hb9
            gi_wp2_with (fail)
            refine ⟨HSX.out, ?_⟩
            apply plan_take rfl rfl (by rfl)
            case hy =>
              rintro W' hb'
              clear hb'
              go_simp
              first | done | with_reducible rfl
            simp only [List.setIfInBounds_toArray, List.set_cons_zero, List.set_cons_succ]
            refine plan_fin ?_
            gi_wp2_with (fail)
            go_wp2_with (fail)
            go_roundw
            case rel => exact ⟨i + 1, by omega, by simp, by rw [HS3.out]; exact ⟨_, _, _, rfl, HP9.out, HC9.out⟩, bstep HB2.out HSX.out, HKJ.out.below HSX.out⟩
            case measure => simp [intOf]; omega
        · obtain rfl : n = i := by omega
          have HT := Lib.hid (show ps.take n = ps from List.take_of_length_le (Nat.le_of_eq HPL.out))
          rw [HT.out] at HPO HCO ⊢
          clear hb hbk
          go_wp2_with (fail)
          go_ret2
          rw [HE.out]
          exact ⟨_, rfl, fun _ => ⟨_, _, _, rfl, HPO.out, HCO.out⟩, fun h => absurd rfl h, HB2.out⟩
theorem namesR (x : Coll) (ax : Option Addr) (nx cx : Nat) (ay : Option Addr) (ny cy : Nat) (az : Option Addr) (nz cz : Nat) (bsl : List Wrd) (ls : List Int) (a1 : Option Addr) (n1 c1 : Nat) (a2 : Option Addr) (n2 c2 : Nat) (w : World) (hx : CollM w ax ay az nx ny nz x)
    (h1 : Wrds w a1 n1 bsl) (h2 : Ints w a2 n2 ls) :
    Calls Tryz.prog 45 #[collV x.sec ax nx cx ay ny cy az nz cz, .slice a1 n1 c1, .slice a2 n2 c2] w fun e w' => WordsR e w w' (namesC (collC x) n1 n2 ((bsl.map Wrd.name).zip ls)) (idxM mkB (namesEs x.sec ((bsl.map Wrd.name).zip ls))) := by
  by_cases hbad : collC x ≠ 0 ∨ 4096 < n1 ∨ n2 ≠ n1
  · have hne : namesC (collC x) n1 n2 ((bsl.map Wrd.name).zip ls) ≠ 0 := by
      unfold namesC
      by_cases h1 : collC x ≠ 0
      · rw [if_pos h1]; decide
      · rw [if_neg h1]
        by_cases h2 : 4096 < n1
        · rw [if_pos h2]; decide
        · rw [if_neg h2, if_pos ((hbad.resolve_left h1).resolve_left h2)]; decide
    refine (namesRBad x ax nx cx ay ny cy az nz cz a1 n1 c1 a2 n2 c2 w hx (idxM mkB (namesEs x.sec ((bsl.map Wrd.name).zip ls))) hbad ((bsl.map Wrd.name).zip ls)).mono ?_
    rintro e w' ⟨u, rfl, _, hu, hb⟩
    exact ⟨u, rfl, fun h => absurd h hne, hu, hb⟩
  · have g0 : collC x = 0 := Classical.byContradiction fun h => hbad (.inl h)
    have g1 : ¬4096 < n1 := fun h => hbad (.inr (.inl h))
    obtain rfl : n2 = n1 := Classical.byContradiction fun h => hbad (.inr (.inr h))
    have hc : namesC (collC x) n2 n2 ((bsl.map Wrd.name).zip ls) = scanN ((bsl.map Wrd.name).zip ls) := by
      unfold namesC
      rw [if_neg (by simp [g0]), if_neg g1, if_neg (by simp)]
    rw [hc]
    exact namesROk x ax nx cx ay ny cy az nz cz bsl ls a1 n2 c1 a2 c2 w hx h1 h2 (by omega) g0
end Go.Proofs.YtngdmpkoedpgdaaGreatDoor
