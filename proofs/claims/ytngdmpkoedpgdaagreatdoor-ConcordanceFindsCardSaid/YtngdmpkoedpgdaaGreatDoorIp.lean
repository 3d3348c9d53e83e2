/-
  Postings in order: slices.IndexFunc, slices.ContainsFunc at postings; index of the program.
-/
import Derived.Test.YtngdmpkoedpgdaaGreatDoorPs
import Derived.Test.YtngdmpkoedpgdaaGreatDoorNd
namespace Go.Ap
open Go Go.RowKit
def postA (p : Post) (a : Option Addr) (k : Nat) : Value := .agg (postV p.1 (.slice a p.2.length k))
def nthP (l : List Post) (i : Nat) : Post := l.getD i (([], []), [])
theorem nthP_eq {l : List Post} {i : Nat} {p : Post} (h : l[i]? = some p) : nthP l i = p := by simp [nthP, h]
/-- posting i stands behind the one before -/
def ascAt (l : List Post) (i : Nat) : Bool := decide (i = 0) || decide (headM mkB (nthP l (i - 1)).1 (nthP l i).1 < 0)
def ascB (l : List Post) : Bool := (List.range l.length).all (ascAt l)
def indexB (l : List Post) : Bool := decide (l.length ≤ 4096) && !(l.any fun p => !validB p) && ascB l
theorem ascB_of {l : List Post} (h : ∀ j, j < l.length → ascAt l j = true) : ascB l = true := List.all_eq_true.2 fun j hj => h j (List.mem_range.1 hj)
theorem ascB_no {l : List Post} (j : Nat) (hj : j < l.length) (h : ascAt l j = false) : ascB l = false := by
  rw [Bool.eq_false_iff]
  intro hc
  have := List.all_eq_true.1 hc j (List.mem_range.2 hj)
  rw [h] at this
  cases this
end Go.Ap
namespace Go.Proofs.YtngdmpkoedpgdaaGreatDoor
open Go.RowKit Go.Ap Go.Shelf Go.Proofs

attribute [local go_sem] Oper.semAt_some bs_toList empty_toList bs_size bs_extract
set_option maxHeartbeats 1000000 in
theorem idxPost (p : Post → Bool) (a : Option Addr) (n c : Nat) (xs : List Post) (g : Nat) (cap : Array Value) (w : World) (h : Posts w a n xs)
    (eg : ∀ args w, (callFunc g args).run Tryz.prog w = .ok (.enter g args) w)
    (hp : ∀ t ∈ xs, ∀ W, Below w.heap.size w W → ∀ a k, PostS W a t → Calls Tryz.prog g (#[postA t a k] ++ cap) W fun e w' => e = .returned (.bool (p t)) ∧ Below W.heap.size W w') :
    Calls Tryz.prog 129 #[.slice a n c, .func (.func g) #[] cap] w fun e w' => e = .returned (.int .i64 (idxF p xs)) ∧ Below w.heap.size w w' := by
  have hlen := h.len
  have hsm := h.small
  have HL := Lib.hid hlen
  have HP := Lib.hid hp
  have HX := Lib.hid h
  clear hlen hp h
  unfold postA postV at HP
  go_enter Tryz.func129, Tryz.ntmps129
  go_wp2_with (fail)
  go_loopw [8] (fun i wr => ∃ k : Nat, k ≤ n ∧ i = .int .i64 k ∧ Below w.heap.size w wr ∧ idxG (pAt p xs) (n - k) k = idxF p xs) (fun i _ => n - (intOf i).toNat)
  case atStart => exact ⟨0, by omega, rfl, Below.refl _ _, by unfold idxF; rw [HL.out]; rfl⟩
  case round =>
    obtain ⟨k, hk, rfl, hb, hch⟩ := hrel
    have HC := Lib.hid hch
    have HB := Lib.hid hb
    clear hch
    by_cases hlt : k < n
    · obtain ⟨t, b, off, ht, rfl, a1, k1, c0, c1, c2, hts⟩ := (Posts.mono HX.out (Nat.le_refl _) hb).at hlt
      obtain ⟨f, hf⟩ : ∃ f, n - k = f + 1 := ⟨n - k - 1, by omega⟩
      have HF := Lib.hid hf
      have HPA := Lib.hid (show pAt p xs k = p t by simp [pAt, ht])
      have HCALL := Lib.hid (HP.out t (List.mem_of_getElem? ht) wr hb a1 k1 hts)
      clear hf ht hts hb
      go_wp2_with (fail)
      refine HCALL.out.mono ?_
      rintro e w' ⟨rfl, hb2⟩
      have HB2 := Lib.hid (bstep HB.out hb2)
      clear hb2
      cases hpx : p t
      all_goals
        have HPX := Lib.hid hpx
        clear hpx
        go_wp2_with (fail)
      · exact ⟨⟨k + 1, by omega, by go_num, HB2.out, by rw [← HC.out, HF.out, idxG_no (HPA.out.trans HPX.out), show n - (k + 1) = f by have := HF.out; omega]⟩, by simp [intOf]; omega⟩
      · go_ret
        exact ⟨ret_i (by rw [← HC.out, HF.out, idxG_yes (HPA.out.trans HPX.out)]), HB2.out⟩
    · go_wp2_with (fail)
      go_ret
      exact ⟨ret_i (by rw [← HC.out, show n - k = 0 by omega, idxG]), HB.out⟩
theorem contPost (p : Post → Bool) (a : Option Addr) (n c : Nat) (xs : List Post) (g : Nat) (cap : Array Value) (w : World) (h : Posts w a n xs)
    (eg : ∀ args w, (callFunc g args).run Tryz.prog w = .ok (.enter g args) w)
    (hp : ∀ t ∈ xs, ∀ W, Below w.heap.size w W → ∀ a k, PostS W a t → Calls Tryz.prog g (#[postA t a k] ++ cap) W fun e w' => e = .returned (.bool (p t)) ∧ Below W.heap.size W w') :
    Calls Tryz.prog 69 #[.slice a n c, .func (.func g) #[] cap] w fun e w' => e = .returned (.bool (xs.any p)) ∧ Below w.heap.size w w' := by
  have H := Lib.hid (idxPost p a n c xs g cap w h eg hp)
  clear hp eg h
  go_enter Tryz.func69, Tryz.ntmps69
  go_wp2_with (fail)
  refine (H.out).mono ?_
  rintro e w' ⟨rfl, hb⟩
  go_wp2_with (fail)
  go_ret
  exact ⟨ret_b (idxF_any p xs), hb⟩
set_option maxHeartbeats 1000000 in
theorem index1 (p : Post) (a : Option Addr) (k : Nat) (w : World) (hp : PostS w a p) : Calls Tryz.prog 132 #[postA p a k] w fun e w' => e = .returned (.bool (!validB p)) ∧ Below w.heap.size w w' := by
  have HV := Lib.hid (fun W hb => validP p a k W (hp.mono (Nat.le_refl _) hb))
  generalize validB p = v at *
  unfold postA at *
  unfold postV at *
  go_enter Tryz.func132, Tryz.ntmps132
  go_wp2_with (fail)
  refine (HV.out _ (balloc _ _)).mono ?_
  rintro e w1 ⟨rfl, hb⟩
  go_wp2_with (fail)
  go_ret
  exact ⟨rfl, bstep (balloc _ _) hb⟩
set_option maxRecDepth 100000 in
set_option maxHeartbeats 8000000 in
theorem indexP (l : List Post) (a : Option Addr) (n c : Nat) (w : World) (h : Posts w a n l) :
    Calls Tryz.prog 75 #[.slice a n c] w fun e w' => e = .returned (.bool (indexB l)) ∧ Below w.heap.size w w' := by
  have HE := Lib.hid (show indexB l = (decide (l.length ≤ 4096) && !(l.any fun p => !validB p) && ascB l) from rfl)
  have hlen := h.len
  have hsm := h.small
  have HX := Lib.hid h
  have HQ := Lib.hid (contPost (fun p => !validB p) a n c l 132 #[] w h (enters_of Tryz.func132 (by kernel_rfl) rfl) (fun t _ W _ a k hs => by simpa using index1 t a k W hs))
  have V1 := Lib.hid (@ascB_no l)
  have V2 := Lib.hid (@ascB_of l)
  have HAT := Lib.hid (fun i => (show ascAt l i = (decide (i = 0) || decide (headM mkB (nthP l (i - 1)).1 (nthP l i).1 < 0)) from rfl))
  obtain ⟨R, hR⟩ : ∃ R, indexB l = R := ⟨_, rfl⟩
  rw [hR] at HE ⊢
  rw [hlen] at HE V1 V2
  obtain ⟨v, hv⟩ : ∃ v, (l.any fun p => !validB p) = v := ⟨_, rfl⟩
  rw [hv] at HE HQ
  clear h hlen hR hv
  by_cases h4 : n ≤ 4096
  · have d1 : decide ((4096 : Int) < (n : Int)) = false := by rw [decide_eq_false_iff_not]; omega
    have HN := Lib.hid h4
    cases v
    · have HR := Lib.hid (show R = ascB l by rw [HE.out]; simp [h4])
      clear h4
      go_enter Tryz.func75, Tryz.ntmps75
      go_wp2_with (fail)
      refine HQ.out.mono ?_
      rintro e W1 ⟨rfl, hb⟩
      have HB1 := Lib.hid hb
      clear hb
      go_wp2_with (fail)
      go_loopw [3] (fun kv wr => ∃ i : Nat, 1 ≤ i ∧ (i ≤ n ∨ i = 1) ∧ kv = .int .i64 i ∧ Below w.heap.size w wr ∧ ∀ j, j < i → j < n → ascAt l j = true) (fun kv _ => n - (intOf kv).toNat)
      case atStart => exact ⟨1, Nat.le_refl _, .inr rfl, rfl, HB1.out, fun j hj _ => by rw [HAT.out]; simp; omega⟩
      case round =>
        obtain ⟨wi, rfl⟩ : ∃ wi : World, wi = wr := ⟨_, rfl⟩
        obtain ⟨i, hi1, hi2, rfl, hb, hall⟩ := hrel
        have HB := Lib.hid hb
        have HA := Lib.hid hall
        by_cases hlt : i < n
        · obtain ⟨j, rfl⟩ : ∃ j, i = j + 1 := ⟨i - 1, by omega⟩
          have i1 : ((j + 1 : Nat) : Int) < (n : Int) := by omega
          have i2 : (j : Int) < (n : Int) := by omega
          have i3 : (0 : Int) ≤ (j : Int) + 1 := by omega
          have i4 : (j : Int) + 1 < (n : Int) := by omega
          have iw : IntKind.i64.wrap (j : Int) = (j : Int) := by simp [IntKind.wrap, IntKind.bits, IntKind.signed]; omega
          obtain ⟨p, b, off, hp, rfl, a1, k1, c0, c1, c2, s1⟩ := (Posts.mono HX.out (Nat.le_refl _) hb).at (k := j) (by omega)
          obtain ⟨q, b', off', hq, hbq, a2, k2, d0, d1', d2, s2⟩ := (Posts.mono HX.out (Nat.le_refl _) hb).at hlt
          cases hbq
          have d1 := d1'
          have HO := Lib.hid (fun W => orderP p.1 q.1 (.slice a1 p.2.length k1) (.slice a2 q.2.length k2) W s1.word s2.word)
          have HAS := Lib.hid (show ascAt l (j + 1) = decide (headM mkB p.1 q.1 < 0) by rw [HAT.out, Nat.add_sub_cancel, nthP_eq hp, nthP_eq hq]; simp)
          have HNO := Lib.hid (V1.out (j + 1) hlt)
          obtain ⟨r, hr⟩ : ∃ r, headM mkB p.1 q.1 = r := ⟨_, rfl⟩
          rw [hr] at HO HAS
          unfold postV at HO
          clear hall hp hq hr hlt hb d1' s1 s2
          by_cases hr0 : r < 0
          · have HX1 := Lib.hid (show ascAt l (j + 1) = true by rw [HAS.out]; simpa using hr0)
            have e1 : decide (0 ≤ r) = false := by rw [decide_eq_false_iff_not]; omega
            clear hr0
            go_wp2_with (fail)
            refine (wpIn_wide (n := 20)).1 ?_
            refine wpIn_region_planN (fun W' => Below wi.heap.size wi W') (.take 0 <| .take 1 <| .take 2 <| .take 3 <| .take 4 <| .take 5 <| .take 6 <| .take 7 <| .take 8 <| .one 9 <| .take 10 <| .fin) (fun _ => trivial) (by kernel_rfl) (by kernel_rfl) (show Below _ wi _ from bdrewN _ 1) ?_
            iterate 4
              apply plan_take rfl rfl (by rfl)
              case hy =>
                rintro W' hb'
                clear hb'
                go_simp
                first | done | with_reducible rfl
              simp only [List.setIfInBounds_toArray, List.set_cons_zero, List.set_cons_succ]
            apply plan_take rfl rfl (by rfl)
            case hy =>
              rintro W' hb'
              have x0 := cell_keep hb' c0
              have x1 := cell_keep hb' c1
              have x2 := cell_keep hb' c2
              have y0 := cell_keep hb' d0
              have y1 := cell_keep hb' d1
              have y2 := cell_keep hb' d2
              clear hb'
              go_simp
              first | done | with_reducible rfl
            simp only [List.setIfInBounds_toArray, List.set_cons_zero, List.set_cons_succ]
            iterate 3
              apply plan_take rfl rfl (by rfl)
              case hy =>
                rintro W' hb'
                clear hb'
                go_simp
                first | done | with_reducible rfl
              simp only [List.setIfInBounds_toArray, List.set_cons_zero, List.set_cons_succ]
            apply plan_take rfl rfl (by rfl)
            case hy =>
              rintro W' hb'
              have x0 := cell_keep hb' c0
              have x1 := cell_keep hb' c1
              have x2 := cell_keep hb' c2
              have y0 := cell_keep hb' d0
              have y1 := cell_keep hb' d1
              have y2 := cell_keep hb' d2
              clear hb'
              go_simp
              first | done | with_reducible rfl
            simp only [List.setIfInBounds_toArray, List.set_cons_zero, List.set_cons_succ]
            refine plan_one rfl ?_
            gi_wp2_with (fail)
            refine ⟨trivial, (callsIn_wide.2 (HO.out _)).mono ?_⟩
            rintro e W2 ⟨rfl, hl⟩
            have HS := Lib.hid (show Below wi.heap.size wi W2 from bstep (bdrewN wi 1) hl.below)
            have HB2 := Lib.hid (bstep HB.out HS.out)
            clear hl
            gi_wp2_with (fail)
            refine ⟨HS.out, ?_⟩
            apply plan_take rfl rfl (by rfl)
            case hy =>
              rintro W' hb'
              clear hb'
              go_simp
              first | done | with_reducible rfl
            simp only [List.setIfInBounds_toArray, List.set_cons_zero, List.set_cons_succ]
            refine plan_fin ?_
            gi_wp2_with (fail)
            go_wp2_with (fail)
            exact ⟨⟨j + 1 + 1, by omega, .inl (by omega), by simp, HB2.out, fun q hq hqn => (by
              by_cases hqi : q = j + 1
              · subst hqi; exact HX1.out
              · exact HA.out q (by omega) hqn)⟩, by simp [intOf]; omega⟩
          · have HX1 := Lib.hid (HR.out.trans (HNO.out (by rw [HAS.out]; simpa using hr0)))
            have e1 : decide (0 ≤ r) = true := by rw [decide_eq_true_eq]; omega
            clear hr0
            go_wp2_with (fail)
            refine (wpIn_wide (n := 20)).1 ?_
            refine wpIn_region_planN (fun W' => Below wi.heap.size wi W') (.take 0 <| .take 1 <| .take 2 <| .take 3 <| .take 4 <| .take 5 <| .take 6 <| .take 7 <| .take 8 <| .one 9 <| .take 10 <| .fin) (fun _ => trivial) (by kernel_rfl) (by kernel_rfl) (show Below _ wi _ from bdrewN _ 1) ?_
            iterate 4
              apply plan_take rfl rfl (by rfl)
              case hy =>
                rintro W' hb'
                clear hb'
                go_simp
                first | done | with_reducible rfl
              simp only [List.setIfInBounds_toArray, List.set_cons_zero, List.set_cons_succ]
            apply plan_take rfl rfl (by rfl)
            case hy =>
              rintro W' hb'
              have x0 := cell_keep hb' c0
              have x1 := cell_keep hb' c1
              have x2 := cell_keep hb' c2
              have y0 := cell_keep hb' d0
              have y1 := cell_keep hb' d1
              have y2 := cell_keep hb' d2
              clear hb'
              go_simp
              first | done | with_reducible rfl
            simp only [List.setIfInBounds_toArray, List.set_cons_zero, List.set_cons_succ]
            iterate 3
              apply plan_take rfl rfl (by rfl)
              case hy =>
                rintro W' hb'
                clear hb'
                go_simp
                first | done | with_reducible rfl
              simp only [List.setIfInBounds_toArray, List.set_cons_zero, List.set_cons_succ]
            apply plan_take rfl rfl (by rfl)
            case hy =>
              rintro W' hb'
              have x0 := cell_keep hb' c0
              have x1 := cell_keep hb' c1
              have x2 := cell_keep hb' c2
              have y0 := cell_keep hb' d0
              have y1 := cell_keep hb' d1
              have y2 := cell_keep hb' d2
              clear hb'
              go_simp
              first | done | with_reducible rfl
            simp only [List.setIfInBounds_toArray, List.set_cons_zero, List.set_cons_succ]
            refine plan_one rfl ?_
            gi_wp2_with (fail)
            refine ⟨trivial, (callsIn_wide.2 (HO.out _)).mono ?_⟩
            rintro e W2 ⟨rfl, hl⟩
            have HS := Lib.hid (show Below wi.heap.size wi W2 from bstep (bdrewN wi 1) hl.below)
            have HB2 := Lib.hid (bstep HB.out HS.out)
            clear hl
            gi_wp2_with (fail)
            refine ⟨HS.out, ?_⟩
            apply plan_take rfl rfl (by rfl)
            case hy =>
              rintro W' hb'
              clear hb'
              go_simp
              first | done | with_reducible rfl
            simp only [List.setIfInBounds_toArray, List.set_cons_zero, List.set_cons_succ]
            refine plan_fin ?_
            gi_wp2_with (fail)
            go_wp2_with (fail)
            go_ret
            exact ⟨ret_b HX1.out.symm, HB2.out⟩
        · have i1 : ¬((i : Int) < (n : Int)) := by omega
          have HX1 := Lib.hid (HR.out.trans (V2.out fun j hj => hall j (by omega) hj))
          clear hall hb
          go_wp2_with (fail)
          go_ret
          exact ⟨ret_b HX1.out.symm, HB.out⟩
    · have HR := Lib.hid (show R = false by rw [HE.out]; simp)
      clear h4
      go_enter Tryz.func75, Tryz.ntmps75
      go_wp2_with (fail)
      refine HQ.out.mono ?_
      rintro e W1 ⟨rfl, hb⟩
      have HB1 := Lib.hid hb
      clear hb
      go_wp2_with (fail)
      go_ret
      exact ⟨ret_b HR.out.symm, HB1.out⟩
  · have d1 : decide ((4096 : Int) < (n : Int)) = true := by rw [decide_eq_true_eq]; omega
    have HR := Lib.hid (show R = false by rw [HE.out]; simp [h4])
    clear h4
    go_enter Tryz.func75, Tryz.ntmps75
    go_wp2_with (fail)
    go_ret
    exact ⟨ret_b HR.out.symm, Below.refl _ _⟩
end Go.Proofs.YtngdmpkoedpgdaaGreatDoor
