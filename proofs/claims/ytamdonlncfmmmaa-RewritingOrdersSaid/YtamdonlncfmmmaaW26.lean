/-
  The reference's critical pairs.
-/
import Derived.Test.YtamdonlncfmmmaaW23
namespace Go.Proofs.Ytamdonlncfmmmaa
open Go.RowKit Go.Ap Go.Shelf Go.Proofs

attribute [local go_sem] Oper.semAt_some bs_toList empty_toList bs_size ext_drop ext_take bs_append

set_option maxRecDepth 100000 in
theorem OwnSS_append {w : World} {base base' : Nat} {v : Value} {xss yss : List (List Str)} {A : Option Addr} {m : Nat} (h : OwnSS w base v xss) (c : Nat) (hy : OwnSS w base' (.slice A m c) yss) (hbb : base ≤ base') (hb : base ≤ w.heap.size) (hl : xss.length + m ≤ 1000000) :
    ∃ v' w', (Builtin.append_ #[30, 30] 30 #[v, .slice A m c]).run Try.prog w = .ok v' w' ∧ OwnSS w' base v' (xss ++ yss) ∧ Below base w w' := by
  obtain ⟨i0, hi, hz0, hz1, hz2⟩ := info_parts info26
  obtain ⟨vs, h1, h2⟩ := h
  obtain ⟨us, k1, k2⟩ := hy
  have hvl : vs.length = xss.length := by have := h1.1; omega
  have hul : us.length = yss.length := by have := k1.1; omega
  rcases k1.2 with ⟨he, h0⟩ | ⟨g, cap, cur, he, hbg, hgg, hnc, hcm, hcs, htk⟩
  · injection he with ha hm hc
    subst ha
    subst hm
    have hy0 : yss = [] := List.eq_nil_of_length_eq_zero h0
    subst hy0
    refine ⟨v, w, ?_, ⟨vs, by simpa using h1, fun k xs hk => h2 k xs (by simpa using hk)⟩, Below.refl _ _⟩
    rcases h1.2 with ⟨rfl, _⟩ | ⟨g, cap, cur, rfl, _, _, hnc, _⟩
    · simp [Builtin.append_, run_underlying Try.underlying30, sizeOf, typeInfo, hi, Builtin.lenOf, Builtin.firstCells]
    · simp [Builtin.append_, run_underlying Try.underlying30, sizeOf, typeInfo, hi, Builtin.lenOf, Builtin.firstCells, hnc, storeCells]
  · injection he with ha hm hc
    subst ha
    subst hm
    have hcells : ∀ j u, us[j]? = some u → w.cell? ((⟨g, 0, none⟩ : Addr).add j) = some u := fun j u hu => by
      have hjl := (List.getElem?_eq_some_iff.1 hu).1
      have hadd : (⟨g, 0, none⟩ : Addr).add j = ⟨g, j, none⟩ := by unfold Addr.add; split <;> simp_all
      rw [hadd]
      have h3 : cur.toList[j]? = some u := by
        have := hu
        rw [← htk, List.getElem?_take] at this
        rwa [if_pos (by omega)] at this
      simp [World.cell?, hgg]
      rw [← Array.getElem?_toList]
      exact h3
    have hone : ∀ u ∈ us, u.oneCell' = true := fun u hu => by
      obtain ⟨k, hk⟩ := List.getElem?_of_mem hu
      have hkl := (List.getElem?_eq_some_iff.1 hk).1
      obtain ⟨u', hu', ho⟩ := k2 k (yss[k]'(by omega)) (List.getElem?_eq_getElem (by omega))
      rw [hk] at hu'
      injection hu' with hu'
      subst hu'
      obtain ⟨a, c, rfl⟩ := ownS_shape ho
      simp [Value.oneCell']
    obtain ⟨v', w', hrun, g2, g3, _, _⟩ := run_append_own_at (P := Try.prog) (w := w) base 30 30 26 i0 (.slice none 0 0) 1 24 Try.underlying30 hi hz0 hz1 hz2 rfl (by decide) v xss.length vs h1 ⟨g, 0, none⟩ yss.length c us (by omega) hcells hone (by unfold maxLen; omega) (by omega) hb
    have key : ∀ u ys, OwnS w base u ys → OwnS w' base u ys := fun u ys ho => World.ownsRow.kept ho g3 (owns_apart ho h1 (by decide))
    refine ⟨v', w', hrun, ⟨vs ++ us, by rw [List.length_append]; exact g2, fun k xs hk => ?_⟩, (Below.refl base w).grown g3 hb (fun k hk => (h1.lt k hk).1)⟩
    rcases Nat.lt_or_ge k xss.length with hlt | hge
    · rw [List.getElem?_append_left hlt] at hk
      obtain ⟨u', hu', ho⟩ := h2 k xs hk
      exact ⟨u', by rw [List.getElem?_append_left (by omega)]; exact hu', key u' xs ho⟩
    · rw [List.getElem?_append_right hge] at hk
      obtain ⟨u', hu', ho⟩ := k2 _ xs hk
      exact ⟨u', by rw [List.getElem?_append_right (by omega), hvl]; exact hu', key u' xs (ho.mono hbb)⟩
theorem headL_pre {rs : List Rule} {i j : Nat} {x y : Rule} (hx : rs[i]? = some x) (hy : rs[j]? = some y) : headL rs i (j + 1) <+: critL rs := by
  rw [headL_succ hx hy]
  exact head_pre hx hy (List.prefix_refl _)
theorem crE_over {rs : List Rule} (h : chkR rs = 0) {l : List Trip} (hp : l <+: critL rs) (hl : 4096 < l.length) : CrE rs = (4, []) := by
  have := hp.length_le
  unfold CrE
  rw [if_pos h, if_neg (by omega)]
theorem crE_done {rs : List Rule} (h : chkR rs = 0) (hl : (critL rs).length ≤ 4096) : CrE rs = (0, critL rs) := by
  unfold CrE
  rw [if_pos h, if_pos hl]
theorem ret_cr {v : Value} {e : Int} {p : Int × List Trip} {l : List Trip} {w w' : World} (h : p = (e, l)) (ho : OwnSS w' w.heap.size v (l.map tripS)) (hb : Below w.heap.size w w') :
    ∃ u, Ending.returned (.tuple #[v, .int .i64 e]) = .returned (.tuple #[u, .int .i64 p.1]) ∧ OwnSS w' w.heap.size u (p.2.map tripS) ∧ Below w.heap.size w w' := by
  rw [h]; exact ⟨v, rfl, ho, hb⟩

set_option maxRecDepth 100000 in
set_option maxHeartbeats 2000000 in
theorem refcritical17 (a : Option Addr) (n c : Nat) (rs : List Rule) (w : World) (h : Rls w a n rs) :
    Calls Try.prog 17 #[.slice a n c] w fun e W' => ∃ v, e = .returned (.tuple #[v, .int .i64 (CrE rs).1]) ∧ OwnSS W' w.heap.size v ((CrE rs).2.map tripS) ∧ Below w.heap.size w W' := by
  have H1 := Lib.hid (refcheck31 a n c rs w h)
  have HH := Lib.hid (fun W (hb : Below w.heap.size w W) => h.mono (Nat.le_refl _) hb)
  have HL := Lib.hid h.len
  have hsm := h.small
  clear h
  go_enter Try.func17, Try.ntmps17
  go_wp2_with (fail)
  refine H1.out.mono ?_
  rintro e w1 ⟨rfl, q1, hq1⟩
  have B1 := Lib.hid (show Below w.heap.size w w1 by rw [hq1]; exact bdrewN _ _)
  clear hq1 H1
  by_cases h0 : chkR rs = 0
  · have HC := Lib.hid h0
    have HSH := Lib.hid (short_chk h0)
    have HN64 := chkR_len h0
    rw [HL.out] at HN64
    rw [h0]
    clear h0
    go_wp2_with (fail)
    have bs2 := Lib.hid (B1.out.alloc B1.out.size (.cells #[] 26))
    have HO := Lib.hid (OwnSS.empty (base := w.heap.size) w1 B1.out.size)
    obtain ⟨W2, hW2⟩ : ∃ W2, w1.alloc (.cells #[] 26) = W2 := ⟨_, rfl⟩
    rw [hW2] at bs2 HO ⊢
    clear hW2
    go_loopw [4, 5] (fun ov iv wr => ∃ i : Nat, i ≤ n ∧ iv = .int .i64 i ∧ OwnSS wr w.heap.size ov ((headL rs i 0).map tripS) ∧ (headL rs i 0).length ≤ 4096 ∧ Below w.heap.size w wr) (fun _ iv _ => n - (intOf iv).toNat)
    case atStart => exact ⟨0, Nat.zero_le _, rfl, HO.out, by simp [headL, critU, rowL], bs2.out⟩
    case round =>
      obtain ⟨i, hi, rfl, ho, hlen, hb⟩ := hrel
      have HO2 := Lib.hid ho
      have HB2 := Lib.hid hb
      have HLN := Lib.hid hlen
      clear ho hb hlen HO bs2
      by_cases hin : i < n
      · go_wp2_with (fail)
        go_loopw [4, 6] (fun ov jv wr => ∃ j : Nat, j ≤ n ∧ jv = .int .i64 j ∧ OwnSS wr w.heap.size ov ((headL rs i j).map tripS) ∧ (headL rs i j).length ≤ 4096 ∧ Below w.heap.size w wr) (fun _ jv _ => n - (intOf jv).toNat)
        case atStart => exact ⟨0, Nat.zero_le _, rfl, HO2.out, HLN.out, HB2.out⟩
        case round =>
          obtain ⟨j, hj, rfl, ho, hlen, hb⟩ := hrel
          obtain ⟨av, ac, rfl⟩ := ho.shape
          rw [List.length_map] at ho ⊢
          generalize hm : (headL rs i j).length = m at *
          have HM := Lib.hid hm
          have HO3 := Lib.hid ho
          have HB3 := Lib.hid hb
          clear ho hb hm HO2 HB2 HLN
          by_cases hjn : j < n
          · obtain ⟨⟨x1, x2⟩, b, off, hx, rfl, c1, c2, lx1, lx2⟩ := (HH.out wr HB3.out).at hin
            obtain ⟨⟨y1, y2⟩, b', off', hy, he, c3, c4, ly1, ly2⟩ := (HH.out wr HB3.out).at hjn
            injection he with he
            injection he with e1 e2
            subst e1
            subst e2
            obtain ⟨sx1, sx2⟩ := HSH.out _ (List.mem_of_getElem? hx)
            obtain ⟨sy1, sy2⟩ := HSH.out _ (List.mem_of_getElem? hy)
            have HP := Lib.hid (headL_succ hx hy)
            have HPR := Lib.hid (headL_pre hx hy)
            obtain ⟨same, hs⟩ : ∃ same, decide (i = j) = same := ⟨_, rfl⟩
            have es : ((i : Int) == (j : Int)) = same := by rw [← hs, Bool.eq_iff_iff, beq_iff_eq, decide_eq_true_eq]; omega
            rw [hs] at HP
            have HPA := Lib.hid (fun W => pair41 (x1, x2) (y1, y2) same W sx1 sx2 sy1 sy2)
            simp only at c1 c2 c3 c4
            have HSX := Lib.hid (And.intro sx1 sy1)
            simp only at HSX
            clear hx hy hs lx1 lx2 ly1 ly2 sx1 sx2 sy1 sy2
            go_wp2_with (fail)
            refine (wpIn_wide (n := 20)).1 ?_
            refine wpIn_region_split0 12 _ rfl (by kernel_rfl) (by decide +kernel) (fun v c a w h => h) ?_
            simp only [List.take_succ_cons, List.take_zero, List.drop_succ_cons, List.drop_zero]
            refine wpQuiet_nil ?_
            refine ⟨.slice av m ac, ⟨Or.inl ⟨by rfl, fun w => by go_simp⟩, fun _ => rfl⟩, ?_⟩
            simp only [Act.put, List.setIfInBounds_toArray, List.set_cons_succ, List.set_cons_zero]
            repeat (go_big_quiet_step (fail))
            refine wpQuiet_nil ?_
            rintro w6 ⟨nq, rfl⟩
            have HO6 := Lib.hid (HO3.out.below (bdrewN wr nq))
            have HB6 := Lib.hid (bstep HB3.out (bdrewN wr nq))
            clear c1 c2 c3 c4 HO3 HB3
            generalize wr.drewN nq = w6 at *
            gi_wp2_with (fail)
            refine ⟨trivial, (callsIn_wide.2 (HPA.out _)).mono ?_⟩
            rintro e w7 ⟨v, rfl, ho7, hb7⟩
            have hpl : (pairL (x1, x2) (y1, y2) same).length ≤ 128 := by
              have h1 := List.length_filterMap_le (fun t => ovl (x1, x2) (y1, y2) (t + 1)) (List.range (min x1.length y1.length - 1))
              have h2 := List.length_filterMap_le (inc (x1, x2) (y1, y2)) (List.range x1.length)
              rw [List.length_range] at h1 h2
              show (ovs (x1, x2) (y1, y2) (min x1.length y1.length - 1) ++ incs (x1, x2) (y1, y2) same x1.length).length ≤ 128
              rw [List.length_append]
              have e1 : (ovs (x1, x2) (y1, y2) (min x1.length y1.length - 1)).length ≤ min x1.length y1.length - 1 := h1
              have e2 : (incs (x1, x2) (y1, y2) same x1.length).length ≤ x1.length := by
                unfold incs
                split
                · simp
                · exact h2
              have := HSX.out
              omega
            obtain ⟨a7, c7, rfl⟩ := ho7.shape
            obtain ⟨v8, w8, hrun, ho8, hb8⟩ := OwnSS_append (HO6.out.below hb7) c7 ho7 HB6.out.size (Nat.le_trans HB6.out.size hb7.size) (by rw [List.length_map, List.length_map, HM.out]; omega)
            rw [← List.map_append, ← HP.out] at ho8
            obtain ⟨a8, c8, rfl⟩ := ho8.shape
            rw [List.length_map] at ho8 hrun
            have HAP := Lib.hid hrun
            have HO8 := Lib.hid ho8
            have HB8 := Lib.hid ((HB6.out.trans (hb7.mono HB6.out.size)).trans hb8)
            have hlen8 : (headL rs i (j + 1)).length = m + (pairL (x1, x2) (y1, y2) same).length := by rw [HP.out, List.length_append, HM.out]
            rw [List.length_map] at HAP ⊢
            generalize hm8 : (headL rs i (j + 1)).length = m8 at *
            have HM8 := Lib.hid hm8
            have hm8b : m8 ≤ 5000 := by omega
            clear hlen8
            clear ho7 hb7 hb8 hrun ho8 HO6 HB6 hm8
            gi_wp2_with (gi_at_builtin; refine wpListIn_append_run _ rfl (.tmp 23) (.tmp 35) 30 rfl _ _ _ _ rfl rfl HAP.out ?_)
            by_cases h8 : 4096 < m8
            · have d8 : decide ((4096 : Int) < (m8 : Int)) = true := by simp; omega
              have HE := Lib.hid (crE_over HC.out HPR.out (by rw [HM8.out]; exact h8))
              clear h8
              go_wp2_with (fail)
              go_ret2
              exact ret_cr HE.out (OwnSS.nil _ _) HB8.out
            · have d8 : decide ((4096 : Int) < (m8 : Int)) = false := by simp; omega
              go_wp2_with (fail)
              go_roundw
              case rel => exact ⟨j + 1, by omega, by go_num, HO8.out, by rw [HM8.out]; omega, HB8.out⟩
              case measure => simp [intOf]; omega
          · obtain rfl : j = n := by omega
            go_wp2_with (fail)
            go_roundw
            case rel => exact ⟨i + 1, by omega, by go_num, by rw [headL_zero, ← headL_row HL.out]; exact HO3.out, by rw [headL_zero, ← headL_row HL.out, HM.out]; exact hlen, HB3.out⟩
            case measure => simp [intOf]; omega
      · obtain rfl : i = n := by omega
        have hcl : headL rs i 0 = critL rs := by rw [headL_zero, critL, HL.out]
        go_wp2_with (fail)
        go_ret2
        exact ret_cr (crE_done HC.out (by rw [← hcl]; exact HLN.out)) (by rw [← hcl]; exact HO2.out) HB2.out
  · have e1 : (chkR rs != 0) = true := by simpa using h0
    have HE := Lib.hid (show CrE rs = (1, []) by unfold CrE; rw [if_neg h0])
    clear h0
    go_wp2_with (fail)
    go_ret2
    exact ret_cr HE.out (OwnSS.nil _ _) B1.out
end Go.Proofs.Ytamdonlncfmmmaa
