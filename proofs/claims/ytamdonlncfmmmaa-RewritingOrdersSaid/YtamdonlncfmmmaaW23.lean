/-
  The reference's pairs.
-/
import Derived.Test.YtamdonlncfmmmaaW22
import Derived.Test.YtamdonlncfmmmaaQTail0
import Derived.Deep.RegionHeld3
import Derived.Deep.AppendLies
namespace Go.Proofs.Ytamdonlncfmmmaa
open Go.RowKit Go.Ap Go.Shelf Go.Proofs

attribute [local go_sem] Oper.semAt_some bs_toList empty_toList bs_size ext_drop ext_take bs_append

theorem ovl_test {x1 y1 : Str} {t : Nat} (h : t + 1 ≤ x1.length) : (x1.drop (x1.length - (t + 1))).isPrefixOf y1 = decide (x1.drop (x1.length - (t + 1)) = y1.take (t + 1)) := by
  have hl : (x1.drop (x1.length - (t + 1))).length = t + 1 := by simp; omega
  rw [Bool.eq_iff_iff, List.isPrefixOf_iff_prefix, List.prefix_iff_eq_take, hl, decide_eq_true_eq]
/-- as the reference writes it -/
theorem ovl_ref {x1 x2 y1 y2 : Str} {t : Nat} (h : t + 1 ≤ x1.length) (he : x1.drop (x1.length - (t + 1)) = y1.take (t + 1)) :
    ovl (x1, x2) (y1, y2) (t + 1) = some (x1 ++ y1.drop (t + 1), x2 ++ y1.drop (t + 1), x1.take (x1.length - (t + 1)) ++ y2) := by
  have e1 : x1.take (x1.length - (t + 1)) ++ y1 = x1 ++ y1.drop (t + 1) := by
    conv => rhs; rw [← List.take_append_drop (x1.length - (t + 1)) x1, he, List.append_assoc, List.take_append_drop]
  simp only [ovl]
  rw [ovl_test h, decide_eq_true he, if_pos rfl, e1]
theorem ovl_none {x1 x2 y1 y2 : Str} {t : Nat} (h : t + 1 ≤ x1.length) (he : ¬ x1.drop (x1.length - (t + 1)) = y1.take (t + 1)) : ovl (x1, x2) (y1, y2) (t + 1) = none := by
  simp only [ovl]
  rw [ovl_test h, decide_eq_false he]
  rfl

theorem own_type {w : World} {base size n : Nat} {e : TypeId} {v : Value} {xs : List Value} (h : w.ownsRow base e size v n xs) : ∀ r, v.ownBlock = some r → ∃ cur z, w.heap[r]? = some (.cells cur e z) := by
  intro r hr
  rcases h.2 with ⟨rfl, _⟩ | ⟨g, cap, cur, rfl, _, hgg, _⟩
  · cases hr
  · injection hr with hr
    subst hr
    exact ⟨_, _, hgg⟩
theorem RuleAt.turn {W W' : World} {k : Nat} {x : Rule} {row : Option Nat} (h : RuleAt W k x) (hg : W.grownBy W' row) (hr : ∀ r, row = some r → ∃ cur z, W.heap[r]? = some (.cells cur 26 z)) : RuleAt W' k x := by
  obtain ⟨z, h⟩ := h
  refine ⟨z, (hg.block k (Array.getElem?_eq_some_iff.1 h).1 (fun he => ?_)).trans h⟩
  obtain ⟨cur, z', h'⟩ := hr k he.symm
  rw [h] at h'
  injection h' with h'
  injection h' with _ h2
  cases h2
/-- what the walk of pair keeps: the rules' places, and what was there at the call -/
structure PT (n : Nat) (w : World) (x y : Rule) (W : World) : Prop where
  x : RuleAt W n x
  y : RuleAt W (n + 1) y
  bel : Below n w W
theorem RuleAt.below {W W' : World} {k : Nat} {x : Rule} (h : RuleAt W k x) (hb : Below W.heap.size W W') : RuleAt W' k x := by
  obtain ⟨z, h⟩ := h
  exact ⟨z, (hb.block k (Array.getElem?_eq_some_iff.1 h).1).trans h⟩
theorem PT.below {w W W' : World} {x y : Rule} (h : PT w.heap.size w x y W) (hb : Below W.heap.size W W') : PT w.heap.size w x y W' := ⟨RuleAt.below h.x hb, RuleAt.below h.y hb, bstep h.bel hb⟩
theorem pairL_same (x y : Rule) : pairL x y true = ovs x y (min x.1.length y.1.length - 1) := by simp [pairL, incs]
def tripB (z : Trip) : Obj := .cells #[.string (bs z.1), .string (bs z.2.1), .string (bs z.2.2)] 9
/-- what append leaves of a slice of slices, whose new element has just been made -/
theorem pushL {W : World} {base m : Nat} {av : Option Addr} {ac : Nat} {xss : List (List Str)} (ho : OwnSS W base (.slice av m ac) xss) (hm : xss.length = m) (hb : base ≤ W.heap.size) (z : Trip) :
    ∃ vs, ((W.alloc (tripB z)).alloc (.cells #[.slice (some ⟨W.heap.size, 0, none⟩) 3 3] 26)).ownsRow base 26 1 (.slice av m ac) m vs ∧
      (∀ j u, [Value.slice (some ⟨W.heap.size, 0, none⟩) 3 3][j]? = some u → ((W.alloc (tripB z)).alloc (.cells #[.slice (some ⟨W.heap.size, 0, none⟩) 3 3] 26)).cell? ((⟨W.heap.size + 1, 0, none⟩ : Addr).add j) = some u) ∧
      ∀ w1 v', w1.ownsRow base 26 1 v' (m + 1) (vs ++ [.slice (some ⟨W.heap.size, 0, none⟩) 3 3]) → ((W.alloc (tripB z)).alloc (.cells #[.slice (some ⟨W.heap.size, 0, none⟩) 3 3] 26)).grownBy w1 (Value.slice av m ac).ownBlock →
        OwnSS w1 base v' (xss ++ [tripS z]) ∧ Below base W w1 ∧ ∀ k x, RuleAt W k x → RuleAt w1 k x := by
  have ba := (Below.refl W.heap.size W).alloc (Nat.le_refl _) (tripB z)
  obtain ⟨vs, h1, h2⟩ := (ho.below ba).ready (Nat.le_trans hb ba.size) (OwnS.three W hb _ _ _)
  rw [hm] at h1 h2
  refine ⟨vs, h1.alloc _, ?_, fun w1 v' hown hg => ?_⟩
  · have := cell_one_new (W.alloc (tripB z)) (.slice (some ⟨W.heap.size, 0, none⟩) 3 3) 26
    rw [World.size_alloc] at this
    exact this
  · obtain ⟨n1, n2⟩ := h2 w1 v' _ hown hg
    exact ⟨n1, ((Below.refl base W).alloc hb _).trans n2, fun k x hr => RuleAt.turn ((hr.grown (World.grownBy_alloc W _ none)).grown (World.grownBy_alloc _ _ none)) hg (own_type (h1.alloc _))⟩
set_option maxRecDepth 100000 in
set_option maxHeartbeats 2000000 in
theorem pair41 (x y : Rule) (same : Bool) (w : World) (h1 : x.1.length ≤ 64) (h2 : x.2.length ≤ 64) (h3 : y.1.length ≤ 64) (h4 : y.2.length ≤ 64) :
    Calls Try.prog 41 #[.agg #[.string (bs x.1), .string (bs x.2)], .agg #[.string (bs y.1), .string (bs y.2)], .bool same] w fun e w' => ∃ v, e = .returned v ∧ OwnSS w' w.heap.size v ((pairL x y same).map tripS) ∧ Below w.heap.size w w' := by
  go_enter Try.func41, Try.ntmps41
  go_wp2_with (fail)
  obtain ⟨W4, hW4⟩ : ∃ W4, ((w.alloc (.cells #[.string (bs x.1), .string (bs x.2)] 46)).alloc (.cells #[.string (bs y.1), .string (bs y.2)] 46)).alloc (.cells #[] 26) = W4 := ⟨_, rfl⟩
  have B4 := Lib.hid (show Below w.heap.size w W4 by rw [← hW4]; exact (((Below.refl _ w).alloc (Nat.le_refl _) _).alloc (by simp) _).alloc (by simp; omega) _)
  have HX := Lib.hid (show RuleAt W4 w.heap.size x by rw [← hW4]; exact ((RuleAt.new w x).grown (World.grownBy_alloc _ _ none)).grown (World.grownBy_alloc _ _ none))
  have HY := Lib.hid (show RuleAt W4 (w.heap.size + 1) y by
    rw [← hW4]
    have := RuleAt.new (w.alloc (.cells #[.string (bs x.1), .string (bs x.2)] 46)) y
    rw [World.size_alloc] at this
    exact this.grown (World.grownBy_alloc _ _ none))
  have HO := Lib.hid (show OwnSS W4 w.heap.size (.slice (some ⟨w.heap.size + 1 + 1, 0, none⟩) 0 0) [] by
    rw [← hW4]
    have := OwnSS.empty (base := w.heap.size) ((w.alloc (.cells #[.string (bs x.1), .string (bs x.2)] 46)).alloc (.cells #[.string (bs y.1), .string (bs y.2)] 46)) (by simp; omega)
    simpa only [World.size_alloc] using this)
  have hsz : W4.heap.size = w.heap.size + 3 := by rw [← hW4]; simp
  rw [hW4]
  clear hW4
  obtain ⟨c30, c31⟩ := HX.out.cells
  obtain ⟨c40, c41⟩ := HY.out.cells
  go_quiet (fail)
  have HX2 := Lib.hid (HX.out.grown (grown_drewN W4 nq))
  have HY2 := Lib.hid (HY.out.grown (grown_drewN W4 nq))
  have HO2 := Lib.hid (HO.out.below (bdrewN W4 nq))
  have HB := Lib.hid (B4.out.trans ((bdrewN W4 nq).mono B4.out.size))
  have hsz5 : (W4.drewN nq).heap.size = w.heap.size + 3 := hsz
  clear hsz c30 c31 c40 c41 HX HY HO B4
  generalize W4.drewN nq = W5 at *
  obtain ⟨x1, x2⟩ := x
  obtain ⟨y1, y2⟩ := y
  simp only at h1 h2 h3 h4
  go_wp2_with (fail)
  go_loopw [7, 10] (fun ov kv wr => ∃ t : Nat, t ≤ min x1.length y1.length - 1 ∧ kv = .int .i64 ((t : Int) + 1) ∧ OwnSS wr w.heap.size ov ((ovs (x1, x2) (y1, y2) t).map tripS) ∧ Below w.heap.size w wr ∧ RuleAt wr w.heap.size (x1, x2) ∧ RuleAt wr (w.heap.size + 1) (y1, y2)) (fun _ kv _ => x1.length - (intOf kv).toNat)
  case atStart => exact ⟨0, Nat.zero_le _, rfl, HO2.out, HB.out, HX2.out, HY2.out⟩
  case round =>
    obtain ⟨t, ht, rfl, ho, hb, hx, hy⟩ := hrel
    obtain ⟨c40, c41⟩ := hx.cells
    obtain ⟨c60, c61⟩ := hy.cells
    obtain ⟨av, ac, rfl⟩ := ho.shape
    simp only at c40 c41 c60 c61
    have hml : (ovs (x1, x2) (y1, y2) t).length ≤ t := by
      have := List.length_filterMap_le (fun t => ovl (x1, x2) (y1, y2) (t + 1)) (List.range t)
      rw [List.length_range] at this
      exact this
    rw [List.length_map] at ho ⊢
    generalize hm : (ovs (x1, x2) (y1, y2) t).length = m at *
    have HM := Lib.hid hm
    clear hm
    have HO := Lib.hid ho
    have HBB := Lib.hid hb
    have HXX := Lib.hid hx
    have HYY := Lib.hid hy
    clear ho hb hx hy HO2 HB HX2 HY2
    by_cases htm : t + 1 < min x1.length y1.length
    · have ht1 : t + 1 < x1.length := by omega
      have ht2 : t + 1 < y1.length := by omega
      by_cases he : x1.drop (x1.length - (t + 1)) = y1.take (t + 1)
      · have e2 : (x1.drop (x1.length - (t + 1)) == y1.take (t + 1)) = true := by simpa using he
        have HN := Lib.hid (ovs_yes (ovl_ref (x2 := x2) (y2 := y2) (by omega) he))
        have g1 : ¬ 9223372036854775807 < x1.length + (y1.length - (t + 1)) := by omega
        have g2 : ¬ 9223372036854775807 < x2.length + (y1.length - (t + 1)) := by omega
        have g3 : ¬ 9223372036854775807 < x1.length - (t + 1) + y2.length := by omega
        clear he
        go_wp2_with (fail)
        go_quiet (fail)
        have b5 := bdrewN wr nq
        have d40 := cell_keep b5 c40
        have d41 := cell_keep b5 c41
        have d60 := cell_keep b5 c60
        have d61 := cell_keep b5 c61
        have HO5 := Lib.hid (HO.out.below b5)
        have HB5 := Lib.hid (HBB.out.trans (b5.mono HBB.out.size))
        have HX5 := Lib.hid (HXX.out.grown (grown_drewN wr nq))
        have HY5 := Lib.hid (HYY.out.grown (grown_drewN wr nq))
        clear c40 c41 c60 c61 b5 HO HBB HXX HYY
        generalize wr.drewN nq = w5 at *
        go_wp2_with (fail)
        have p1 : (0 : Int) ≤ (t : Int) + 1 := by omega
        have p2 : (t : Int) + 1 ≤ (y1.length : Int) := by omega
        have p3 : t + 1 ≤ y1.length := by omega
        have p4 : (0 : Int) ≤ (x1.length : Int) - ((t : Int) + 1) := by omega
        have p6 : (t : Int) + 1 ≤ (x1.length : Int) := by omega
        have p7 : ((x1.length : Int) - ((t : Int) + 1)).toNat = x1.length - (t + 1) := by omega
        have p5 : (x1.length : Int) - ((t : Int) + 1) ≤ (x1.length : Int) := by omega
        have pw : IntKind.i64.wrap ((x1.length : Int) - ((t : Int) + 1)) = (x1.length : Int) - ((t : Int) + 1) := IntWalk.i64_in _ (by omega)
        refine (wpIn_wide (n := 20)).1 ?_
        refine wpIn_region_split0 21 _ rfl (by kernel_rfl) (by decide +kernel) (fun v c a w h => h) ?_
        simp only [List.take_succ_cons, List.take_zero, List.drop_succ_cons, List.drop_zero]
        refine wpQuiet_nil ?_
        refine ⟨.slice av m ac, ⟨Or.inl ⟨by rfl, fun w => by go_simp⟩, fun _ => rfl⟩, ?_⟩
        simp only [Act.put, List.setIfInBounds_toArray, List.set_cons_succ, List.set_cons_zero]
        repeat (go_big_quiet_step (fail))
        refine wpQuiet_nil ?_
        rintro w6 ⟨nq, rfl⟩
        clear pw p1 p2 p3 p4 p5 p6 p7 g1 g2 g3
        have HO6 := Lib.hid (HO5.out.below (bdrewN w5 nq))
        have HB6 := Lib.hid (HB5.out.trans ((bdrewN w5 nq).mono HB5.out.size))
        have HX6 := Lib.hid (HX5.out.grown (grown_drewN w5 nq))
        have HY6 := Lib.hid (HY5.out.grown (grown_drewN w5 nq))
        clear d40 d41 d60 d61 HO5 HB5 HX5 HY5
        generalize w5.drewN nq = w6 at *
        obtain ⟨z, hz⟩ : ∃ z : Trip, (x1 ++ y1.drop (t + 1), x2 ++ y1.drop (t + 1), x1.take (x1.length - (t + 1)) ++ y2) = z := ⟨_, rfl⟩
        have ba := (Below.refl w6.heap.size w6).alloc (Nat.le_refl _) (.cells #[.string (bs (x1 ++ y1.drop (t + 1))), .string (bs (x2 ++ y1.drop (t + 1))), .string (bs (x1.take (x1.length - (t + 1)) ++ y2))] 9)
        obtain ⟨i0, hi0, hz0, hz1, hz2⟩ := info_parts info26
        obtain ⟨vs, hown0, hnext⟩ := (HO6.out.below ba).ready (Nat.le_trans HB6.out.size ba.size) (OwnS.three w6 HB6.out.size _ _ _)
        rw [List.length_map, HM.out] at hown0 hnext
        have HOW := Lib.hid hown0
        have HNX := Lib.hid hnext
        have hbs := HB6.out.size
        have hcz : ∀ j u, [Value.slice (some ⟨w6.heap.size, 0, none⟩) 3 3][j]? = some u → ((w6.alloc (.cells #[.string (bs (x1 ++ y1.drop (t + 1))), .string (bs (x2 ++ y1.drop (t + 1))), .string (bs (x1.take (x1.length - (t + 1)) ++ y2))] 9)).alloc (.cells #[.slice (some ⟨w6.heap.size, 0, none⟩) 3 3] 26)).cell? ((⟨w6.heap.size + 1, 0, none⟩ : Addr).add j) = some u := by
          have := cell_one_new (w6.alloc (.cells #[.string (bs (x1 ++ y1.drop (t + 1))), .string (bs (x2 ++ y1.drop (t + 1))), .string (bs (x1.take (x1.length - (t + 1)) ++ y2))] 9)) (.slice (some ⟨w6.heap.size, 0, none⟩) 3 3) 26
          rw [World.size_alloc] at this
          exact this
        have HCZ := Lib.hid hcz
        clear hown0 hnext hcz ba HO6
        gi_wp2_with (gi_at_builtin; refine wpListIn_append_own _ rfl _ _ 30 rfl w.heap.size 26 i0 (.slice none 0 0) 1 24 Try.underlying30 hi0 hz0 hz1 hz2 rfl (by decide) _ _ _ rfl (HOW.out.alloc _) ⟨w6.heap.size + 1, 0, none⟩ 1 1 [.slice (some ⟨w6.heap.size, 0, none⟩) 3 3] rfl rfl HCZ.out (by simp [Value.oneCell']) (by unfold maxLen; omega) (by omega) (by simp; omega) ?_; intro v1 w7 hown1 hgrow1 _; have HO2 := Lib.hid hown1; have HG := Lib.hid hgrow1; clear hown1 hgrow1)
        obtain ⟨n1, n2⟩ := HNX.out w7 v1 _ HO2.out HG.out
        have HN1 := Lib.hid n1
        have HN2 := Lib.hid n2
        have hty : ∀ r, (Value.slice av m ac).ownBlock = some r → ∃ cur z, ((w6.alloc (.cells #[.string (bs (x1 ++ y1.drop (t + 1))), .string (bs (x2 ++ y1.drop (t + 1))), .string (bs (x1.take (x1.length - (t + 1)) ++ y2))] 9)).alloc (.cells #[.slice (some ⟨w6.heap.size, 0, none⟩) 3 3] 26)).heap[r]? = some (.cells cur 26 z) := own_type (HOW.out.alloc _)
        have HX7 := Lib.hid ((HX6.out.grown ((World.grownBy_alloc w6 _ none))).grown (World.grownBy_alloc _ _ none) |> fun h => RuleAt.turn h HG.out hty)
        have HY7 := Lib.hid ((HY6.out.grown ((World.grownBy_alloc w6 _ none))).grown (World.grownBy_alloc _ _ none) |> fun h => RuleAt.turn h HG.out hty)
        have HB7 := Lib.hid (show Below w.heap.size w w7 from (HB6.out.alloc HB6.out.size _).trans n2)
        clear n1 n2 hty HOW HNX HCZ HO2 HG hz0 hz1 hz2 hi0 hbs
        go_wp2_with (fail)
        go_roundw
        case rel => exact ⟨t + 1, by omega, by simp, by rw [HN.out, List.map_append]; exact HN1.out, HB7.out, HX7.out, HY7.out⟩
        case measure => simp [intOf]; omega
      · have e2 : (x1.drop (x1.length - (t + 1)) == y1.take (t + 1)) = false := by simpa using he
        have HN := Lib.hid (ovs_no (ovl_none (x2 := x2) (y2 := y2) (by omega) he))
        clear he
        go_wp2_with (fail)
        go_quiet (fail)
        go_wp2_with (fail)
        go_roundw
        case rel => exact ⟨t + 1, by omega, by simp, by rw [HN.out]; have := HO.out.below (bdrewN wr nq); simpa using this, HBB.out.trans ((bdrewN wr nq).mono HBB.out.size), HXX.out.grown (grown_drewN wr nq), HYY.out.grown (grown_drewN wr nq)⟩
        case measure => simp [intOf]; omega
    · have HOV := Lib.hid (show OwnSS wr w.heap.size (.slice av m ac) ((ovs (x1, x2) (y1, y2) (min x1.length y1.length - 1)).map tripS) by rw [show min x1.length y1.length - 1 = t by omega]; exact HO.out)
      have hmm : m ≤ 64 := by omega
      clear HO HM hml
      rcases (show (t + 1 < x1.length ∧ ¬ t + 1 < y1.length) ∨ ¬ t + 1 < x1.length by omega) with ⟨hx1, hy1⟩ | hx1
      all_goals
        clear htm ht
        cases same
        case' true =>
          go_wp2_with (fail)
          go_ret
          exact ⟨_, rfl, by rw [pairL_same]; exact HOV.out, HBB.out⟩
        case' false =>
          go_wp2_with (fail)
          go_loopw [7, 11] (fun ov iv wq => ∃ i : Nat, i ≤ x1.length ∧ iv = .int .i64 i ∧ OwnSS wq w.heap.size ov ((ovs (x1, x2) (y1, y2) (min x1.length y1.length - 1) ++ incs (x1, x2) (y1, y2) false i).map tripS) ∧ PT w.heap.size w (x1, x2) (y1, y2) wq) (fun _ iv _ => x1.length - (intOf iv).toNat)
          case atStart => exact ⟨0, Nat.zero_le _, rfl, by rw [incs_zero, List.append_nil]; exact HOV.out, HXX.out, HYY.out, HBB.out⟩
          case round =>
            obtain ⟨i, hi, rfl, ho, hp⟩ := hrel
            obtain ⟨av2, ac2, rfl⟩ := ho.shape
            have hml2 : (ovs (x1, x2) (y1, y2) (min x1.length y1.length - 1) ++ incs (x1, x2) (y1, y2) false i).length ≤ 128 := by
              have h1 := List.length_filterMap_le (fun t => ovl (x1, x2) (y1, y2) (t + 1)) (List.range (min x1.length y1.length - 1))
              have h2 := List.length_filterMap_le (inc (x1, x2) (y1, y2)) (List.range i)
              rw [List.length_range] at h1 h2
              rw [List.length_append]
              have e1 : (ovs (x1, x2) (y1, y2) (min x1.length y1.length - 1)).length ≤ min x1.length y1.length - 1 := h1
              have e2 : (incs (x1, x2) (y1, y2) false i).length ≤ i := h2
              omega
            rw [List.length_map] at ho ⊢
            generalize hm2 : (ovs (x1, x2) (y1, y2) (min x1.length y1.length - 1) ++ incs (x1, x2) (y1, y2) false i).length = m2 at *
            have HM2 := Lib.hid hm2
            have HO2 := Lib.hid ho
            have HP := Lib.hid hp
            clear hm2 ho hp
            by_cases hlt : i < x1.length
            · have HA := Lib.hid (at57 x1 y1 i wr (by omega) (by omega) hi)
              cases hpx : y1.isPrefixOf (x1.drop i)
              · rw [hpx] at HA
                have HI := Lib.hid (incs_no (same := false) (show inc (x1, x2) (y1, y2) i = none by simp [inc, hpx]))
                clear hpx
                go_wp2_with (fail)
                refine HA.out.mono ?_
                rintro e w8 ⟨rfl, rfl⟩
                go_wp2_with (fail)
                go_roundw
                case rel => exact ⟨i + 1, by omega, by go_num, by rw [HI.out]; exact HO2.out, HP.out⟩
                case measure => simp [intOf]; omega
              · rw [hpx] at HA
                have HI := Lib.hid (incs_yes (show inc (x1, x2) (y1, y2) i = some (x1, x2, x1.take i ++ (y2 ++ x1.drop (i + y1.length))) by simp [inc, hpx]))
                have hpl := pre_len hpx hi
                have H58 := Lib.hid (fun W => replace58 x1 y1 y2 i W (by omega) (by omega) (by omega) hpl)
                clear hpx
                go_wp2_with (fail)
                refine HA.out.mono ?_
                rintro e w8 ⟨rfl, rfl⟩
                clear HA
                obtain ⟨c30, c31⟩ := HP.out.x.cells
                obtain ⟨c40, c41⟩ := HP.out.y.cells
                simp only at c30 c31 c40 c41
                obtain ⟨i0, hi0, hz0, hz1, hz2⟩ := info_parts info26
                have HK := Lib.hid (show ∀ W, PT w.heap.size w (x1, x2) (y1, y2) W → (W.cell? ⟨w.heap.size, 1, none⟩ = some (.string (bs x2)) ∧ W.cell? ⟨w.heap.size + 1, 0, none⟩ = some (.string (bs y1)) ∧ W.cell? ⟨w.heap.size + 1, 1, none⟩ = some (.string (bs y2)) ∧ PT w.heap.size w (x1, x2) (y1, y2) W) from
                  fun W h => ⟨h.x.cells.2, h.y.cells.1, h.y.cells.2, h⟩)
                have HPD := Lib.hid (HP.out.below (Below.refl _ wr).drew)
                have HOD := Lib.hid (HO2.out.below (Below.refl _ wr).drew)
                have HZ := Lib.hid (And.intro hz0 (And.intro hz1 hz2))
                clear hpl hz0 hz1 hz2
                go_wp2_with (fail)
                go_region_held3 (fun W => W.cell? ⟨w.heap.size, 1, none⟩ = some (.string (bs x2)) ∧ W.cell? ⟨w.heap.size + 1, 0, none⟩ = some (.string (bs y1)) ∧ W.cell? ⟨w.heap.size + 1, 1, none⟩ = some (.string (bs y2)) ∧ PT w.heap.size w (x1, x2) (y1, y2) W) ((refine HK.out _ ?_; first | exact HPD.out | exact PT.below HPD.out hb2 | exact PT.below (PT.below HPD.out hb2) (balloc _ _) | exact PT.below (PT.below (PT.below HPD.out hb2) (balloc _ _)) (balloc _ _) | exact HP9.out))
                  (first
                    | (go_at_call 58; refine Calls.mono (H58.out _) ?_; rintro e w8 ⟨rfl, hb2⟩)
                    | (obtain ⟨vs, hown, hcz, hnx⟩ := pushL (HOD.out.below hb2) (by rw [List.length_map]; exact HM2.out) (PT.below HPD.out hb2).bel.size (x1, x2, x1.take i ++ (y2 ++ x1.drop (i + y1.length)))
                       refine step_append_lies ((w8.alloc (tripB (x1, x2, x1.take i ++ (y2 ++ x1.drop (i + y1.length))))).alloc (.cells #[.slice (some ⟨w8.heap.size, 0, none⟩) 3 3] 26)) rfl (.tmp 75) (.tmp 84) 30 rfl w.heap.size 26 i0 (.slice none 0 0) 1 24 Try.underlying30 hi0 HZ.out.1 HZ.out.2.1 HZ.out.2.2 rfl (by decide) (.slice av2 m2 ac2) m2 vs rfl hown ⟨w8.heap.size + 1, 0, none⟩ 1 1 [.slice (some ⟨w8.heap.size, 0, none⟩) 3 3] rfl rfl hcz (by simp [Value.oneCell']) (by decide) (by unfold maxLen; omega) (by omega) (by have := (PT.below HPD.out hb2).bel.size; simp; omega) _ rfl ?_
                       intro g9 k9 w9 hown9 hgrow9 hat9 hlt9
                       have HPU := Lib.hid (hnx w9 (.slice (some ⟨g9, 0, none⟩) (m2 + 1) k9) hown9 hgrow9)
                       have HP9 := Lib.hid (show PT w.heap.size w (x1, x2) (y1, y2) w9 from ⟨HPU.out.2.2 _ _ (PT.below HPD.out hb2).x, HPU.out.2.2 _ _ (PT.below HPD.out hb2).y, (PT.below HPD.out hb2).bel.trans HPU.out.2.1⟩)
                       clear hown9 hgrow9 hat9 hlt9 hown hcz hnx))
                go_wp2_with (fail)
                exact ⟨⟨i + 1, by omega, by go_num, by rw [HI.out, ← List.append_assoc, List.map_append]; exact HPU.out.1, HP9.out⟩, by simp [intOf]; omega⟩
            · obtain rfl : i = x1.length := by omega
              go_wp2_with (fail)
              go_ret
              exact ⟨_, rfl, HO2.out, HP.out.bel⟩
end Go.Proofs.Ytamdonlncfmmmaa
