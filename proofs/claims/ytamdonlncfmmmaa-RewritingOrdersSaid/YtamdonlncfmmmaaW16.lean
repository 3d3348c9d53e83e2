/-
  The critical pairs' iterator.
-/
import Derived.Test.YtamdonlncfmmmaaQTail
import Derived.Test.YtamdonlncfmmmaaRangeR
import Derived.Test.YtamdonlncfmmmaaPCrit
import Derived.Test.YtamdonlncfmmmaaW15
namespace Go.Proofs.Ytamdonlncfmmmaa
open Go.RowKit Go.Ap Go.Shelf Go.Proofs

attribute [local go_sem] Oper.semAt_some bs_toList empty_toList bs_size ext_drop ext_take bs_append

/-- what the consumer of a pair answers -/
def AnsC (J Jx : List Elt → World → Prop) (e b : Nat) (pre : List Elt) (x : Elt) (W : World) (q : Bool) (W' : World) : Prop :=
  (q = true ∧ J (pre ++ [x]) W' ∧ KeepC e b W W') ∨ (q = false ∧ Jx (pre ++ [x]) W')
/-- where the iterator stands: L has come up -/
structure AtC (J : List Elt → World → Prop) (e b : Nat) (W : World) (L : List Trip) (wr : World) : Prop where
  pre : ∃ pre : List Elt, pre.map (·.2) = L ∧ J pre wr
  keep : KeepC e b W wr

theorem AtC.grown {J : List Elt → World → Prop} {e b : Nat} {W wr w2 : World} {L : List Trip} (h : AtC J e b W L wr) (hJ : AbidesFrom W.heap.size J) (he : e ≤ W.heap.size) (hb : b < W.heap.size) (hg : wr.grownBy w2 none) : AtC J e b W L w2 := by
  obtain ⟨⟨p, hp, hJp⟩, hk⟩ := h
  exact ⟨⟨p, hp, hJ _ _ _ none hJp hg (by simp)⟩, hk.trans (KeepC.grown (Nat.le_trans he hk.size) (Nat.lt_of_lt_of_le hb hk.size) hg (fun r h => by cases h))⟩
/-- within a pair -/
structure At2 (J : List Elt → World → Prop) (e b : Nat) (W : World) (L : List Trip) (Bx By : Nat) (x y : Rule) (wr : World) : Prop where
  at' : AtC J e b W L wr
  x : RuleAt wr Bx x
  y : RuleAt wr By y
theorem At2.grown {J : List Elt → World → Prop} {e b : Nat} {W wr w2 : World} {L : List Trip} {Bx By : Nat} {x y : Rule} (h : At2 J e b W L Bx By x y wr) (hJ : AbidesFrom W.heap.size J) (he : e ≤ W.heap.size) (hb : b < W.heap.size) (hg : wr.grownBy w2 none) : At2 J e b W L Bx By x y w2 :=
  ⟨h.at'.grown hJ he hb hg, h.x.grown hg, h.y.grown hg⟩

/-- HasPrefix as the iterator calls it -/
theorem hasp_yes (p s : Str) (W : World) (h : p.isPrefixOf s = true) :
    Calls Try.prog 62 #[.string (bs s), .string (bs p)] W fun e w' => e = .returned (.bool true) ∧ w' = W :=
  (Try.strings_HasPrefix (bs s) (bs p) W).mono fun e w' ⟨he, hw⟩ => ⟨by rw [he, bs_list, bs_list]; have h2 : Lib.hasPrefix s p = true := h; rw [h2], hw⟩
theorem hasp_no (p s : Str) (W : World) (h : p.isPrefixOf s = false) :
    Calls Try.prog 62 #[.string (bs s), .string (bs p)] W fun e w' => e = .returned (.bool false) ∧ w' = W :=
  (Try.strings_HasPrefix (bs s) (bs p) W).mono fun e w' ⟨he, hw⟩ => ⟨by rw [he, bs_list, bs_list]; have h2 : Lib.hasPrefix s p = false := h; rw [h2], hw⟩

theorem cut_any (s p : Str) (i : Nat) : ∃ (r : Str) (b : Bool), (b = false ∧ inc (s, r) (p, r) i = none ∧ p.isPrefixOf (s.drop i) = false ∨ b = true ∧ p.isPrefixOf (s.drop i) = true ∧ r = s.drop (i + p.length)) ∧ ∀ W, Calls Try.prog 33 #[.string (bs (s.drop i)), .string (bs p)] W fun e w' => e = .returned (.tuple #[.string (bs r), .bool b]) ∧ w' = W := by
  cases h : p.isPrefixOf (s.drop i)
  · exact ⟨s.drop i, false, .inl ⟨rfl, by simp [inc, h], rfl⟩, fun W => cut_no s p i W h⟩
  · exact ⟨_, true, .inr ⟨rfl, rfl, rfl⟩, fun W => cut_yes s p i W h⟩

set_option maxRecDepth 100000 in
set_option maxHeartbeats 4000000 in
theorem critical61 (F : Fence) (hF : F = Fence.wide) (m : Nat) (hm : 1 ≤ m) (l Br e n c : Nat) (a : Option Addr) (rs : List Rule) (J Jx : List Elt → World → Prop)
    (hY : ∀ pre x W, J pre W → RdE e W x → (pre ++ [x]).map (·.2) <+: critL rs → YieldAt F (m - 1) Try.prog l #[eltV x] W fun en W' =>
      (en = .returned (.bool true) ∧ J (pre ++ [x]) W' ∧ KeepC e Br W W') ∨ (en = .returned (.bool false) ∧ Jx (pre ++ [x]) W'))
    (W w0 : World) (he : w0.heap.size = e) (heW : e ≤ W.heap.size) (hBr : Br < W.heap.size) (hwW : Below e w0 W) (hx : Rls w0 a n rs) (hJ : AbidesFrom W.heap.size J)
    (hcr : W.cell? ⟨Br, 0, none⟩ = some (.slice a n c)) (h0 : J [] W) :
    CallsIn F m Try.prog 61 #[.func (.yield l) #[] #[], .pointer (some ⟨Br, 0, none⟩)] W fun en W' => (∃ v, en = .returned v) ∧
      ((∃ zs, zs.map (·.2) = critL rs ∧ J zs W') ∨ (∃ pre, pre.map (·.2) <+: critL rs ∧ Jx pre W')) := by
  subst hF
  have HX := Lib.hid hx
  have HL := Lib.hid hx.len
  have HJ := Lib.hid hJ
  have hsm := hx.small
  have HY := Lib.hid (show ∀ pre x W, J pre W → RdE e W x → (pre ++ [x]).map (·.2) <+: critL rs → YieldAt Fence.wide (m - 1) Try.prog l #[eltV x] W fun en W' => ∃ b, en = .returned (.bool b) ∧ AnsC J Jx e Br pre x W b W' from fun pre x W h1 h2 h3 => (hY pre x W h1 h2 h3).mono fun en W' h => by
    rcases h with ⟨h, h3⟩ | ⟨h, h3⟩
    · exact ⟨true, h, .inl ⟨rfl, h3⟩⟩
    · exact ⟨false, h, .inr ⟨rfl, h3⟩⟩)
  clear hY hx hJ
  refine callsIn_of_wp Try.func61 rfl trivial ?_ rfl
  simp only [Try.ntmps61, List.size_toArray, List.length_cons, List.length_nil, Nat.reduceAdd, Nat.reduceSub, Array.replicate_succ, Array.replicate_zero, List.push_toArray, List.append_toArray, List.nil_append, List.cons_append]
  gi_wp2
  gi_loopw [14] (fun iv wr => ∃ i : Nat, i ≤ n ∧ iv = .int .i64 i ∧ AtC J e Br W (headL rs i 0) wr) (fun iv _ => n - (intOf iv).toNat)
  case atStart => exact ⟨0, Nat.zero_le _, rfl, ⟨[], by rw [headL_zero]; rfl, h0⟩, KeepC.refl _ _ _⟩
  case round =>
    obtain ⟨wo, rfl⟩ : ∃ wo : World, wo = wr := ⟨_, rfl⟩
    obtain ⟨i, hi, rfl, hat⟩ := hrel
    by_cases hin : i < n
    · have HAT := Lib.hid hat
      have hcr1 : wo.cell? ⟨Br, 0, none⟩ = some (.slice a n c) := (hat.keep.cell (.inr rfl)).trans hcr
      obtain ⟨⟨x, x'⟩, b, off, hxx, rfl, hc1, hc2, hl1, hl2⟩ := (HX.out.mono (Nat.le_of_eq he) (hwW.trans hat.keep.below)).at hin
      simp only at hc1 hc2 hl1 hl2
      have HXX := Lib.hid hxx
      have hszo := hat.keep.size
      have hcr2 : (wo.alloc (.cells #[.string (bs x), .string (bs x')] 46)).cell? ⟨Br, 0, none⟩ = some (.slice (some ⟨b, off, none⟩) n c) := cell_keep (balloc _ _) hcr1
      have hat1 : AtC J e Br W (headL rs i 0) (wo.alloc (.cells #[.string (bs x), .string (bs x')] 46)) := by
        obtain ⟨⟨p, hp, hJp⟩, hk⟩ := hat
        exact ⟨⟨p, hp, HJ.out _ _ _ none hJp (World.grownBy_alloc wo _ none) (by simp)⟩, hk.trans (KeepC.alloc (Nat.le_trans heW hszo) (Nat.lt_of_lt_of_le hBr hszo) _)⟩
      have hrx : RuleAt (wo.alloc (.cells #[.string (bs x), .string (bs x')] 46)) wo.heap.size (x, x') := RuleAt.new wo (x, x')
      have HAT1 := Lib.hid hat1
      have HRX := Lib.hid hrx
      clear hxx hat hat1 hrx HAT
      gi_wp2_with (fail)
      clear hcr1 hc1 hc2
      generalize wo.alloc (.cells #[.string (bs x), .string (bs x')] 46) = W1 at *
      generalize wo.heap.size = Bx at *
      gi_loopw [21] (fun jv wr => ∃ j : Nat, j ≤ n ∧ jv = .int .i64 j ∧ AtC J e Br W (headL rs i j) wr ∧ RuleAt wr Bx (x, x')) (fun jv _ => n - (intOf jv).toNat)
      case atStart => exact ⟨0, Nat.zero_le _, rfl, HAT1.out, HRX.out⟩
      case round =>
        obtain ⟨wj, rfl⟩ : ∃ wj : World, wj = wr := ⟨_, rfl⟩
        obtain ⟨j, hj, rfl, hat, hrx⟩ := hrel
        by_cases hjn : j < n
        · obtain ⟨⟨y, y'⟩, b2, off2, hyy, hb2, hd1, hd2, hl3, hl4⟩ := (HX.out.mono (Nat.le_of_eq he) (hwW.trans hat.keep.below)).at hjn
          injection hb2 with hb2
          injection hb2 with h1 h2
          subst h1 h2
          simp only at hd1 hd2 hl3 hl4
          have HYY := Lib.hid hyy
          have hg2 := World.grownBy_alloc wj (.cells #[.string (bs y), .string (bs y')] 46) none
          have H2 := Lib.hid (show At2 J e Br W (headL rs i j) Bx wj.heap.size (x, x') (y, y') (wj.alloc (.cells #[.string (bs y), .string (bs y')] 46)) from
            ⟨hat.grown HJ.out heW hBr hg2, hrx.grown hg2, RuleAt.new wj (y, y')⟩)
          clear hat hrx hyy hg2 HAT1 HRX hcr2 h0
          gi_wp2_with (fail)
          clear hd1 hd2
          generalize wj.alloc (.cells #[.string (bs y), .string (bs y')] 46) = W2 at *
          generalize wj.heap.size = By at *
          gi_loopw [7] (fun kv wr => ∃ t : Nat, t ≤ min x.length y.length - 1 ∧ kv = .int .i64 ((t : Int) + 1) ∧ At2 J e Br W (headL rs i j ++ ovs (x, x') (y, y') t) Bx By (x, x') (y, y') wr) (fun kv _ => x.length - (intOf kv).toNat)
          case atStart => exact ⟨0, Nat.zero_le _, rfl, by rw [ovs_zero, List.append_nil]; exact H2.out⟩
          case round =>
            obtain ⟨t, ht, rfl, hat⟩ := hrel
            obtain ⟨c40, c41⟩ := hat.x.cells
            obtain ⟨c60, c61⟩ := hat.y.cells
            simp only at c40 c41 c60 c61
            have HAT := Lib.hid hat
            clear hat H2
            by_cases htm : t + 1 < min x.length y.length
            · have ht1 : t + 1 < x.length := by omega
              have ht2 : t + 1 < y.length := by omega
              obtain ⟨hd, hhd⟩ : ∃ hd, x.take (x.length - (t + 1)) = hd := ⟨_, rfl⟩
              have hdl : hd.length = x.length - (t + 1) := by rw [← hhd]; simp
              have hdle : hd.length ≤ x.length := by omega
              gi_wp2_with (fail)
              rw [hhd]
              cases hp : (x.drop hd.length).isPrefixOf y
              · have HP := Lib.hid (ovs_no (x := (x, x')) (y := (y, y')) (t := t) (show ovl (x, x') (y, y') (t + 1) = none by simp only [ovl]; rw [← hdl, hp]; rfl))
                have HC := Lib.hid (fun W => hasp_no (x.drop hd.length) y W hp)
                clear hp hhd hdl
                refine wpIn_wide.2 ?_
                go_quiet ((go_at_call 62; exact Calls.quiet_of_same (HC.out _)))
                gi_wp2_with (fail)
                go_roundw
                case rel => exact ⟨t + 1, by omega, by simp, by rw [HP.out]; exact HAT.out.grown HJ.out heW hBr (grown_drewN _ _)⟩
                case measure => simp [intOf]; omega
              · have HP := Lib.hid (ovs_yes (x := (x, x')) (y := (y, y')) (t := t) (show ovl (x, x') (y, y') (t + 1) = some (hd ++ y, x' ++ y.drop (t + 1), hd ++ y') by simp only [ovl]; rw [hhd, ← hdl, hp]; rfl))
                have HC := Lib.hid (fun W => hasp_yes (x.drop hd.length) y W hp)
                have HPR := Lib.hid (head_pre HXX.out HYY.out (ovs_pre (same := decide (i = j)) (x := (x, x')) (y := (y, y')) (t := t + 1) (by simp only; omega)))
                clear hp hhd
                have g1 : ¬ 9223372036854775807 < hd.length + y.length := by omega
                have g2 : ¬ 9223372036854775807 < x'.length + (y.length - (t + 1)) := by omega
                have g3 : ¬ 9223372036854775807 < hd.length + y'.length := by omega
                clear hdl
                refine wpIn_region_split 9 25 _ rfl (by kernel_rfl) (by kernel_rfl) (fun v c a w h => h) ?_
                simp only [List.take_succ_cons, List.take_zero, List.drop_succ_cons, List.drop_zero]
                repeat (go_big_quiet_step ((go_at_call 62; exact Calls.quiet_of_same (HC.out _))))
                refine wpQuiet_nil ?_
                refine ⟨.func (.yield l) #[] #[], ⟨Or.inl ⟨by rfl, fun w => by go_simp⟩, fun _ => rfl⟩, ?_⟩
                simp only [Act.put, List.setIfInBounds_toArray, List.set_cons_succ, List.set_cons_zero]
                repeat (go_big_quiet_step (fail))
                refine wpQuiet_nil ?_
                rintro w5 ⟨nq, rfl⟩
                have hat5 := HAT.out.grown HJ.out heW hBr (grown_drewN wr nq)
                generalize wr.drewN nq = W5 at *
                obtain ⟨z, hz⟩ : ∃ z : Trip, (hd ++ y, x' ++ y.drop (t + 1), hd ++ y') = z := ⟨_, rfl⟩
                have g6 := World.grownBy_alloc W5 (.cells #[.string (bs (hd ++ y)), .string (bs (x' ++ y.drop (t + 1))), .string (bs (hd ++ y'))] 9) none
                have hat6 := hat5.grown HJ.out heW hBr g6
                have hrd := RdE.new (e := e) W5 (Nat.le_trans heW hat5.at'.keep.size) z
                rw [← hz] at hrd
                simp only at hrd
                obtain ⟨⟨pre, hpre, hJp⟩, hk6⟩ := hat6.at'
                obtain ⟨fn, tmps, assign, body, hy, hR⟩ := HY.out pre (W5.heap.size, (hd ++ y, x' ++ y.drop (t + 1), hd ++ y')) _ hJp hrd (by
                  rw [List.map_append, hpre]
                  have := HPR.out
                  rw [HP.out, ← List.append_assoc] at this
                  exact this)
                simp only [eltV] at hy
                have H6 := Lib.hid hat6
                have HPE := Lib.hid hpre
                clear g6 hat6 hrd hpre hJp hk6 hat5 HAT c40 c41 c60 c61 hz
                gi_wp2_with (refine hR.mono ?_; rintro en W7 ⟨ans, rfl, hans⟩)
                all_goals rcases hans with ⟨hb, hJ3, hk3⟩ | ⟨hb, hJx3⟩
                all_goals subst hb
                all_goals try contradiction
                all_goals first
                  | refine bodyPost_ret (results_none rfl _ _ _) rfl ?_
                    refine ⟨⟨_, rfl⟩, .inr ⟨_, ?_, hJx3⟩⟩
                    rw [List.map_append, HPE.out]
                    have := HPR.out
                    rw [HP.out, ← List.append_assoc] at this
                    exact this
                  | refine ⟨⟨t + 1, by omega, by simp, ⟨⟨⟨_, ?_, hJ3⟩, H6.out.at'.keep.trans hk3⟩, H6.out.x.keep hk3, H6.out.y.keep hk3⟩⟩, by simp [intOf]; omega⟩
                    rw [List.map_append, HPE.out, HP.out, List.append_assoc]
                    rfl
            · obtain rfl : t = min x.length y.length - 1 := by omega
              gi_wp2_with (fail)
              clear c40 c41 c60 c61
              gi_loopw [77] (fun qv wr => ∃ q : Nat, q ≤ x.length ∧ qv = .int .i64 q ∧ At2 J e Br W (headL rs i j ++ (ovs (x, x') (y, y') (min x.length y.length - 1) ++ incs (x, x') (y, y') (decide (i = j)) q)) Bx By (x, x') (y, y') wr) (fun qv _ => x.length - (intOf qv).toNat)
              case atStart => exact ⟨0, Nat.zero_le _, rfl, by rw [incs_zero, List.append_nil]; exact HAT.out⟩
              case round =>
                obtain ⟨q, hq, rfl, hat⟩ := hrel
                by_cases hqx : q < x.length
                · obtain ⟨c40, c41⟩ := hat.x.cells
                  obtain ⟨c60, c61⟩ := hat.y.cells
                  simp only at c40 c41 c60 c61
                  have HAT2 := Lib.hid hat
                  clear hat HAT
                  obtain ⟨r, p, hr, hcut⟩ := cut_any x y q
                  have HC := Lib.hid hcut
                  clear hcut
                  gi_wp2_with (fail)
                  refine wpIn_wide.2 ?_
                  go_quiet ((go_at_call 33; exact Calls.quiet_of_same (HC.out _)))
                  have HAT3 := Lib.hid (HAT2.out.grown HJ.out heW hBr (grown_drewN wr nq))
                  obtain ⟨c40, c41⟩ := HAT3.out.x.cells
                  obtain ⟨c60, c61⟩ := HAT3.out.y.cells
                  simp only at c40 c41 c60 c61
                  clear HAT2
                  generalize wr.drewN nq = W8 at *
                  by_cases hij : i = j
                  · have e1 : ((i : Int) != (j : Int)) = false := by simp [hij]
                    have HE := Lib.hid (show ∀ m, incs (x, x') (y, y') (decide (i = j)) m = [] from fun m => by rw [decide_eq_true hij]; rfl)
                    clear hij
                    gi_wp2_with (fail)
                    refine wpIn_wide.2 ?_
                    go_quiet (fail)
                    gi_wp2_with (fail)
                    go_roundw
                    case rel => exact ⟨q + 1, by omega, by simp, by have := HAT3.out; rw [HE.out] at this ⊢; exact this.grown HJ.out heW hBr (grown_drewN _ _)⟩
                    case measure => simp [intOf]; omega
                  · have e1 : ((i : Int) != (j : Int)) = true := by simp; omega
                    rcases hr with ⟨rfl, _, hp⟩ | ⟨rfl, hp, rfl⟩
                    · have HE := Lib.hid (incs_no (same := decide (i = j)) (show inc (x, x') (y, y') q = none by simp only [inc]; rw [hp]; rfl))
                      clear hij hp
                      gi_wp2_with (fail)
                      refine wpIn_wide.2 ?_
                      go_quiet (fail)
                      gi_wp2_with (fail)
                      go_roundw
                      case rel => exact ⟨q + 1, by omega, by simp, by rw [HE.out]; exact HAT3.out.grown HJ.out heW hBr (grown_drewN _ _)⟩
                      case measure => simp [intOf]; omega
                    · have HP := Lib.hid (show incs (x, x') (y, y') (decide (i = j)) (q + 1) = incs (x, x') (y, y') (decide (i = j)) q ++ [(x, x', x.take q ++ (y' ++ x.drop (q + y.length)))] by
                        rw [decide_eq_false hij]; exact incs_yes (by simp only [inc]; rw [hp]; rfl))
                      have HPR := Lib.hid (head_pre HXX.out HYY.out (incs_pre (same := decide (i = j)) (x := (x, x')) (y := (y, y')) (n := q + 1) (by simp only; omega)))
                      clear hij hp
                      have g1 : ¬ 9223372036854775807 < q + y'.length := by omega
                      have g2 : ¬ 9223372036854775807 < q + y'.length + (x.length - (q + y.length)) := by omega
                      gi_wp2_with (fail)
                      refine wpIn_region_split 7 21 _ rfl (by kernel_rfl) (by kernel_rfl) (fun v c a w h => h) ?_
                      simp only [List.take_succ_cons, List.take_zero, List.drop_succ_cons, List.drop_zero]
                      repeat (go_big_quiet_step (fail))
                      refine wpQuiet_nil ?_
                      refine ⟨.func (.yield l) #[] #[], ⟨Or.inl ⟨by rfl, fun w => by go_simp⟩, fun _ => rfl⟩, ?_⟩
                      simp only [Act.put, List.setIfInBounds_toArray, List.set_cons_succ, List.set_cons_zero]
                      repeat (go_big_quiet_step (fail))
                      refine wpQuiet_nil ?_
                      rintro w5 ⟨nq2, rfl⟩
                      have hat5 := HAT3.out.grown HJ.out heW hBr (grown_drewN W8 nq2)
                      generalize W8.drewN nq2 = W5 at *
                      have g6 := World.grownBy_alloc W5 (.cells #[.string (bs x), .string (bs x'), .string (bs (x.take q ++ (y' ++ x.drop (q + y.length))))] 9) none
                      have hat6 := hat5.grown HJ.out heW hBr g6
                      have hrd := RdE.new (e := e) W5 (Nat.le_trans heW hat5.at'.keep.size) (x, x', x.take q ++ (y' ++ x.drop (q + y.length)))
                      simp only at hrd
                      obtain ⟨⟨pre, hpre, hJp⟩, hk6⟩ := hat6.at'
                      obtain ⟨fn, tmps, assign, body, hy, hR⟩ := HY.out pre (W5.heap.size, (x, x', x.take q ++ (y' ++ x.drop (q + y.length)))) _ hJp hrd (by
                        rw [List.map_append, hpre]
                        have := HPR.out
                        rw [HP.out, ← List.append_assoc, ← List.append_assoc] at this
                        rw [← List.append_assoc]
                        exact this)
                      simp only [eltV] at hy
                      have H6 := Lib.hid hat6
                      have HPE := Lib.hid hpre
                      clear g6 hat6 hrd hpre hJp hk6 hat5 HAT3 c40 c41 c60 c61
                      gi_wp2_with (refine hR.mono ?_; rintro en W7 ⟨ans, rfl, hans⟩)
                      all_goals rcases hans with ⟨hb, hJ3, hk3⟩ | ⟨hb, hJx3⟩
                      all_goals subst hb
                      all_goals try contradiction
                      all_goals first
                        | refine bodyPost_ret (results_none rfl _ _ _) rfl ?_
                          refine ⟨⟨_, rfl⟩, .inr ⟨_, ?_, hJx3⟩⟩
                          rw [List.map_append, HPE.out]
                          have := HPR.out
                          rw [HP.out, ← List.append_assoc, ← List.append_assoc] at this
                          rw [← List.append_assoc]
                          exact this
                        | refine ⟨⟨q + 1, by omega, by simp, ⟨⟨⟨_, ?_, hJ3⟩, H6.out.at'.keep.trans hk3⟩, H6.out.x.keep hk3, H6.out.y.keep hk3⟩⟩, by simp [intOf]; omega⟩
                          rw [List.map_append, HPE.out, HP.out, List.append_assoc, List.append_assoc]
                          rfl
                · obtain rfl : q = x.length := by omega
                  gi_wp2_with (fail)
                  go_roundw
                  case rel => exact ⟨j + 1, by omega, by simp, by rw [headL_succ HXX.out HYY.out]; exact hat.at', hat.x⟩
                  case measure => simp [intOf]; omega
        · obtain rfl : n = j := by omega
          gi_wp2_with (fail)
          go_roundw
          case rel => exact ⟨i + 1, by omega, by simp, by rw [headL_zero, ← headL_row HL.out]; exact hat⟩
          case measure => simp [intOf]; omega
    · obtain rfl : n = i := by omega
      gi_wp2_with (fail)
      go_end0
      obtain ⟨⟨p, hp, hJp⟩, _⟩ := hat
      exact ⟨⟨_, rfl⟩, .inl ⟨p, by rw [hp, headL_zero, critL, HL.out], hJp⟩⟩
end Go.Proofs.Ytamdonlncfmmmaa
