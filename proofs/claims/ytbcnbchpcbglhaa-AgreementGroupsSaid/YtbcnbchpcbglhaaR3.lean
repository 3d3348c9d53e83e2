/-
  Clusters, of the reference.
-/
import Derived.Test.YtbcnbchpcbglhaaR2
import Derived.StillTailTactics
namespace Go.Proofs.Ytbcnbchpcbglhaa
open Go.RowKit Go.Ap Go.Shelf Go.Proofs

theorem refclu16_no (a : Option Addr) (n c : Nat) (S : List (List Int)) (most : Int) (w : World) (h : Rows2 w a n S) (hE : cluE S most ≠ 0) :
    Calls Try.prog 16 #[.slice a n c, .int .i64 most] w (GivesRR w [] (cluE S most)) := by
  have H33 := check33 a n c S w h
  by_cases h1 : chkS S = 0
  · rw [h1] at H33
    have H33 := Lib.hid H33
    by_cases h2 : most < 0
    · have he : cluE S most = 2 := by rw [cluE, if_neg (by simp [h1]), if_pos (.inl h2)]
      rw [he]
      have d1 : decide (most < 0) = true := by simpa using h2
      clear he hE h1 h
      go_enter Try.func16, Try.ntmps16
      go_wp2_with (fail)
      refine (H33.out).mono ?_
      rintro e w' ⟨rfl, q, rfl⟩
      go_wp2_with (fail)
      go_ret2
      exact ⟨_, rfl, OwnRR.nil _ _ _ _, bdrewN _ _⟩
    · by_cases h3 : 1000 < most
      · have he : cluE S most = 2 := by rw [cluE, if_neg (by simp [h1]), if_pos (.inr h3)]
        rw [he]
        have d1 : decide (most < 0) = false := by simpa using h2
        have d2 : decide (1000 < most) = true := by simpa using h3
        clear he hE h1 h
        go_enter Try.func16, Try.ntmps16
        go_wp2_with (fail)
        refine (H33.out).mono ?_
        rintro e w' ⟨rfl, q, rfl⟩
        go_wp2_with (fail)
        go_ret2
        exact ⟨_, rfl, OwnRR.nil _ _ _ _, bdrewN _ _⟩
      · exact absurd (by rw [cluE, if_neg (by simp [h1]), if_neg (by omega)]) hE
  · have he : cluE S most = 1 := by rw [cluE, if_pos h1]
    rw [he]
    have d1 : (chkS S != 0) = true := by simpa using h1
    have H33 := Lib.hid H33
    clear he hE h1 h
    go_enter Try.func16, Try.ntmps16
    go_wp2_with (fail)
    refine (H33.out).mono ?_
    rintro e w' ⟨rfl, q, rfl⟩
    go_wp2_with (fail)
    go_ret2
    exact ⟨_, rfl, OwnRR.nil _ _ _ _, bdrewN _ _⟩

/-- a row of ints is kept where a row of another type grows -/
theorem owns_apart' {w : World} {base base' n n' : Nat} {e e' : TypeId} {v v' : Value} {xs xs' : List Value} (h : w.ownsRow base e 1 v n xs) (h' : w.ownsRow base' e' 1 v' n' xs') (hne : e ≠ e') : v.ownBlock = none ∨ v.ownBlock ≠ v'.ownBlock :=
  owns_apart (owns_mono h (Nat.min_le_left base base')) (owns_mono h' (Nat.min_le_right base base')) hne
theorem kept2 {e t : TypeId} {w w1 : World} {base base' n : Nat} {u v : Value} {xs : List Int} {vs : List Value} {tmp : Obj} (k : OwnI e w base u xs) (ho : w.ownsRow base' t 1 v n vs) (hte : e ≠ t) (hg : (w.alloc tmp).grownBy w1 v.ownBlock) : OwnI e w1 base u xs :=
  OwnI.kept (OwnI.below k (balloc w tmp)) hg (owns_apart' (OwnI.below k (balloc w tmp)).1 (owns_below ho (balloc w tmp)) hte)
/-- the first labels -/
def lab0 (k : Nat) : List Int := (List.range k).map fun (i : Nat) => (i : Int)
theorem lab0_succ (k : Nat) : lab0 (k + 1) = lab0 k ++ [(k : Int)] := by simp [lab0, List.range_succ]
theorem lab0_len (k : Nat) : (lab0 k).length = k := by simp [lab0]
theorem lab0_lab (adj : Nat → Nat → Bool) (n : Nat) : Lab adj n (lab0 n) :=
  ⟨lab0_len n, fun i hi => ⟨i, by rw [nth_eq (by rw [lab0_len]; exact hi)]; simp [lab0], Nat.le_refl _, .refl hi⟩⟩

set_option maxRecDepth 100000 in
set_option maxHeartbeats 4000000 in
theorem refclu16_ok (a : Option Addr) (n c m : Nat) (S : List (List Int)) (most : Int) (w : World) (h : Rows2 w a n S) (hch : chkS S = 0) (ok : OkS S m) (h1 : 0 ≤ most) (h2 : most ≤ 1000) :
    Calls Try.prog 16 #[.slice a n c, .int .i64 most] w (GivesRR w (cluU (connB (adjD S m most) n) n n) 0) := by
  obtain ⟨i0, hi, hz0, hz1, hz2⟩ := info_parts info3
  obtain ⟨r0, ri, rz0, rz1, rz2⟩ := info_parts info23
  have H33 := check33 a n c S w h
  rw [hch] at H33
  have H33 := Lib.hid H33
  have HL := Lib.hid h.len
  have HH := Lib.hid h
  have hsm := h.small
  have OK := Lib.hid ok
  have hn32 : n ≤ 32 := by rw [← h.len]; exact ok.le
  have hpos : 0 < n := by rw [← h.len]; exact ok.pos
  have d1 : decide (most < 0) = false := by simp; omega
  have d2 : decide (1000 < most) = false := by simp; omega
  obtain ⟨adj, hadj⟩ : ∃ adj, adjD S m most = adj := ⟨_, rfl⟩
  have HS := Lib.hid (show ∀ x y, adj x y = adj y x from fun x y => by rw [← hadj]; exact adjD_symm S m most x y)
  have HA := Lib.hid (show ∀ i k, adj i k = decide (distR S m i k ≤ most) from fun i k => by rw [← hadj]; rfl)
  rw [hadj]
  clear hch h ok hadj
  go_enter Try.func16, Try.ntmps16
  go_wp2_with (fail)
  refine (H33.out).mono ?_
  rintro e w' ⟨rfl, q, rfl⟩
  go_wp2_with (fail)
  go_loopw [7, 8] (fun v i wr => ∃ k : Nat, k ≤ n ∧ i = .int .i64 k ∧ OwnI 3 wr w.heap.size v (lab0 k) ∧ Below w.heap.size w wr) (fun _ i _ => n - (intOf i).toNat)
  case atStart => exact ⟨0, by omega, rfl, OwnI.empty 3 (w.drewN q) (Nat.le_refl _), bstep (bdrewN w q) (balloc _ _)⟩
  case round =>
    obtain ⟨k, hk, rfl, ho, hb⟩ := hrel
    have HO := Lib.hid ho
    have HB := Lib.hid hb
    have hsz := hb.size
    have hll := lab0_len k
    clear ho hb
    by_cases hlt : k < n
    · go_wp2_with (at_builtin; refine wpList_append_own _ rfl _ _ 23 rfl w.heap.size 3 i0 (.int .i64 0) 1 8 Try.underlying23 hi hz0 hz1 hz2 rfl (by decide) _ _ _ rfl (HO.out.1.alloc _) ⟨wr.heap.size, 0, none⟩ 1 1 [.int .i64 k] rfl rfl (cell_one_new _ _ _) (by simp [Value.oneCell']) (by unfold maxLen; omega) (by omega) (by simp; omega) ?_; intro v1 w4 hown1 hgrow1 _; have HO2 := Lib.hid hown1; have HG := Lib.hid hgrow1; clear hown1 hgrow1)
      have hp := OwnI.pushed HO.out (x := k) ⟨by omega, by omega⟩ hsz HO2.out HG.out
      go_roundw
      case rel => exact ⟨k + 1, by omega, by go_num, by rw [lab0_succ]; exact hp.1, HB.out.trans hp.2⟩
      case measure => simp [intOf]; omega
    · obtain rfl : n = k := by omega
      obtain ⟨gb, cg, hveq⟩ := OwnI.addr HO.out (by omega)
      rw [lab0_len] at hveq
      subst hveq
      clear hll
      go_wp2_with (fail)
      go_loopw [9] (fun tv wt => ∃ (t : Nat) (L : List Int), t ≤ n ∧ tv = .int .i64 t ∧ OwnI 3 wt w.heap.size (.slice (some ⟨gb, 0, none⟩) n cg) L ∧ Lab adj n L ∧ (wrongs adj n L).length ≤ n - t ∧ Below w.heap.size w wt) (fun tv _ => n - (intOf tv).toNat)
      case atStart => exact ⟨0, _, by omega, rfl, HO.out, lab0_lab adj n, by have := wrongs_le (adj := adj) (n := n) (lab0 n); omega, HB.out⟩
      case round =>
        clear HO HB hsz hlt
        obtain ⟨t, L, ht, rfl, ho, hlab, hwr, hb⟩ := hrel
        have HO := Lib.hid ho
        have HB := Lib.hid hb
        have HLAB := Lib.hid hlab
        have HWR := Lib.hid hwr
        clear ho hb hlab hwr
        by_cases htl : t < n
        · go_wp2_with (fail)
          go_loopw [10] (fun iv wi => ∃ (i : Nat) (M : List Int), i ≤ n ∧ iv = .int .i64 i ∧ OwnI 3 wi w.heap.size (.slice (some ⟨gb, 0, none⟩) n cg) M ∧ Rnd adj n L M i 0 ∧ Below w.heap.size w wi) (fun iv _ => n - (intOf iv).toNat)
          case atStart => exact ⟨0, _, by omega, rfl, HO.out, Rnd.start HLAB.out, HB.out⟩
          case round =>
            obtain ⟨i, M, hi', rfl, ho, hr, hb⟩ := hrel
            have HO1 := Lib.hid ho
            have HB1 := Lib.hid hb
            have HR := Lib.hid hr
            clear ho hb hr
            by_cases hil : i < n
            · go_wp2_with (fail)
              go_loopw [11] (fun kv wi => ∃ (k : Nat) (M : List Int), k ≤ n ∧ kv = .int .i64 k ∧ OwnI 3 wi w.heap.size (.slice (some ⟨gb, 0, none⟩) n cg) M ∧ Rnd adj n L M i k ∧ Below w.heap.size w wi) (fun kv _ => n - (intOf kv).toNat)
              case atStart => exact ⟨0, _, by omega, rfl, HO1.out, HR.out, HB1.out⟩
              case round =>
                clear HO1 HB1 HR
                obtain ⟨k, M, hk', rfl, ho, hr, hb⟩ := hrel
                have HO1 := Lib.hid ho
                have HB1 := Lib.hid hb
                have HR := Lib.hid hr
                have hml := hr.lab.len
                have HML := Lib.hid hml
                clear hb hr
                by_cases hkl : k < n
                · have H50 := refdist50 a n c m i k S _ (HH.out.mono (Nat.le_refl _) HB1.out) OK.out hil hkl
                  have HADJ := Lib.hid (HA.out i k)
                  obtain ⟨f1, f2, f3⟩ := OwnI.cell ho (j := i) (by omega)
                  obtain ⟨g1, _, _⟩ := OwnI.cell ho (j := k) (by omega)
                  generalize distR S m i k = d at *
                  have H50 := Lib.hid H50
                  clear ho hml
                  by_cases hd : d ≤ most
                  · have e1 : decide (d ≤ most) = true := by simpa using hd
                    have HN := Lib.hid (HR.out.sink hil hkl (by rw [HADJ.out]; exact e1))
                    go_wp2_with (fail)
                    refine (H50.out).mono ?_
                    rintro e w' ⟨rfl, q3, rfl⟩
                    go_wp2_with (fail)
                    obtain ⟨w5, hw5⟩ : ∃ w5, wr.drewN q3 = w5 := ⟨_, rfl⟩
                    rw [hw5]
                    have hb5 : Below wr.heap.size wr w5 := by rw [← hw5]; exact bdrewN _ _
                    have f1' := cell_keep hb5 f1
                    have g1' := cell_keep hb5 g1
                    have p1 : (0 : Int) ≤ (i : Int) := by omega
                    have p2 : (i : Int) < (n : Int) := by omega
                    have p3 : (0 : Int) ≤ (k : Int) := by omega
                    have p4 : (k : Int) < (n : Int) := by omega
                    clear hw5
                    go_still_tail 12, (by kernel_rfl)
                    change wpList _ _ _ _ _ w5.drew
                    have hb6 : Below wr.heap.size wr w5.drew := bstep hb5 (Below.refl _ _).drew
                    have HO6 := Lib.hid (OwnI.below HO1.out hb6)
                    have HB6 := Lib.hid (bstep HB1.out hb6)
                    obtain ⟨k1, k2, k3⟩ := OwnI.cell HO6.out (j := i) (by rw [HML.out]; omega)
                    have HI64 := Lib.hid (show I64 (min (nth M i) (nth M k)) by
                      obtain ⟨x1, y1, y2, _⟩ := HR.out.lab.conn i hil
                      obtain ⟨x3, y3, y4, _⟩ := HR.out.lab.conn k hkl
                      exact ⟨by omega, by omega⟩)
                    have K3 := Lib.hid k3
                    clear f1' g1' f1 f2 f3 g1 hb5 hb6 k3
                    generalize w5.drew = w6 at *
                    generalize min (nth M i) (nth M k) = mn at *
                    go_wp2_with (fail)
                    go_roundw
                    case rel => exact ⟨k + 1, _, by omega, by go_num, OwnI.set HO6.out HI64.out, HN.out, HB6.out.setCell (p := ⟨gb, i, none⟩) K3.out _⟩
                    case measure => simp [intOf]; omega
                  · have e1 : decide (d ≤ most) = false := by simpa using hd
                    have HN := Lib.hid (HR.out.skip (by rw [HADJ.out]; exact e1))
                    go_wp2_with (fail)
                    refine (H50.out).mono ?_
                    rintro e w' ⟨rfl, q3, rfl⟩
                    go_wp2_with (fail)
                    go_roundw
                    case rel => exact ⟨k + 1, _, by omega, by go_num, OwnI.below HO1.out (bdrewN _ _), HN.out, bstep HB1.out (bdrewN _ _)⟩
                    case measure => simp [intOf]; omega
                · obtain rfl : n = k := by omega
                  go_wp2_with (fail)
                  go_roundw
                  case rel => exact ⟨i + 1, _, by omega, by go_num, HO1.out, HR.out.row, HB1.out⟩
                  case measure => simp [intOf]; omega
            · obtain rfl : n = i := by omega
              have HWL := Lib.hid (wrongs_lt HS.out HLAB.out HR.out)
              have HLB := Lib.hid HR.out.lab
              go_wp2_with (fail)
              go_roundw
              case rel => exact ⟨t + 1, _, by omega, by go_num, HO1.out, HLB.out, by
                have := HWR.out
                rcases HWL.out with h | h
                · omega
                · rw [h]; simp, HB1.out⟩
              case measure => simp [intOf]; omega
        · obtain rfl : n = t := by omega
          have HRT := Lib.hid (rights (adj := adj) (n := n) (L := L) (by have := HWR.out; exact List.eq_nil_of_length_eq_zero (by omega)))
          have HSELF := Lib.hid (fun i (hi : i < n) => HLAB.out.self HS.out HRT.out hi)
          have HMEM := Lib.hid (fun i k (hi : i < n) (hl : isL (connB adj n) i = true) (hk : k < n) => HLAB.out.member HS.out HRT.out hi hl hk)
          have HLN := Lib.hid HLAB.out.len
          have HOS := Lib.hid (show OwnI 3 wr w.heap.size (.slice (some ⟨gb, 0, none⟩) n cg) L from HO.out)
          clear HWR HRT HLAB HO
          go_wp2_with (fail)
          go_loopw [12, 13] (fun v iv wi => ∃ i : Nat, i ≤ n ∧ iv = .int .i64 i ∧ OwnRR 3 23 wi w.heap.size v (cluU (connB adj n) n i) ∧ OwnI 3 wi w.heap.size (.slice (some ⟨gb, 0, none⟩) n cg) L ∧ Below w.heap.size w wi) (fun _ iv _ => n - (intOf iv).toNat)
          case atStart => exact ⟨0, by omega, rfl, OwnRR.empty 3 23 _ HB.out.size, OwnI.below HOS.out (balloc _ _), HB.out.trans ((balloc _ _).mono HB.out.size)⟩
          case round =>
            clear HOS HB
            obtain ⟨i, hi', rfl, ho, hol, hb⟩ := hrel
            have HO := Lib.hid ho
            have HOL := Lib.hid hol
            have HB := Lib.hid hb
            have hsz := hb.size
            clear ho hb
            by_cases hil : i < n
            · obtain ⟨f1, f2, f3⟩ := OwnI.cell hol (j := i) (by rw [HLN.out]; exact hil)
              have HSF := Lib.hid (HSELF.out i hil)
              have HMB := Lib.hid (fun k (hl : isL (connB adj n) i = true) (hk : k < n) => HMEM.out i k hil hl hk)
              clear f3 hol
              generalize nth L i = x at *
              cases hL : isL (connB adj n) i
              · have e1 : (x != (i : Int)) = true := by rw [bne, HSF.out, hL]; rfl
                have HC := Lib.hid (cluU_no (r := connB adj n) (n := n) hL)
                clear hL
                go_wp2_with (fail)
                go_roundw
                case rel => exact ⟨i + 1, by omega, by go_num, by rw [HC.out]; exact HO.out, HOL.out, HB.out⟩
                case measure => simp [intOf]; omega
              · have e1 : (x != (i : Int)) = false := by rw [bne, HSF.out, hL]; rfl
                have HC := Lib.hid (cluU_yes (r := connB adj n) (n := n) hL)
                have HMM := Lib.hid (fun k (hk : k < n) => HMB.out k hL hk)
                clear hL
                go_wp2_with (fail)
                obtain ⟨wo, rfl⟩ : ∃ wo, wo = wr := ⟨_, rfl⟩
                go_loopw [14, 15] (fun v kv wi => ∃ l : Nat, l ≤ n ∧ kv = .int .i64 l ∧ OwnI 3 wi wo.heap.size v (memb (connB adj n i) l) ∧ Below wo.heap.size wo wi) (fun _ kv _ => n - (intOf kv).toNat)
                case atStart => exact ⟨0, by omega, rfl, OwnI.empty 3 wo (Nat.le_refl _), balloc _ _⟩
                case round =>
                  obtain ⟨l, hl, rfl, hoi, hbi⟩ := hrel
                  have HOI := Lib.hid hoi
                  have HBI := Lib.hid hbi
                  have hszi := hbi.size
                  have hml := memb_len (connB adj n i) l
                  clear hoi
                  by_cases hll : l < n
                  · obtain ⟨g1, _, _⟩ := OwnI.cell (OwnI.below HOL.out hbi) (j := l) (by rw [HLN.out]; exact hll)
                    have hM := HMM.out l hll
                    generalize nth L l = y at *
                    clear hbi
                    cases hc : connB adj n i l
                    · have e2 : (y == (i : Int)) = false := by rw [hM, hc]
                      have HN := Lib.hid (memb_no hc)
                      clear hc hM
                      go_wp2_with (fail)
                      go_roundw
                      case rel => exact ⟨l + 1, by omega, by go_num, by rw [HN.out]; exact HOI.out, HBI.out⟩
                      case measure => simp [intOf]; omega
                    · have e2 : (y == (i : Int)) = true := by rw [hM, hc]
                      have HN := Lib.hid (memb_yes hc)
                      clear hc hM
                      go_wp2_with (at_builtin; refine wpList_append_own _ rfl _ _ 23 rfl wo.heap.size 3 i0 (.int .i64 0) 1 8 Try.underlying23 hi hz0 hz1 hz2 rfl (by decide) _ _ _ rfl (HOI.out.1.alloc _) ⟨wr.heap.size, 0, none⟩ 1 1 [.int .i64 l] rfl rfl (cell_one_new _ _ _) (by simp [Value.oneCell']) (by unfold maxLen; omega) (by omega) (by simp; omega) ?_; intro v1 w4 hown1 hgrow1 _; have HO2 := Lib.hid hown1; have HG := Lib.hid hgrow1; clear hown1 hgrow1)
                      have hp := OwnI.pushed HOI.out (x := l) ⟨by omega, by omega⟩ hszi HO2.out HG.out
                      go_roundw
                      case rel => exact ⟨l + 1, by omega, by go_num, by rw [HN.out]; exact hp.1, HBI.out.trans hp.2⟩
                      case measure => simp [intOf]; omega
                  · obtain rfl : n = l := by omega
                    obtain ⟨a5, c5, hveq, _⟩ := OwnI.ints HOI.out (by omega)
                    subst hveq
                    obtain ⟨vs, hv, hnext⟩ := HO.out.ready (by decide) hsz HBI.out HOI.out
                    have HV := Lib.hid hv
                    have HN := Lib.hid hnext
                    have HOL2 := Lib.hid (OwnI.below HOL.out hbi)
                    have hcl := cluU_len (connB adj n) n i
                    generalize hmm : (memb (connB adj n i) n).length = lm at *
                    generalize cluU (connB adj n) n i = cl at *
                    clear hv hnext hbi
                    go_wp2_with (at_builtin; refine wpList_append_own _ rfl _ _ 22 rfl w.heap.size 23 r0 (.slice none 0 0) 1 24 Try.underlying22 ri rz0 rz1 rz2 rfl (by decide) _ _ _ rfl (HV.out.alloc _) ⟨wr.heap.size, 0, none⟩ 1 1 [.slice a5 lm c5] rfl rfl (cell_one_new _ _ _) (by simp [Value.oneCell']) (by unfold maxLen; omega) (by omega) (by simp; omega) ?_; intro v1 w4 hown1 hgrow1 _; have HO2 := Lib.hid hown1; have HG := Lib.hid hgrow1; clear hown1 hgrow1)
                    have hp := HN.out _ _ _ HO2.out HG.out
                    have hol4 : OwnI 3 w4 w.heap.size (.slice (some ⟨gb, 0, none⟩) n cg) L :=
                      kept2 HOL2.out HV.out (by decide) HG.out
                    go_roundw
                    case rel => exact ⟨i + 1, by omega, by go_num, by rw [HC.out]; exact hp.1, hol4, (HB.out.trans (HBI.out.mono hsz)).trans hp.2⟩
                    case measure => simp [intOf]; omega
            · obtain rfl : n = i := by omega
              go_wp2_with (fail)
              go_ret2
              exact ⟨_, rfl, HO.out, HB.out⟩

theorem refclu16 (a : Option Addr) (n c m : Nat) (most : Int) (S : List (List Int)) (w : World) (h : Rows2 w a n S) (hm : m = (row S 0).length) :
    Calls Try.prog 16 #[.slice a n c, .int .i64 most] w (GivesR2 w (cluR S m most) (cluE S most)) := by
  have key : Calls Try.prog 16 #[.slice a n c, .int .i64 most] w (GivesRR w (cluR S m most) (cluE S most)) := by
    by_cases hE : cluE S most = 0
    · obtain ⟨h1, h2, h3⟩ := cluE_zero hE
      have ok := chkS_ok h1
      rw [← hm] at ok
      rw [cluR, if_pos hE, hE, h.len]
      exact refclu16_ok a n c m S most w h h1 ok h2 h3
    · rw [cluR, if_neg hE]
      exact refclu16_no a n c S most w h hE
  exact key.mono fun e w' hg => hg.r2 (cluR_len S m most).1 (cluR_len S m most).2

end Go.Proofs.Ytbcnbchpcbglhaa
