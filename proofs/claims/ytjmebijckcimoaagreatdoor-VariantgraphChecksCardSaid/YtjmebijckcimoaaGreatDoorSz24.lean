import Derived.Test.YtjmebijckcimoaaGreatDoorSp
import Derived.Test.YtjmebijckcimoaaGreatDoorEq
import Derived.Test.YtjmebijckcimoaaGreatDoorSm24




namespace Go.Proofs.YtjmebijckcimoaaGreatDoor
open Go.RowKit Go.Ap Go.Shelf Go.Proofs

attribute [local go_sem] Oper.semAt_some bs_toList empty_toList bs_size bs_extract
def arcV (x : Vg.Arc) (a : Option Addr) (k : Nat) : Value := .agg #[.int .i64 x.1.1, .int .i64 x.1.2, .slice a x.2.length k]
set_option maxHeartbeats 2000000 in
theorem sameA1 (r s : Vg.Arc) (a1 : Option Addr) (k1 : Nat) (a2 : Option Addr) (k2 : Nat) (w : World) (h1 : Ints w a1 r.2.length r.2) (h2 : Ints w a2 s.2.length s.2) :
    Calls Tryz.prog 63 #[arcV r a1 k1, arcV s a2 k2] w fun e w' => e = .returned (.bool (decide (r = s))) ∧ Below w.heap.size w w' := by
  have HI := Lib.hid (fun W (hb : Below w.heap.size w W) => eqInts a1 a2 k1 k2 r.2.length s.2.length r.2 s.2 W (h1.mono (Nat.le_refl _) hb) (h2.mono (Nat.le_refl _) hb))
  obtain ⟨⟨f, t⟩, x⟩ := r
  obtain ⟨⟨g, u⟩, y⟩ := s
  simp only at HI h1 h2
  have hbx := bstep (balloc w (.cells #[.int .i64 f, .int .i64 t, .slice a1 x.length k1] 48)) (balloc _ (.cells #[.int .i64 g, .int .i64 u, .slice a2 y.length k2] 48))
  have HB := Lib.hid hbx
  unfold arcV
  clear h1 h2 hbx
  by_cases e1 : f = g
  case neg =>
    have b1 : (f == g) = false := beq_eq_false_iff_ne.2 e1
    have HE := Lib.hid (show decide (((f, t), x) = ((g, u), y)) = false from decide_eq_false (fun h => e1 (by cases h; rfl)))
    clear e1
    go_enter Tryz.func63, Tryz.ntmps63
    go_wp2_with (fail)
    go_ret
    exact ⟨by rw [HE.out]; rfl, HB.out⟩
  by_cases e2 : t = u
  case neg =>
    have b1 : (f == g) = true := beq_iff_eq.2 e1
    have b2 : (t == u) = false := beq_eq_false_iff_ne.2 e2
    have HE := Lib.hid (show decide (((f, t), x) = ((g, u), y)) = false from decide_eq_false (fun h => e2 (by cases h; rfl)))
    clear e1 e2
    go_enter Tryz.func63, Tryz.ntmps63
    go_wp2_with (fail)
    go_ret
    exact ⟨by rw [HE.out]; rfl, HB.out⟩
  have b1 : (f == g) = true := beq_iff_eq.2 e1
  have b2 : (t == u) = true := beq_iff_eq.2 e2
  have HE := Lib.hid (show decide (((f, t), x) = ((g, u), y)) = decide (x = y) by subst e1 e2; rw [Bool.eq_iff_iff]; simp)
  clear e1 e2
  generalize decide (x = y) = q at *
  go_enter Tryz.func63, Tryz.ntmps63
  go_wp2_with (fail)
  refine (HI.out _ HB.out).mono ?_
  rintro e w1 ⟨rfl, q1, rfl⟩
  go_wp2_with (fail)
  go_ret
  exact ⟨by rw [HE.out]; rfl, bstep HB.out (bdrewN _ _)⟩
set_option maxHeartbeats 4000000 in
theorem eqAr (a a' : Option Addr) (c c' n n' : Nat) (xs ys : List Vg.Arc) (w : World) (h : Arcs w a n xs) (h' : Arcs w a' n' ys) :
    Calls Tryz.prog 62 #[.slice a n c, .slice a' n' c', .func (.func 63) #[] #[]] w fun e w' => e = .returned (.bool (decide (xs = ys))) ∧ Below w.heap.size w w' := by
  have eg := enters_of Tryz.func63 (by kernel_rfl) rfl
  have hl := h.len
  have hl' := h'.len
  have hs := h.small
  have hs' := h'.small
  have HX := Lib.hid hl
  have HY := Lib.hid hl'
  have H1 := Lib.hid h
  have H2 := Lib.hid h'
  obtain ⟨R, hR⟩ : ∃ R, decide (xs = ys) = R := ⟨_, rfl⟩
  rw [hR]
  have HR := Lib.hid hR
  by_cases hn : n = n'
  · subst hn
    clear h h' hR hl hl'
    go_enter Tryz.func62, Tryz.ntmps62
    go_wp2_with (fail)
    go_loopw [17] (fun iv wr => ∃ k : Nat, k ≤ n ∧ iv = .int .i64 k ∧ Below w.heap.size w wr ∧ xs.take k = ys.take k) (fun iv _ => n - (intOf iv).toNat)
    case atStart => exact ⟨0, Nat.zero_le _, rfl, Below.refl _ _, by simp⟩
    case round =>
      obtain ⟨k, hk, rfl, hb, ht⟩ := hrel
      have HT := Lib.hid ht
      have HB := Lib.hid hb
      clear ht
      by_cases hkn : k < n
      · obtain ⟨r, b, off, a5, k5, hu, rfl, p0, p1, p2, s1⟩ := (H1.out.mono (Nat.le_refl _) hb).at hkn
        obtain ⟨s, b', off', a6, k6, hu', rfl, q0, q1, q2, s2⟩ := (H2.out.mono (Nat.le_refl _) hb).at hkn
        have HU := Lib.hid hu
        have HU' := Lib.hid hu'
        have HC := Lib.hid (fun W (hb : Below wr.heap.size wr W) => sameA1 r s a5 k5 a6 k6 W (s1.src.mono (Nat.le_refl _) hb) (s2.src.mono (Nat.le_refl _) hb))
        obtain ⟨⟨⟨rf, rt⟩, rs⟩, hr⟩ : ∃ q, r = q := ⟨_, rfl⟩
        obtain ⟨⟨⟨sf, st⟩, ss⟩, hs2⟩ : ∃ q, s = q := ⟨_, rfl⟩
        have HR1 := Lib.hid hr
        have HS1 := Lib.hid hs2
        rw [hr] at p0 p1 p2
        rw [hs2] at q0 q1 q2
        simp only at p0 p1 p2 q0 q1 q2
        have kb0 := fun (o : Obj) => cell_keep (balloc wr o) q0
        have kb1 := fun (o : Obj) => cell_keep (balloc wr o) q1
        have kb2 := fun (o : Obj) => cell_keep (balloc wr o) q2
        have hb2 := bstep (balloc wr (.cells #[.int .i64 rf, .int .i64 rt, .slice a5 rs.length k5] 48)) (balloc _ (.cells #[.int .i64 sf, .int .i64 st, .slice a6 ss.length k6] 48))
        have HB2 := Lib.hid hb2
        clear hu hu' hb s1 s2 hb2 hr hs2
        by_cases huv : r = s
        · have HE := Lib.hid huv
          have HC2 := Lib.hid (HC.out _ HB2.out)
          unfold arcV at HC2
          simp only [HR1.out, HS1.out] at HC2
          rw [show decide (((rf, rt), rs) = ((sf, st), ss)) = true by rw [← HR1.out, ← HS1.out]; exact decide_eq_true huv] at HC2
          clear huv HC
          go_wp2_with (fail)
          refine HC2.out.mono ?_
          rintro e w1 ⟨rfl, hb1⟩
          have HB3 := Lib.hid (bstep (bstep HB.out HB2.out) hb1)
          clear hb1
          go_wp2_with (fail)
          exact ⟨⟨k + 1, by omega, by simp, HB3.out, take_step HU.out HU'.out HT.out HE.out⟩, by simp [intOf]; omega⟩
        · have HE := Lib.hid (show R = false by rw [← HR.out]; exact decide_eq_false (take_ne HU.out HU'.out huv))
          have HC2 := Lib.hid (HC.out _ HB2.out)
          unfold arcV at HC2
          simp only [HR1.out, HS1.out] at HC2
          rw [show decide (((rf, rt), rs) = ((sf, st), ss)) = false by rw [← HR1.out, ← HS1.out]; exact decide_eq_false huv] at HC2
          clear huv HC
          go_wp2_with (fail)
          refine HC2.out.mono ?_
          rintro e w1 ⟨rfl, hb1⟩
          have HB3 := Lib.hid (bstep (bstep HB.out HB2.out) hb1)
          clear hb1
          go_wp2_with (fail)
          go_ret
          exact ⟨ret_b HE.out.symm, HB3.out⟩
      · obtain rfl : k = n := by omega
        have HE := Lib.hid (show R = true by rw [← HR.out]; exact decide_eq_true (take_all HX.out HY.out HT.out))
        clear hb
        go_wp2_with (fail)
        go_ret
        exact ⟨ret_b HE.out.symm, HB.out⟩
  · have HE := Lib.hid (show R = false by rw [← hR, decide_eq_false_iff_not]; intro e; exact hn (by rw [← hl, ← hl', e]))
    have dn : ((n : Int) != (n' : Int)) = true := by simp; omega
    clear h h' hR hl hl'
    go_enter Tryz.func62, Tryz.ntmps62
    go_wp2_with (fail)
    go_ret
    exact ⟨ret_b HE.out.symm, Below.refl _ _⟩
set_option maxHeartbeats 2000000 in
/-- graphs are the same where they read alike (program) -/
theorem sameP24 (ws ws' : List Str) (al al' : List Vg.Arc) (a1 : Option Addr) (n1 c1 : Nat) (a2 : Option Addr) (n2 c2 : Nat) (d1 : Option Addr) (m1 k1 : Nat) (d2 : Option Addr) (m2 k2 : Nat) (w : World) (h : GraphM w a1 n1 a2 n2 ws al) (h' : GraphM w d1 m1 d2 m2 ws' al') :
    Calls Tryz.prog 34 #[graphV a1 n1 c1 a2 n2 c2, graphV d1 m1 k1 d2 m2 k2] w fun e w' => e = .returned (.bool (decide (ws = ws' ∧ al = al'))) ∧ Below w.heap.size w w' := by
  have HE := Lib.hid (fun W (hb : Below w.heap.size w W) => eqStrs a1 d1 c1 k1 n1 m1 ws ws' W (h.words.mono (Nat.le_refl _) hb) (h'.words.mono (Nat.le_refl _) hb))
  have HI := Lib.hid (fun W (hb : Below w.heap.size w W) => eqAr a2 d2 c2 k2 n2 m2 al al' W (h.arcs.mono (Nat.le_refl _) hb) (h'.arcs.mono (Nat.le_refl _) hb))
  rw [show decide (ws = ws' ∧ al = al') = (decide (ws = ws') && decide (al = al')) by rw [Bool.eq_iff_iff]; simp]
  generalize decide (ws = ws') = p at *
  generalize decide (al = al') = q at *
  have hb := bstep (balloc w (.cells #[.slice a1 n1 c1, .slice a2 n2 c2] 31)) (balloc _ (.cells #[.slice d1 m1 k1, .slice d2 m2 k2] 31))
  have HB := Lib.hid hb
  clear h h' hb
  unfold graphV
  go_enter Tryz.func34, Tryz.ntmps34
  go_wp2_with (fail)
  refine (HE.out _ HB.out).mono ?_
  rintro e w1 ⟨rfl, q1, rfl⟩
  cases p
  · go_wp2_with (fail)
    go_ret
    exact ⟨rfl, bstep HB.out (bdrewN _ _)⟩
  · go_wp2_with (fail)
    refine (HI.out _ (bstep HB.out (bdrewN _ _))).mono ?_
    rintro e w2 ⟨rfl, hb2⟩
    go_wp2_with (fail)
    go_ret
    exact ⟨by simp, bstep (bstep HB.out (bdrewN _ _)) hb2⟩
end Go.Proofs.YtjmebijckcimoaaGreatDoor



namespace Go.Proofs.YtjmebijckcimoaaGreatDoor
open Go.RowKit Go.Ap Go.Shelf Go.Proofs

attribute [local go_sem] Oper.semAt_some bs_toList empty_toList bs_size bs_extract
set_option maxRecDepth 100000 in
set_option maxHeartbeats 4000000 in
theorem sameRG (ws ws' : List Str) (al al' : List Vg.Arc) (a1 : Option Addr) (n1 c1 : Nat) (a2 : Option Addr) (n2 c2 : Nat) (d1 : Option Addr) (m1 k1 : Nat) (d2 : Option Addr) (m2 k2 : Nat) (w : World) (h : GraphM w a1 n1 a2 n2 ws al) (h' : GraphM w d1 m1 d2 m2 ws' al') :
 Calls Tryz.prog 15 #[graphV a1 n1 c1 a2 n2 c2, graphV d1 m1 k1 d2 m2 k2] w fun e w' => e = .returned (.bool (decide (ws = ws' ∧ al = al'))) ∧ Below w.heap.size w w' := by
 have hs1 := h.words.small
 have hs2 := h.arcs.small
 have hl1 := h.words.len
 have hl2 := h.arcs.len
 have hl3 := h'.words.len
 have hl4 := h'.arcs.len
 obtain ⟨R, hR⟩ : ∃ R, decide (ws = ws' ∧ al = al') = R := ⟨_, rfl⟩
 rw [hR]
 have HR := Lib.hid hR
 obtain ⟨W5, hW5⟩ : ∃ W, (w.alloc (.cells #[.slice a1 n1 c1, .slice a2 n2 c2] 31)).alloc (.cells #[.slice d1 m1 k1, .slice d2 m2 k2] 31) = W := ⟨_, rfl⟩
 have bA := balloc w (.cells #[.slice a1 n1 c1, .slice a2 n2 c2] 31)
 have bB := balloc (w.alloc (.cells #[.slice a1 n1 c1, .slice a2 n2 c2] 31)) (.cells #[.slice d1 m1 k1, .slice d2 m2 k2] 31)
 have HB5 := Lib.hid (show Below w.heap.size w W5 by rw [← hW5]; exact bstep bA bB)
 have HX := Lib.hid (show BoxG W5 w.heap.size a1 n1 c1 a2 n2 c2 by rw [← hW5]; exact (BoxG.new w _ _ _ _ _ _).below bB)
 have HY := Lib.hid (show BoxG W5 (w.heap.size + 1) d1 m1 k1 d2 m2 k2 by
  rw [← hW5]
  have := BoxG.new (w.alloc (.cells #[.slice a1 n1 c1, .slice a2 n2 c2] 31)) d1 m1 k1 d2 m2 k2
  rwa [World.size_alloc] at this)
 have HH := Lib.hid (h.mono (Nat.le_refl _) HB5.out)
 have HH' := Lib.hid (h'.mono (Nat.le_refl _) HB5.out)
 have HW5 := Lib.hid hW5
 by_cases hn1 : n1 = m1
 case neg =>
  have HE := Lib.hid (show R = false by rw [← hR, decide_eq_false_iff_not]; intro e; exact hn1 (by rw [← hl1, ← hl3, e.1]))
  have z1 : ((n1 : Int) != (m1 : Int)) = true := by rw [bne_iff_ne]; omega
  clear h h' bA bB hW5 hn1 hR
  unfold graphV
  go_enter Tryz.func15, Tryz.ntmps15
  obtain ⟨x0, x1⟩ := HX.out
  obtain ⟨y0, y1⟩ := HY.out
  rw [← HW5.out] at x0 x1 y0 y1
  go_wp2_with (fail)
  rw [HW5.out]
  go_ret
  exact ⟨by rw [HE.out]; rfl, HB5.out⟩
 by_cases hn2 : n2 = m2
 case neg =>
  have HE := Lib.hid (show R = false by rw [← hR, decide_eq_false_iff_not]; intro e; exact hn2 (by rw [← hl2, ← hl4, e.2]))
  have z1 : ((n1 : Int) != (m1 : Int)) = false := by rw [bne_eq_false_iff_eq]; omega
  have z2 : ((n2 : Int) != (m2 : Int)) = true := by rw [bne_iff_ne]; omega
  clear h h' bA bB hW5 hn2 hn1 hR
  unfold graphV
  go_enter Tryz.func15, Tryz.ntmps15
  obtain ⟨x0, x1⟩ := HX.out
  obtain ⟨y0, y1⟩ := HY.out
  rw [← HW5.out] at x0 x1 y0 y1
  go_wp2_with (fail)
  rw [HW5.out]
  go_ret
  exact ⟨by rw [HE.out]; rfl, HB5.out⟩
 subst hn1 hn2
 have HL1 := Lib.hid hl1
 have HL2 := Lib.hid hl2
 have HL3 := Lib.hid hl3
 have HL4 := Lib.hid hl4
 have z1 : ((n1 : Int) != (n1 : Int)) = false := by simp
 have z2 : ((n2 : Int) != (n2 : Int)) = false := by simp
 clear h h' bA bB hW5 hR hl1 hl2 hl3 hl4
 unfold graphV
 go_enter Tryz.func15, Tryz.ntmps15
 obtain ⟨x0, x1⟩ := HX.out
 obtain ⟨y0, y1⟩ := HY.out
 rw [← HW5.out] at x0 x1 y0 y1
 go_wp2_with (fail)
 rw [HW5.out]
 clear x0 x1 y0 y1 z1 z2
 go_loopw [5] (fun iv wr => ∃ i : Nat, i ≤ n1 ∧ iv = .int .i64 i ∧ Below W5.heap.size W5 wr ∧ ws.take i = ws'.take i) (fun iv _ => n1 - (intOf iv).toNat)
 case atStart => exact ⟨0, Nat.zero_le _, rfl, Below.refl _ _, by simp⟩
 case round =>
  obtain ⟨wi, rfl⟩ : ∃ wi : World, wi = wr := ⟨_, rfl⟩
  obtain ⟨i, hi, rfl, hb, ht⟩ := hrel
  have HB := Lib.hid hb
  have HT := Lib.hid ht
  clear ht
  obtain ⟨x0, x1⟩ := HX.out.below hb
  obtain ⟨y0, y1⟩ := HY.out.below hb
  by_cases hin : i < n1
  · obtain ⟨u, b3, o3, v3, hu, rfl, hc, rfl⟩ := Sl.at HH.out.words hin
    obtain ⟨u', b4, o4, v4, hu', rfl, hc', rfl⟩ := Sl.at HH'.out.words hin
    have HU := Lib.hid hu
    have HU' := Lib.hid hu'
    have HC := Lib.hid (show wi.cell? ⟨b3, o3 + i, none⟩ = some (.string (bs u)) from cell_keep hb hc)
    have HD := Lib.hid (show wi.cell? ⟨b4, o4 + i, none⟩ = some (.string (bs u')) from cell_keep hb hc')
    have HX0 := Lib.hid x0
    have HY0 := Lib.hid y0
    have i1 : (i : Int) < (n1 : Int) := by omega
    clear hu hu' hc hc' hb x1 y1
    by_cases huv : u = u'
    · have z0 : (u == u') = true := beq_iff_eq.2 huv
      have HE := Lib.hid huv
      clear huv
      go_wp2_with (fail)
      clear x0 y0
      refine (wpIn_wide (n := 20)).1 ?_
      refine wpIn_region_planM (fun W' => Below wi.heap.size wi W') 11 (.take 0 <| .take 1 <| .take 2 <| .take 3 <| .take 4 <| .take 5 <| .take 6 <| .take 7 <| .take 8 <| .take 9 <| .take 10 <| .fin) (fun _ => trivial) (by kernel_rfl) (by kernel_rfl) (bdrewN wi 1) ?_
      apply pm_take rfl rfl (by rfl)
      case hy =>
       rintro W' hb'
       clear hb'
       go_simp
       first | done | with_reducible rfl
      simp only [List.setIfInBounds_toArray, List.set_cons_zero, List.set_cons_succ]
      apply pm_take rfl rfl (by rfl)
      case hy =>
       rintro W' hb'
       have e0 := cell_keep hb' HX0.out
       have e1 := cell_keep hb' HY0.out
       have e2 := cell_keep hb' HC.out
       have e3 := cell_keep hb' HD.out
       clear hb'
       go_simp
       first | done | with_reducible rfl
      simp only [List.setIfInBounds_toArray, List.set_cons_zero, List.set_cons_succ]
      iterate 2
       apply pm_take rfl rfl (by rfl)
       case hy =>
        rintro W' hb'
        clear hb'
        go_simp
        first | done | with_reducible rfl
       simp only [List.setIfInBounds_toArray, List.set_cons_zero, List.set_cons_succ]
      apply pm_take rfl rfl (by rfl)
      case hy =>
       rintro W' hb'
       have e0 := cell_keep hb' HX0.out
       have e1 := cell_keep hb' HY0.out
       have e2 := cell_keep hb' HC.out
       have e3 := cell_keep hb' HD.out
       clear hb'
       go_simp
       first | done | with_reducible rfl
      simp only [List.setIfInBounds_toArray, List.set_cons_zero, List.set_cons_succ]
      apply pm_take rfl rfl (by rfl)
      case hy =>
       rintro W' hb'
       clear hb'
       go_simp
       first | done | with_reducible rfl
      simp only [List.setIfInBounds_toArray, List.set_cons_zero, List.set_cons_succ]
      apply pm_take rfl rfl (by rfl)
      case hy =>
       rintro W' hb'
       have e0 := cell_keep hb' HX0.out
       have e1 := cell_keep hb' HY0.out
       have e2 := cell_keep hb' HC.out
       have e3 := cell_keep hb' HD.out
       clear hb'
       go_simp
       first | done | with_reducible rfl
      simp only [List.setIfInBounds_toArray, List.set_cons_zero, List.set_cons_succ]
      iterate 2
       apply pm_take rfl rfl (by rfl)
       case hy =>
        rintro W' hb'
        clear hb'
        go_simp
        first | done | with_reducible rfl
       simp only [List.setIfInBounds_toArray, List.set_cons_zero, List.set_cons_succ]
      apply pm_take rfl rfl (by rfl)
      case hy =>
       rintro W' hb'
       have e0 := cell_keep hb' HX0.out
       have e1 := cell_keep hb' HY0.out
       have e2 := cell_keep hb' HC.out
       have e3 := cell_keep hb' HD.out
       clear hb'
       go_simp
       first | done | with_reducible rfl
      simp only [List.setIfInBounds_toArray, List.set_cons_zero, List.set_cons_succ]
      apply pm_take rfl rfl (by rfl)
      case hy =>
       rintro W' hb'
       clear hb'
       go_simp
       first | done | with_reducible rfl
      simp only [List.setIfInBounds_toArray, List.set_cons_zero, List.set_cons_succ]
      refine pm_fin ?_
      gi_wp2_with (fail)
      go_wp2_with (fail)
      exact ⟨⟨i + 1, by omega, by simp, below_drew' HB.out, take_step HU.out HU'.out HT.out HE.out⟩, by simp [intOf]; omega⟩
    · have z0 : (u == u') = false := beq_eq_false_iff_ne.2 huv
      have HE := Lib.hid (show R = false by rw [← HR.out, decide_eq_false_iff_not]; exact fun e => take_ne HU.out HU'.out huv e.1)
      clear huv
      go_wp2_with (fail)
      clear x0 y0
      refine (wpIn_wide (n := 20)).1 ?_
      refine wpIn_region_planM (fun W' => Below wi.heap.size wi W') 11 (.take 0 <| .take 1 <| .take 2 <| .take 3 <| .take 4 <| .take 5 <| .take 6 <| .take 7 <| .take 8 <| .take 9 <| .take 10 <| .fin) (fun _ => trivial) (by kernel_rfl) (by kernel_rfl) (bdrewN wi 1) ?_
      apply pm_take rfl rfl (by rfl)
      case hy =>
       rintro W' hb'
       clear hb'
       go_simp
       first | done | with_reducible rfl
      simp only [List.setIfInBounds_toArray, List.set_cons_zero, List.set_cons_succ]
      apply pm_take rfl rfl (by rfl)
      case hy =>
       rintro W' hb'
       have e0 := cell_keep hb' HX0.out
       have e1 := cell_keep hb' HY0.out
       have e2 := cell_keep hb' HC.out
       have e3 := cell_keep hb' HD.out
       clear hb'
       go_simp
       first | done | with_reducible rfl
      simp only [List.setIfInBounds_toArray, List.set_cons_zero, List.set_cons_succ]
      iterate 2
       apply pm_take rfl rfl (by rfl)
       case hy =>
        rintro W' hb'
        clear hb'
        go_simp
        first | done | with_reducible rfl
       simp only [List.setIfInBounds_toArray, List.set_cons_zero, List.set_cons_succ]
      apply pm_take rfl rfl (by rfl)
      case hy =>
       rintro W' hb'
       have e0 := cell_keep hb' HX0.out
       have e1 := cell_keep hb' HY0.out
       have e2 := cell_keep hb' HC.out
       have e3 := cell_keep hb' HD.out
       clear hb'
       go_simp
       first | done | with_reducible rfl
      simp only [List.setIfInBounds_toArray, List.set_cons_zero, List.set_cons_succ]
      apply pm_take rfl rfl (by rfl)
      case hy =>
       rintro W' hb'
       clear hb'
       go_simp
       first | done | with_reducible rfl
      simp only [List.setIfInBounds_toArray, List.set_cons_zero, List.set_cons_succ]
      apply pm_take rfl rfl (by rfl)
      case hy =>
       rintro W' hb'
       have e0 := cell_keep hb' HX0.out
       have e1 := cell_keep hb' HY0.out
       have e2 := cell_keep hb' HC.out
       have e3 := cell_keep hb' HD.out
       clear hb'
       go_simp
       first | done | with_reducible rfl
      simp only [List.setIfInBounds_toArray, List.set_cons_zero, List.set_cons_succ]
      iterate 2
       apply pm_take rfl rfl (by rfl)
       case hy =>
        rintro W' hb'
        clear hb'
        go_simp
        first | done | with_reducible rfl
       simp only [List.setIfInBounds_toArray, List.set_cons_zero, List.set_cons_succ]
      apply pm_take rfl rfl (by rfl)
      case hy =>
       rintro W' hb'
       have e0 := cell_keep hb' HX0.out
       have e1 := cell_keep hb' HY0.out
       have e2 := cell_keep hb' HC.out
       have e3 := cell_keep hb' HD.out
       clear hb'
       go_simp
       first | done | with_reducible rfl
      simp only [List.setIfInBounds_toArray, List.set_cons_zero, List.set_cons_succ]
      apply pm_take rfl rfl (by rfl)
      case hy =>
       rintro W' hb'
       clear hb'
       go_simp
       first | done | with_reducible rfl
      simp only [List.setIfInBounds_toArray, List.set_cons_zero, List.set_cons_succ]
      refine pm_fin ?_
      gi_wp2_with (fail)
      go_wp2_with (fail)
      go_ret
      exact ⟨by rw [HE.out]; rfl, bstep HB5.out (below_drew' HB.out)⟩
  · obtain rfl : n1 = i := by omega
    have HTW := Lib.hid (show ws = ws' from take_all HL1.out HL3.out HT.out)
    clear hb
    go_wp2_with (fail)
    clear x0 x1 y0 y1
    go_loopw [6] (fun iv wr => ∃ i : Nat, i ≤ n2 ∧ iv = .int .i64 i ∧ Below W5.heap.size W5 wr ∧ al.take i = al'.take i) (fun iv _ => n2 - (intOf iv).toNat)
    case atStart => exact ⟨0, Nat.zero_le _, rfl, HB.out, by simp⟩
    case round =>
     obtain ⟨wi, rfl⟩ : ∃ wi : World, wi = wr := ⟨_, rfl⟩
     obtain ⟨i, hi, rfl, hb, ht⟩ := hrel
     have HB := Lib.hid hb
     have HT := Lib.hid ht
     clear ht
     obtain ⟨x0, x1⟩ := HX.out.below hb
     obtain ⟨y0, y1⟩ := HY.out.below hb
     by_cases hin : i < n2
     · obtain ⟨x, b3, o3, a5, k5, hx, rfl, p0, p1, p2, hs⟩ := (HH.out.arcs.mono (Nat.le_refl _) hb).at hin
       obtain ⟨x', b4, o4, a6, k6, hx', rfl, q0, q1, q2, hs'⟩ := (HH'.out.arcs.mono (Nat.le_refl _) hb).at hin
       have HU := Lib.hid hx
       have HU' := Lib.hid hx'
       obtain ⟨⟨f, t⟩, src⟩ := x
       obtain ⟨⟨f', t'⟩, src'⟩ := x'
       simp only at p0 p1 p2 q0 q1 q2
       have HSI := Lib.hid (fun W (hw : Below wi.heap.size wi W) => sameI a5 a6 k5 k6 src.length src'.length src src' W (hs.src.mono (Nat.le_refl _) hw) (hs'.src.mono (Nat.le_refl _) hw))
       obtain ⟨q, hq⟩ : ∃ q, src.length = q := ⟨_, rfl⟩
       obtain ⟨q', hq'⟩ : ∃ q, src'.length = q := ⟨_, rfl⟩
       rw [hq] at p2
       rw [hq'] at q2
       rw [hq, hq'] at HSI
       have HP0 := Lib.hid p0
       have HP1 := Lib.hid p1
       have HP2 := Lib.hid p2
       have HQ0 := Lib.hid q0
       have HQ1 := Lib.hid q1
       have HQ2 := Lib.hid q2
       have HX1 := Lib.hid x1
       have HY1 := Lib.hid y1
       have i1 : (i : Int) < (n2 : Int) := by omega
       clear hx hx' hs hs' hq hq' hb p0 p1 p2 q0 q1 q2 x0 y0
       by_cases hf : f = f'
       case neg =>
        have z0 : (f != f') = true := by simpa using hf
        have HE := Lib.hid (show R = false by rw [← HR.out, decide_eq_false_iff_not]; exact fun e => take_ne HU.out HU'.out (fun h => hf (by cases h; rfl)) e.2)
        clear hf
        go_wp2_with (fail)
        clear x1 y1
        have HSX := Lib.hid (show Below wi.heap.size wi wi.drew from bdrewN _ 1)
        refine (wpIn_wide (n := 20)).1 ?_
        refine wpIn_region_planM (fun W' => Below wi.heap.size wi W') 44 (.take 0 <| .take 1 <| .take 2 <| .take 3 <| .take 4 <| .take 5 <| .take 6 <| .take 7 <| .take 8 <| .take 9 <| .take 10 <| .take 11 <| .take 12 <| .take 13 <| .take 14 <| .take 15 <| .take 16 <| .take 17 <| .take 18 <| .take 19 <| .take 20 <| .take 21 <| .take 22 <| .take 23 <| .take 24 <| .take 25 <| .take 26 <| .take 27 <| .take 28 <| .take 29 <| .take 30 <| .take 31 <| .take 32 <| .take 33 <| .take 34 <| .take 35 <| .take 36 <| .take 37 <| .take 38 <| .take 39 <| .take 40 <| .one 41 <| .take 42 <| .take 43 <| .fin) (fun _ => trivial) (by kernel_rfl) (by kernel_rfl) (bdrewN wi 1) ?_
        apply pm_take rfl rfl (by rfl)
        case hy =>
         rintro W' hb'
         clear hb'
         go_simp
         first | done | with_reducible rfl
        simp only [List.setIfInBounds_toArray, List.set_cons_zero, List.set_cons_succ]
        apply pm_take rfl rfl (by rfl)
        case hy =>
         rintro W' hb'
         have e0 := cell_keep hb' HX1.out
         have e1 := cell_keep hb' HY1.out
         have g0 := cell_keep hb' HP0.out
         have g1 := cell_keep hb' HP1.out
         have g2 := cell_keep hb' HP2.out
         have g3 := cell_keep hb' HQ0.out
         have g4 := cell_keep hb' HQ1.out
         have g5 := cell_keep hb' HQ2.out
         clear hb'
         go_simp
         first | done | with_reducible rfl
        simp only [List.setIfInBounds_toArray, List.set_cons_zero, List.set_cons_succ]
        iterate 3
         apply pm_take rfl rfl (by rfl)
         case hy =>
          rintro W' hb'
          clear hb'
          go_simp
          first | done | with_reducible rfl
         simp only [List.setIfInBounds_toArray, List.set_cons_zero, List.set_cons_succ]
        apply pm_take rfl rfl (by rfl)
        case hy =>
         rintro W' hb'
         have e0 := cell_keep hb' HX1.out
         have e1 := cell_keep hb' HY1.out
         have g0 := cell_keep hb' HP0.out
         have g1 := cell_keep hb' HP1.out
         have g2 := cell_keep hb' HP2.out
         have g3 := cell_keep hb' HQ0.out
         have g4 := cell_keep hb' HQ1.out
         have g5 := cell_keep hb' HQ2.out
         clear hb'
         go_simp
         first | done | with_reducible rfl
        simp only [List.setIfInBounds_toArray, List.set_cons_zero, List.set_cons_succ]
        apply pm_take rfl rfl (by rfl)
        case hy =>
         rintro W' hb'
         clear hb'
         go_simp
         first | done | with_reducible rfl
        simp only [List.setIfInBounds_toArray, List.set_cons_zero, List.set_cons_succ]
        apply pm_take rfl rfl (by rfl)
        case hy =>
         rintro W' hb'
         have e0 := cell_keep hb' HX1.out
         have e1 := cell_keep hb' HY1.out
         have g0 := cell_keep hb' HP0.out
         have g1 := cell_keep hb' HP1.out
         have g2 := cell_keep hb' HP2.out
         have g3 := cell_keep hb' HQ0.out
         have g4 := cell_keep hb' HQ1.out
         have g5 := cell_keep hb' HQ2.out
         clear hb'
         go_simp
         first | done | with_reducible rfl
        simp only [List.setIfInBounds_toArray, List.set_cons_zero, List.set_cons_succ]
        iterate 3
         apply pm_take rfl rfl (by rfl)
         case hy =>
          rintro W' hb'
          clear hb'
          go_simp
          first | done | with_reducible rfl
         simp only [List.setIfInBounds_toArray, List.set_cons_zero, List.set_cons_succ]
        apply pm_take rfl rfl (by rfl)
        case hy =>
         rintro W' hb'
         have e0 := cell_keep hb' HX1.out
         have e1 := cell_keep hb' HY1.out
         have g0 := cell_keep hb' HP0.out
         have g1 := cell_keep hb' HP1.out
         have g2 := cell_keep hb' HP2.out
         have g3 := cell_keep hb' HQ0.out
         have g4 := cell_keep hb' HQ1.out
         have g5 := cell_keep hb' HQ2.out
         clear hb'
         go_simp
         first | done | with_reducible rfl
        simp only [List.setIfInBounds_toArray, List.set_cons_zero, List.set_cons_succ]
        iterate 2
         apply pm_take rfl rfl (by rfl)
         case hy =>
          rintro W' hb'
          clear hb'
          go_simp
          first | done | with_reducible rfl
         simp only [List.setIfInBounds_toArray, List.set_cons_zero, List.set_cons_succ]
        iterate 13
         apply pm_no (j := 13) (t := 61) (b := true) (c := false) rfl rfl rfl rfl rfl (by simp) rfl
         simp only [List.setIfInBounds_toArray, List.set_cons_zero, List.set_cons_succ]
        iterate 2
         apply pm_take rfl rfl (by rfl)
         case hy =>
          rintro W' hb'
          clear hb'
          go_simp
          first | done | with_reducible rfl
         simp only [List.setIfInBounds_toArray, List.set_cons_zero, List.set_cons_succ]
        iterate 12
         apply pm_no (j := 28) (t := 76) (b := true) (c := false) rfl rfl rfl rfl rfl (by simp) rfl
         simp only [List.setIfInBounds_toArray, List.set_cons_zero, List.set_cons_succ]
        refine pm_one rfl ?_
        gi_wp2_with (fail)
        rename_i ax
        refine ⟨trivial, ax _ _ ?_⟩
        gi_wp2_with (fail)
        refine ⟨fun _ => HSX.out, ?_⟩
        apply pm_no (j := 28) (t := 76) (b := true) (c := false) rfl rfl rfl rfl rfl (by simp) rfl
        simp only [List.setIfInBounds_toArray, List.set_cons_zero, List.set_cons_succ]
        apply pm_take rfl rfl (by rfl)
        case hy =>
         rintro W' hb'
         clear hb'
         go_simp
         first | done | with_reducible rfl
        simp only [List.setIfInBounds_toArray, List.set_cons_zero, List.set_cons_succ]
        refine pm_fin ?_
        gi_wp2_with (fail)
        go_wp2_with (fail)
        go_ret
        exact ⟨by rw [HE.out]; rfl, bstep HB5.out (below_drew' HB.out)⟩
       by_cases ht : t = t'
       case neg =>
        have z0 : (f != f') = false := by simpa using hf
        have z1 : (t != t') = true := by simpa using ht
        have HE := Lib.hid (show R = false by rw [← HR.out, decide_eq_false_iff_not]; exact fun e => take_ne HU.out HU'.out (fun h => ht (by cases h; rfl)) e.2)
        clear hf ht
        go_wp2_with (fail)
        clear x1 y1
        have HSX := Lib.hid (show Below wi.heap.size wi wi.drew from bdrewN _ 1)
        refine (wpIn_wide (n := 20)).1 ?_
        refine wpIn_region_planM (fun W' => Below wi.heap.size wi W') 44 (.take 0 <| .take 1 <| .take 2 <| .take 3 <| .take 4 <| .take 5 <| .take 6 <| .take 7 <| .take 8 <| .take 9 <| .take 10 <| .take 11 <| .take 12 <| .take 13 <| .take 14 <| .take 15 <| .take 16 <| .take 17 <| .take 18 <| .take 19 <| .take 20 <| .take 21 <| .take 22 <| .take 23 <| .take 24 <| .take 25 <| .take 26 <| .take 27 <| .take 28 <| .take 29 <| .take 30 <| .take 31 <| .take 32 <| .take 33 <| .take 34 <| .take 35 <| .take 36 <| .take 37 <| .take 38 <| .take 39 <| .take 40 <| .one 41 <| .take 42 <| .take 43 <| .fin) (fun _ => trivial) (by kernel_rfl) (by kernel_rfl) (bdrewN wi 1) ?_
        apply pm_take rfl rfl (by rfl)
        case hy =>
         rintro W' hb'
         clear hb'
         go_simp
         first | done | with_reducible rfl
        simp only [List.setIfInBounds_toArray, List.set_cons_zero, List.set_cons_succ]
        apply pm_take rfl rfl (by rfl)
        case hy =>
         rintro W' hb'
         have e0 := cell_keep hb' HX1.out
         have e1 := cell_keep hb' HY1.out
         have g0 := cell_keep hb' HP0.out
         have g1 := cell_keep hb' HP1.out
         have g2 := cell_keep hb' HP2.out
         have g3 := cell_keep hb' HQ0.out
         have g4 := cell_keep hb' HQ1.out
         have g5 := cell_keep hb' HQ2.out
         clear hb'
         go_simp
         first | done | with_reducible rfl
        simp only [List.setIfInBounds_toArray, List.set_cons_zero, List.set_cons_succ]
        iterate 3
         apply pm_take rfl rfl (by rfl)
         case hy =>
          rintro W' hb'
          clear hb'
          go_simp
          first | done | with_reducible rfl
         simp only [List.setIfInBounds_toArray, List.set_cons_zero, List.set_cons_succ]
        apply pm_take rfl rfl (by rfl)
        case hy =>
         rintro W' hb'
         have e0 := cell_keep hb' HX1.out
         have e1 := cell_keep hb' HY1.out
         have g0 := cell_keep hb' HP0.out
         have g1 := cell_keep hb' HP1.out
         have g2 := cell_keep hb' HP2.out
         have g3 := cell_keep hb' HQ0.out
         have g4 := cell_keep hb' HQ1.out
         have g5 := cell_keep hb' HQ2.out
         clear hb'
         go_simp
         first | done | with_reducible rfl
        simp only [List.setIfInBounds_toArray, List.set_cons_zero, List.set_cons_succ]
        apply pm_take rfl rfl (by rfl)
        case hy =>
         rintro W' hb'
         clear hb'
         go_simp
         first | done | with_reducible rfl
        simp only [List.setIfInBounds_toArray, List.set_cons_zero, List.set_cons_succ]
        apply pm_take rfl rfl (by rfl)
        case hy =>
         rintro W' hb'
         have e0 := cell_keep hb' HX1.out
         have e1 := cell_keep hb' HY1.out
         have g0 := cell_keep hb' HP0.out
         have g1 := cell_keep hb' HP1.out
         have g2 := cell_keep hb' HP2.out
         have g3 := cell_keep hb' HQ0.out
         have g4 := cell_keep hb' HQ1.out
         have g5 := cell_keep hb' HQ2.out
         clear hb'
         go_simp
         first | done | with_reducible rfl
        simp only [List.setIfInBounds_toArray, List.set_cons_zero, List.set_cons_succ]
        iterate 3
         apply pm_take rfl rfl (by rfl)
         case hy =>
          rintro W' hb'
          clear hb'
          go_simp
          first | done | with_reducible rfl
         simp only [List.setIfInBounds_toArray, List.set_cons_zero, List.set_cons_succ]
        apply pm_take rfl rfl (by rfl)
        case hy =>
         rintro W' hb'
         have e0 := cell_keep hb' HX1.out
         have e1 := cell_keep hb' HY1.out
         have g0 := cell_keep hb' HP0.out
         have g1 := cell_keep hb' HP1.out
         have g2 := cell_keep hb' HP2.out
         have g3 := cell_keep hb' HQ0.out
         have g4 := cell_keep hb' HQ1.out
         have g5 := cell_keep hb' HQ2.out
         clear hb'
         go_simp
         first | done | with_reducible rfl
        simp only [List.setIfInBounds_toArray, List.set_cons_zero, List.set_cons_succ]
        iterate 2
         apply pm_take rfl rfl (by rfl)
         case hy =>
          rintro W' hb'
          clear hb'
          go_simp
          first | done | with_reducible rfl
         simp only [List.setIfInBounds_toArray, List.set_cons_zero, List.set_cons_succ]
        apply pm_gd (j := 13) (t := 61) (b := false) (c := false) rfl rfl rfl rfl rfl (by simp) rfl
        case hy =>
         rintro W' hb'
         clear hb'
         go_simp
         first | done | with_reducible rfl
        simp only [List.setIfInBounds_toArray, List.set_cons_zero, List.set_cons_succ]
        apply pm_gd (j := 13) (t := 61) (b := false) (c := false) rfl rfl rfl rfl rfl (by simp) rfl
        case hy =>
         rintro W' hb'
         have e0 := cell_keep hb' HX1.out
         have e1 := cell_keep hb' HY1.out
         have g0 := cell_keep hb' HP0.out
         have g1 := cell_keep hb' HP1.out
         have g2 := cell_keep hb' HP2.out
         have g3 := cell_keep hb' HQ0.out
         have g4 := cell_keep hb' HQ1.out
         have g5 := cell_keep hb' HQ2.out
         clear hb'
         go_simp
         first | done | with_reducible rfl
        simp only [List.setIfInBounds_toArray, List.set_cons_zero, List.set_cons_succ]
        iterate 3
         apply pm_gd (j := 13) (t := 61) (b := false) (c := false) rfl rfl rfl rfl rfl (by simp) rfl
         case hy =>
          rintro W' hb'
          clear hb'
          go_simp
          first | done | with_reducible rfl
         simp only [List.setIfInBounds_toArray, List.set_cons_zero, List.set_cons_succ]
        apply pm_gd (j := 13) (t := 61) (b := false) (c := false) rfl rfl rfl rfl rfl (by simp) rfl
        case hy =>
         rintro W' hb'
         have e0 := cell_keep hb' HX1.out
         have e1 := cell_keep hb' HY1.out
         have g0 := cell_keep hb' HP0.out
         have g1 := cell_keep hb' HP1.out
         have g2 := cell_keep hb' HP2.out
         have g3 := cell_keep hb' HQ0.out
         have g4 := cell_keep hb' HQ1.out
         have g5 := cell_keep hb' HQ2.out
         clear hb'
         go_simp
         first | done | with_reducible rfl
        simp only [List.setIfInBounds_toArray, List.set_cons_zero, List.set_cons_succ]
        apply pm_gd (j := 13) (t := 61) (b := false) (c := false) rfl rfl rfl rfl rfl (by simp) rfl
        case hy =>
         rintro W' hb'
         clear hb'
         go_simp
         first | done | with_reducible rfl
        simp only [List.setIfInBounds_toArray, List.set_cons_zero, List.set_cons_succ]
        apply pm_gd (j := 13) (t := 61) (b := false) (c := false) rfl rfl rfl rfl rfl (by simp) rfl
        case hy =>
         rintro W' hb'
         have e0 := cell_keep hb' HX1.out
         have e1 := cell_keep hb' HY1.out
         have g0 := cell_keep hb' HP0.out
         have g1 := cell_keep hb' HP1.out
         have g2 := cell_keep hb' HP2.out
         have g3 := cell_keep hb' HQ0.out
         have g4 := cell_keep hb' HQ1.out
         have g5 := cell_keep hb' HQ2.out
         clear hb'
         go_simp
         first | done | with_reducible rfl
        simp only [List.setIfInBounds_toArray, List.set_cons_zero, List.set_cons_succ]
        iterate 3
         apply pm_gd (j := 13) (t := 61) (b := false) (c := false) rfl rfl rfl rfl rfl (by simp) rfl
         case hy =>
          rintro W' hb'
          clear hb'
          go_simp
          first | done | with_reducible rfl
         simp only [List.setIfInBounds_toArray, List.set_cons_zero, List.set_cons_succ]
        apply pm_gd (j := 13) (t := 61) (b := false) (c := false) rfl rfl rfl rfl rfl (by simp) rfl
        case hy =>
         rintro W' hb'
         have e0 := cell_keep hb' HX1.out
         have e1 := cell_keep hb' HY1.out
         have g0 := cell_keep hb' HP0.out
         have g1 := cell_keep hb' HP1.out
         have g2 := cell_keep hb' HP2.out
         have g3 := cell_keep hb' HQ0.out
         have g4 := cell_keep hb' HQ1.out
         have g5 := cell_keep hb' HQ2.out
         clear hb'
         go_simp
         first | done | with_reducible rfl
        simp only [List.setIfInBounds_toArray, List.set_cons_zero, List.set_cons_succ]
        apply pm_gd (j := 13) (t := 61) (b := false) (c := false) rfl rfl rfl rfl rfl (by simp) rfl
        case hy =>
         rintro W' hb'
         clear hb'
         go_simp
         first | done | with_reducible rfl
        simp only [List.setIfInBounds_toArray, List.set_cons_zero, List.set_cons_succ]
        iterate 2
         apply pm_take rfl rfl (by rfl)
         case hy =>
          rintro W' hb'
          clear hb'
          go_simp
          first | done | with_reducible rfl
         simp only [List.setIfInBounds_toArray, List.set_cons_zero, List.set_cons_succ]
        iterate 12
         apply pm_no (j := 28) (t := 76) (b := true) (c := false) rfl rfl rfl rfl rfl (by simp) rfl
         simp only [List.setIfInBounds_toArray, List.set_cons_zero, List.set_cons_succ]
        refine pm_one rfl ?_
        gi_wp2_with (fail)
        rename_i ax
        refine ⟨trivial, ax _ _ ?_⟩
        gi_wp2_with (fail)
        refine ⟨fun _ => HSX.out, ?_⟩
        apply pm_no (j := 28) (t := 76) (b := true) (c := false) rfl rfl rfl rfl rfl (by simp) rfl
        simp only [List.setIfInBounds_toArray, List.set_cons_zero, List.set_cons_succ]
        apply pm_take rfl rfl (by rfl)
        case hy =>
         rintro W' hb'
         clear hb'
         go_simp
         first | done | with_reducible rfl
        simp only [List.setIfInBounds_toArray, List.set_cons_zero, List.set_cons_succ]
        refine pm_fin ?_
        gi_wp2_with (fail)
        go_wp2_with (fail)
        go_ret
        exact ⟨by rw [HE.out]; rfl, bstep HB5.out (below_drew' HB.out)⟩
       have z0 : (f != f') = false := by simpa using hf
       have z1 : (t != t') = false := by simpa using ht
       obtain rfl := hf
       obtain rfl := ht
       by_cases hsr : src = src'
       · have HE := Lib.hid (show (((f, t), src) : Vg.Arc) = ((f, t), src') by rw [hsr])
         rw [decide_eq_true hsr] at HSI
         clear hsr
         go_wp2_with (fail)
         clear x1 y1
         have HSX := Lib.hid (show Below wi.heap.size wi wi.drew from bdrewN _ 1)
         refine (wpIn_wide (n := 20)).1 ?_
         refine wpIn_region_planM (fun W' => Below wi.heap.size wi W') 44 (.take 0 <| .take 1 <| .take 2 <| .take 3 <| .take 4 <| .take 5 <| .take 6 <| .take 7 <| .take 8 <| .take 9 <| .take 10 <| .take 11 <| .take 12 <| .take 13 <| .take 14 <| .take 15 <| .take 16 <| .take 17 <| .take 18 <| .take 19 <| .take 20 <| .take 21 <| .take 22 <| .take 23 <| .take 24 <| .take 25 <| .take 26 <| .take 27 <| .take 28 <| .take 29 <| .take 30 <| .take 31 <| .take 32 <| .take 33 <| .take 34 <| .take 35 <| .take 36 <| .take 37 <| .take 38 <| .take 39 <| .take 40 <| .one 41 <| .take 42 <| .take 43 <| .fin) (fun _ => trivial) (by kernel_rfl) (by kernel_rfl) (bdrewN wi 1) ?_
         apply pm_take rfl rfl (by rfl)
         case hy =>
          rintro W' hb'
          clear hb'
          go_simp
          first | done | with_reducible rfl
         simp only [List.setIfInBounds_toArray, List.set_cons_zero, List.set_cons_succ]
         apply pm_take rfl rfl (by rfl)
         case hy =>
          rintro W' hb'
          have e0 := cell_keep hb' HX1.out
          have e1 := cell_keep hb' HY1.out
          have g0 := cell_keep hb' HP0.out
          have g1 := cell_keep hb' HP1.out
          have g2 := cell_keep hb' HP2.out
          have g3 := cell_keep hb' HQ0.out
          have g4 := cell_keep hb' HQ1.out
          have g5 := cell_keep hb' HQ2.out
          clear hb'
          go_simp
          first | done | with_reducible rfl
         simp only [List.setIfInBounds_toArray, List.set_cons_zero, List.set_cons_succ]
         iterate 3
          apply pm_take rfl rfl (by rfl)
          case hy =>
           rintro W' hb'
           clear hb'
           go_simp
           first | done | with_reducible rfl
          simp only [List.setIfInBounds_toArray, List.set_cons_zero, List.set_cons_succ]
         apply pm_take rfl rfl (by rfl)
         case hy =>
          rintro W' hb'
          have e0 := cell_keep hb' HX1.out
          have e1 := cell_keep hb' HY1.out
          have g0 := cell_keep hb' HP0.out
          have g1 := cell_keep hb' HP1.out
          have g2 := cell_keep hb' HP2.out
          have g3 := cell_keep hb' HQ0.out
          have g4 := cell_keep hb' HQ1.out
          have g5 := cell_keep hb' HQ2.out
          clear hb'
          go_simp
          first | done | with_reducible rfl
         simp only [List.setIfInBounds_toArray, List.set_cons_zero, List.set_cons_succ]
         apply pm_take rfl rfl (by rfl)
         case hy =>
          rintro W' hb'
          clear hb'
          go_simp
          first | done | with_reducible rfl
         simp only [List.setIfInBounds_toArray, List.set_cons_zero, List.set_cons_succ]
         apply pm_take rfl rfl (by rfl)
         case hy =>
          rintro W' hb'
          have e0 := cell_keep hb' HX1.out
          have e1 := cell_keep hb' HY1.out
          have g0 := cell_keep hb' HP0.out
          have g1 := cell_keep hb' HP1.out
          have g2 := cell_keep hb' HP2.out
          have g3 := cell_keep hb' HQ0.out
          have g4 := cell_keep hb' HQ1.out
          have g5 := cell_keep hb' HQ2.out
          clear hb'
          go_simp
          first | done | with_reducible rfl
         simp only [List.setIfInBounds_toArray, List.set_cons_zero, List.set_cons_succ]
         iterate 3
          apply pm_take rfl rfl (by rfl)
          case hy =>
           rintro W' hb'
           clear hb'
           go_simp
           first | done | with_reducible rfl
          simp only [List.setIfInBounds_toArray, List.set_cons_zero, List.set_cons_succ]
         apply pm_take rfl rfl (by rfl)
         case hy =>
          rintro W' hb'
          have e0 := cell_keep hb' HX1.out
          have e1 := cell_keep hb' HY1.out
          have g0 := cell_keep hb' HP0.out
          have g1 := cell_keep hb' HP1.out
          have g2 := cell_keep hb' HP2.out
          have g3 := cell_keep hb' HQ0.out
          have g4 := cell_keep hb' HQ1.out
          have g5 := cell_keep hb' HQ2.out
          clear hb'
          go_simp
          first | done | with_reducible rfl
         simp only [List.setIfInBounds_toArray, List.set_cons_zero, List.set_cons_succ]
         iterate 2
          apply pm_take rfl rfl (by rfl)
          case hy =>
           rintro W' hb'
           clear hb'
           go_simp
           first | done | with_reducible rfl
          simp only [List.setIfInBounds_toArray, List.set_cons_zero, List.set_cons_succ]
         apply pm_gd (j := 13) (t := 61) (b := false) (c := false) rfl rfl rfl rfl rfl (by simp) rfl
         case hy =>
          rintro W' hb'
          clear hb'
          go_simp
          first | done | with_reducible rfl
         simp only [List.setIfInBounds_toArray, List.set_cons_zero, List.set_cons_succ]
         apply pm_gd (j := 13) (t := 61) (b := false) (c := false) rfl rfl rfl rfl rfl (by simp) rfl
         case hy =>
          rintro W' hb'
          have e0 := cell_keep hb' HX1.out
          have e1 := cell_keep hb' HY1.out
          have g0 := cell_keep hb' HP0.out
          have g1 := cell_keep hb' HP1.out
          have g2 := cell_keep hb' HP2.out
          have g3 := cell_keep hb' HQ0.out
          have g4 := cell_keep hb' HQ1.out
          have g5 := cell_keep hb' HQ2.out
          clear hb'
          go_simp
          first | done | with_reducible rfl
         simp only [List.setIfInBounds_toArray, List.set_cons_zero, List.set_cons_succ]
         iterate 3
          apply pm_gd (j := 13) (t := 61) (b := false) (c := false) rfl rfl rfl rfl rfl (by simp) rfl
          case hy =>
           rintro W' hb'
           clear hb'
           go_simp
           first | done | with_reducible rfl
          simp only [List.setIfInBounds_toArray, List.set_cons_zero, List.set_cons_succ]
         apply pm_gd (j := 13) (t := 61) (b := false) (c := false) rfl rfl rfl rfl rfl (by simp) rfl
         case hy =>
          rintro W' hb'
          have e0 := cell_keep hb' HX1.out
          have e1 := cell_keep hb' HY1.out
          have g0 := cell_keep hb' HP0.out
          have g1 := cell_keep hb' HP1.out
          have g2 := cell_keep hb' HP2.out
          have g3 := cell_keep hb' HQ0.out
          have g4 := cell_keep hb' HQ1.out
          have g5 := cell_keep hb' HQ2.out
          clear hb'
          go_simp
          first | done | with_reducible rfl
         simp only [List.setIfInBounds_toArray, List.set_cons_zero, List.set_cons_succ]
         apply pm_gd (j := 13) (t := 61) (b := false) (c := false) rfl rfl rfl rfl rfl (by simp) rfl
         case hy =>
          rintro W' hb'
          clear hb'
          go_simp
          first | done | with_reducible rfl
         simp only [List.setIfInBounds_toArray, List.set_cons_zero, List.set_cons_succ]
         apply pm_gd (j := 13) (t := 61) (b := false) (c := false) rfl rfl rfl rfl rfl (by simp) rfl
         case hy =>
          rintro W' hb'
          have e0 := cell_keep hb' HX1.out
          have e1 := cell_keep hb' HY1.out
          have g0 := cell_keep hb' HP0.out
          have g1 := cell_keep hb' HP1.out
          have g2 := cell_keep hb' HP2.out
          have g3 := cell_keep hb' HQ0.out
          have g4 := cell_keep hb' HQ1.out
          have g5 := cell_keep hb' HQ2.out
          clear hb'
          go_simp
          first | done | with_reducible rfl
         simp only [List.setIfInBounds_toArray, List.set_cons_zero, List.set_cons_succ]
         iterate 3
          apply pm_gd (j := 13) (t := 61) (b := false) (c := false) rfl rfl rfl rfl rfl (by simp) rfl
          case hy =>
           rintro W' hb'
           clear hb'
           go_simp
           first | done | with_reducible rfl
          simp only [List.setIfInBounds_toArray, List.set_cons_zero, List.set_cons_succ]
         apply pm_gd (j := 13) (t := 61) (b := false) (c := false) rfl rfl rfl rfl rfl (by simp) rfl
         case hy =>
          rintro W' hb'
          have e0 := cell_keep hb' HX1.out
          have e1 := cell_keep hb' HY1.out
          have g0 := cell_keep hb' HP0.out
          have g1 := cell_keep hb' HP1.out
          have g2 := cell_keep hb' HP2.out
          have g3 := cell_keep hb' HQ0.out
          have g4 := cell_keep hb' HQ1.out
          have g5 := cell_keep hb' HQ2.out
          clear hb'
          go_simp
          first | done | with_reducible rfl
         simp only [List.setIfInBounds_toArray, List.set_cons_zero, List.set_cons_succ]
         apply pm_gd (j := 13) (t := 61) (b := false) (c := false) rfl rfl rfl rfl rfl (by simp) rfl
         case hy =>
          rintro W' hb'
          clear hb'
          go_simp
          first | done | with_reducible rfl
         simp only [List.setIfInBounds_toArray, List.set_cons_zero, List.set_cons_succ]
         iterate 2
          apply pm_take rfl rfl (by rfl)
          case hy =>
           rintro W' hb'
           clear hb'
           go_simp
           first | done | with_reducible rfl
          simp only [List.setIfInBounds_toArray, List.set_cons_zero, List.set_cons_succ]
         apply pm_gd (j := 28) (t := 76) (b := false) (c := false) rfl rfl rfl rfl rfl (by simp) rfl
         case hy =>
          rintro W' hb'
          clear hb'
          go_simp
          first | done | with_reducible rfl
         simp only [List.setIfInBounds_toArray, List.set_cons_zero, List.set_cons_succ]
         apply pm_gd (j := 28) (t := 76) (b := false) (c := false) rfl rfl rfl rfl rfl (by simp) rfl
         case hy =>
          rintro W' hb'
          have e0 := cell_keep hb' HX1.out
          have e1 := cell_keep hb' HY1.out
          have g0 := cell_keep hb' HP0.out
          have g1 := cell_keep hb' HP1.out
          have g2 := cell_keep hb' HP2.out
          have g3 := cell_keep hb' HQ0.out
          have g4 := cell_keep hb' HQ1.out
          have g5 := cell_keep hb' HQ2.out
          clear hb'
          go_simp
          first | done | with_reducible rfl
         simp only [List.setIfInBounds_toArray, List.set_cons_zero, List.set_cons_succ]
         iterate 3
          apply pm_gd (j := 28) (t := 76) (b := false) (c := false) rfl rfl rfl rfl rfl (by simp) rfl
          case hy =>
           rintro W' hb'
           clear hb'
           go_simp
           first | done | with_reducible rfl
          simp only [List.setIfInBounds_toArray, List.set_cons_zero, List.set_cons_succ]
         apply pm_gd (j := 28) (t := 76) (b := false) (c := false) rfl rfl rfl rfl rfl (by simp) rfl
         case hy =>
          rintro W' hb'
          have e0 := cell_keep hb' HX1.out
          have e1 := cell_keep hb' HY1.out
          have g0 := cell_keep hb' HP0.out
          have g1 := cell_keep hb' HP1.out
          have g2 := cell_keep hb' HP2.out
          have g3 := cell_keep hb' HQ0.out
          have g4 := cell_keep hb' HQ1.out
          have g5 := cell_keep hb' HQ2.out
          clear hb'
          go_simp
          first | done | with_reducible rfl
         simp only [List.setIfInBounds_toArray, List.set_cons_zero, List.set_cons_succ]
         apply pm_gd (j := 28) (t := 76) (b := false) (c := false) rfl rfl rfl rfl rfl (by simp) rfl
         case hy =>
          rintro W' hb'
          clear hb'
          go_simp
          first | done | with_reducible rfl
         simp only [List.setIfInBounds_toArray, List.set_cons_zero, List.set_cons_succ]
         apply pm_gd (j := 28) (t := 76) (b := false) (c := false) rfl rfl rfl rfl rfl (by simp) rfl
         case hy =>
          rintro W' hb'
          have e0 := cell_keep hb' HX1.out
          have e1 := cell_keep hb' HY1.out
          have g0 := cell_keep hb' HP0.out
          have g1 := cell_keep hb' HP1.out
          have g2 := cell_keep hb' HP2.out
          have g3 := cell_keep hb' HQ0.out
          have g4 := cell_keep hb' HQ1.out
          have g5 := cell_keep hb' HQ2.out
          clear hb'
          go_simp
          first | done | with_reducible rfl
         simp only [List.setIfInBounds_toArray, List.set_cons_zero, List.set_cons_succ]
         iterate 3
          apply pm_gd (j := 28) (t := 76) (b := false) (c := false) rfl rfl rfl rfl rfl (by simp) rfl
          case hy =>
           rintro W' hb'
           clear hb'
           go_simp
           first | done | with_reducible rfl
          simp only [List.setIfInBounds_toArray, List.set_cons_zero, List.set_cons_succ]
         apply pm_gd (j := 28) (t := 76) (b := false) (c := false) rfl rfl rfl rfl rfl (by simp) rfl
         case hy =>
          rintro W' hb'
          have e0 := cell_keep hb' HX1.out
          have e1 := cell_keep hb' HY1.out
          have g0 := cell_keep hb' HP0.out
          have g1 := cell_keep hb' HP1.out
          have g2 := cell_keep hb' HP2.out
          have g3 := cell_keep hb' HQ0.out
          have g4 := cell_keep hb' HQ1.out
          have g5 := cell_keep hb' HQ2.out
          clear hb'
          go_simp
          first | done | with_reducible rfl
         simp only [List.setIfInBounds_toArray, List.set_cons_zero, List.set_cons_succ]
         refine pm_one rfl ?_
         gi_wp2_with (fail)
         refine ⟨trivial, (callsIn_wide.2 (HSI.out _ HSX.out)).mono ?_⟩
         rintro e W9 ⟨rfl, hb9⟩
         have HSX := Lib.hid (bstep HSX.out hb9)
         clear hb9
         gi_wp2_with (fail)
         refine ⟨fun _ => HSX.out, ?_⟩
         apply pm_gd (j := 28) (t := 76) (b := false) (c := false) rfl rfl rfl rfl rfl (by simp) rfl
         case hy =>
          rintro W' hb'
          clear hb'
          go_simp
          first | done | with_reducible rfl
         simp only [List.setIfInBounds_toArray, List.set_cons_zero, List.set_cons_succ]
         apply pm_take rfl rfl (by rfl)
         case hy =>
          rintro W' hb'
          clear hb'
          go_simp
          first | done | with_reducible rfl
         simp only [List.setIfInBounds_toArray, List.set_cons_zero, List.set_cons_succ]
         refine pm_fin ?_
         gi_wp2_with (fail)
         go_wp2_with (fail)
         exact ⟨⟨i + 1, by omega, by simp, bstep HB.out HSX.out, take_step HU.out HU'.out HT.out HE.out⟩, by simp [intOf]; omega⟩
       · have HE := Lib.hid (show R = false by rw [← HR.out, decide_eq_false_iff_not]; exact fun e => take_ne HU.out HU'.out (fun h => hsr (by cases h; rfl)) e.2)
         rw [decide_eq_false hsr] at HSI
         clear hsr
         go_wp2_with (fail)
         clear x1 y1
         have HSX := Lib.hid (show Below wi.heap.size wi wi.drew from bdrewN _ 1)
         refine (wpIn_wide (n := 20)).1 ?_
         refine wpIn_region_planM (fun W' => Below wi.heap.size wi W') 44 (.take 0 <| .take 1 <| .take 2 <| .take 3 <| .take 4 <| .take 5 <| .take 6 <| .take 7 <| .take 8 <| .take 9 <| .take 10 <| .take 11 <| .take 12 <| .take 13 <| .take 14 <| .take 15 <| .take 16 <| .take 17 <| .take 18 <| .take 19 <| .take 20 <| .take 21 <| .take 22 <| .take 23 <| .take 24 <| .take 25 <| .take 26 <| .take 27 <| .take 28 <| .take 29 <| .take 30 <| .take 31 <| .take 32 <| .take 33 <| .take 34 <| .take 35 <| .take 36 <| .take 37 <| .take 38 <| .take 39 <| .take 40 <| .one 41 <| .take 42 <| .take 43 <| .fin) (fun _ => trivial) (by kernel_rfl) (by kernel_rfl) (bdrewN wi 1) ?_
         apply pm_take rfl rfl (by rfl)
         case hy =>
          rintro W' hb'
          clear hb'
          go_simp
          first | done | with_reducible rfl
         simp only [List.setIfInBounds_toArray, List.set_cons_zero, List.set_cons_succ]
         apply pm_take rfl rfl (by rfl)
         case hy =>
          rintro W' hb'
          have e0 := cell_keep hb' HX1.out
          have e1 := cell_keep hb' HY1.out
          have g0 := cell_keep hb' HP0.out
          have g1 := cell_keep hb' HP1.out
          have g2 := cell_keep hb' HP2.out
          have g3 := cell_keep hb' HQ0.out
          have g4 := cell_keep hb' HQ1.out
          have g5 := cell_keep hb' HQ2.out
          clear hb'
          go_simp
          first | done | with_reducible rfl
         simp only [List.setIfInBounds_toArray, List.set_cons_zero, List.set_cons_succ]
         iterate 3
          apply pm_take rfl rfl (by rfl)
          case hy =>
           rintro W' hb'
           clear hb'
           go_simp
           first | done | with_reducible rfl
          simp only [List.setIfInBounds_toArray, List.set_cons_zero, List.set_cons_succ]
         apply pm_take rfl rfl (by rfl)
         case hy =>
          rintro W' hb'
          have e0 := cell_keep hb' HX1.out
          have e1 := cell_keep hb' HY1.out
          have g0 := cell_keep hb' HP0.out
          have g1 := cell_keep hb' HP1.out
          have g2 := cell_keep hb' HP2.out
          have g3 := cell_keep hb' HQ0.out
          have g4 := cell_keep hb' HQ1.out
          have g5 := cell_keep hb' HQ2.out
          clear hb'
          go_simp
          first | done | with_reducible rfl
         simp only [List.setIfInBounds_toArray, List.set_cons_zero, List.set_cons_succ]
         apply pm_take rfl rfl (by rfl)
         case hy =>
          rintro W' hb'
          clear hb'
          go_simp
          first | done | with_reducible rfl
         simp only [List.setIfInBounds_toArray, List.set_cons_zero, List.set_cons_succ]
         apply pm_take rfl rfl (by rfl)
         case hy =>
          rintro W' hb'
          have e0 := cell_keep hb' HX1.out
          have e1 := cell_keep hb' HY1.out
          have g0 := cell_keep hb' HP0.out
          have g1 := cell_keep hb' HP1.out
          have g2 := cell_keep hb' HP2.out
          have g3 := cell_keep hb' HQ0.out
          have g4 := cell_keep hb' HQ1.out
          have g5 := cell_keep hb' HQ2.out
          clear hb'
          go_simp
          first | done | with_reducible rfl
         simp only [List.setIfInBounds_toArray, List.set_cons_zero, List.set_cons_succ]
         iterate 3
          apply pm_take rfl rfl (by rfl)
          case hy =>
           rintro W' hb'
           clear hb'
           go_simp
           first | done | with_reducible rfl
          simp only [List.setIfInBounds_toArray, List.set_cons_zero, List.set_cons_succ]
         apply pm_take rfl rfl (by rfl)
         case hy =>
          rintro W' hb'
          have e0 := cell_keep hb' HX1.out
          have e1 := cell_keep hb' HY1.out
          have g0 := cell_keep hb' HP0.out
          have g1 := cell_keep hb' HP1.out
          have g2 := cell_keep hb' HP2.out
          have g3 := cell_keep hb' HQ0.out
          have g4 := cell_keep hb' HQ1.out
          have g5 := cell_keep hb' HQ2.out
          clear hb'
          go_simp
          first | done | with_reducible rfl
         simp only [List.setIfInBounds_toArray, List.set_cons_zero, List.set_cons_succ]
         iterate 2
          apply pm_take rfl rfl (by rfl)
          case hy =>
           rintro W' hb'
           clear hb'
           go_simp
           first | done | with_reducible rfl
          simp only [List.setIfInBounds_toArray, List.set_cons_zero, List.set_cons_succ]
         apply pm_gd (j := 13) (t := 61) (b := false) (c := false) rfl rfl rfl rfl rfl (by simp) rfl
         case hy =>
          rintro W' hb'
          clear hb'
          go_simp
          first | done | with_reducible rfl
         simp only [List.setIfInBounds_toArray, List.set_cons_zero, List.set_cons_succ]
         apply pm_gd (j := 13) (t := 61) (b := false) (c := false) rfl rfl rfl rfl rfl (by simp) rfl
         case hy =>
          rintro W' hb'
          have e0 := cell_keep hb' HX1.out
          have e1 := cell_keep hb' HY1.out
          have g0 := cell_keep hb' HP0.out
          have g1 := cell_keep hb' HP1.out
          have g2 := cell_keep hb' HP2.out
          have g3 := cell_keep hb' HQ0.out
          have g4 := cell_keep hb' HQ1.out
          have g5 := cell_keep hb' HQ2.out
          clear hb'
          go_simp
          first | done | with_reducible rfl
         simp only [List.setIfInBounds_toArray, List.set_cons_zero, List.set_cons_succ]
         iterate 3
          apply pm_gd (j := 13) (t := 61) (b := false) (c := false) rfl rfl rfl rfl rfl (by simp) rfl
          case hy =>
           rintro W' hb'
           clear hb'
           go_simp
           first | done | with_reducible rfl
          simp only [List.setIfInBounds_toArray, List.set_cons_zero, List.set_cons_succ]
         apply pm_gd (j := 13) (t := 61) (b := false) (c := false) rfl rfl rfl rfl rfl (by simp) rfl
         case hy =>
          rintro W' hb'
          have e0 := cell_keep hb' HX1.out
          have e1 := cell_keep hb' HY1.out
          have g0 := cell_keep hb' HP0.out
          have g1 := cell_keep hb' HP1.out
          have g2 := cell_keep hb' HP2.out
          have g3 := cell_keep hb' HQ0.out
          have g4 := cell_keep hb' HQ1.out
          have g5 := cell_keep hb' HQ2.out
          clear hb'
          go_simp
          first | done | with_reducible rfl
         simp only [List.setIfInBounds_toArray, List.set_cons_zero, List.set_cons_succ]
         apply pm_gd (j := 13) (t := 61) (b := false) (c := false) rfl rfl rfl rfl rfl (by simp) rfl
         case hy =>
          rintro W' hb'
          clear hb'
          go_simp
          first | done | with_reducible rfl
         simp only [List.setIfInBounds_toArray, List.set_cons_zero, List.set_cons_succ]
         apply pm_gd (j := 13) (t := 61) (b := false) (c := false) rfl rfl rfl rfl rfl (by simp) rfl
         case hy =>
          rintro W' hb'
          have e0 := cell_keep hb' HX1.out
          have e1 := cell_keep hb' HY1.out
          have g0 := cell_keep hb' HP0.out
          have g1 := cell_keep hb' HP1.out
          have g2 := cell_keep hb' HP2.out
          have g3 := cell_keep hb' HQ0.out
          have g4 := cell_keep hb' HQ1.out
          have g5 := cell_keep hb' HQ2.out
          clear hb'
          go_simp
          first | done | with_reducible rfl
         simp only [List.setIfInBounds_toArray, List.set_cons_zero, List.set_cons_succ]
         iterate 3
          apply pm_gd (j := 13) (t := 61) (b := false) (c := false) rfl rfl rfl rfl rfl (by simp) rfl
          case hy =>
           rintro W' hb'
           clear hb'
           go_simp
           first | done | with_reducible rfl
          simp only [List.setIfInBounds_toArray, List.set_cons_zero, List.set_cons_succ]
         apply pm_gd (j := 13) (t := 61) (b := false) (c := false) rfl rfl rfl rfl rfl (by simp) rfl
         case hy =>
          rintro W' hb'
          have e0 := cell_keep hb' HX1.out
          have e1 := cell_keep hb' HY1.out
          have g0 := cell_keep hb' HP0.out
          have g1 := cell_keep hb' HP1.out
          have g2 := cell_keep hb' HP2.out
          have g3 := cell_keep hb' HQ0.out
          have g4 := cell_keep hb' HQ1.out
          have g5 := cell_keep hb' HQ2.out
          clear hb'
          go_simp
          first | done | with_reducible rfl
         simp only [List.setIfInBounds_toArray, List.set_cons_zero, List.set_cons_succ]
         apply pm_gd (j := 13) (t := 61) (b := false) (c := false) rfl rfl rfl rfl rfl (by simp) rfl
         case hy =>
          rintro W' hb'
          clear hb'
          go_simp
          first | done | with_reducible rfl
         simp only [List.setIfInBounds_toArray, List.set_cons_zero, List.set_cons_succ]
         iterate 2
          apply pm_take rfl rfl (by rfl)
          case hy =>
           rintro W' hb'
           clear hb'
           go_simp
           first | done | with_reducible rfl
          simp only [List.setIfInBounds_toArray, List.set_cons_zero, List.set_cons_succ]
         apply pm_gd (j := 28) (t := 76) (b := false) (c := false) rfl rfl rfl rfl rfl (by simp) rfl
         case hy =>
          rintro W' hb'
          clear hb'
          go_simp
          first | done | with_reducible rfl
         simp only [List.setIfInBounds_toArray, List.set_cons_zero, List.set_cons_succ]
         apply pm_gd (j := 28) (t := 76) (b := false) (c := false) rfl rfl rfl rfl rfl (by simp) rfl
         case hy =>
          rintro W' hb'
          have e0 := cell_keep hb' HX1.out
          have e1 := cell_keep hb' HY1.out
          have g0 := cell_keep hb' HP0.out
          have g1 := cell_keep hb' HP1.out
          have g2 := cell_keep hb' HP2.out
          have g3 := cell_keep hb' HQ0.out
          have g4 := cell_keep hb' HQ1.out
          have g5 := cell_keep hb' HQ2.out
          clear hb'
          go_simp
          first | done | with_reducible rfl
         simp only [List.setIfInBounds_toArray, List.set_cons_zero, List.set_cons_succ]
         iterate 3
          apply pm_gd (j := 28) (t := 76) (b := false) (c := false) rfl rfl rfl rfl rfl (by simp) rfl
          case hy =>
           rintro W' hb'
           clear hb'
           go_simp
           first | done | with_reducible rfl
          simp only [List.setIfInBounds_toArray, List.set_cons_zero, List.set_cons_succ]
         apply pm_gd (j := 28) (t := 76) (b := false) (c := false) rfl rfl rfl rfl rfl (by simp) rfl
         case hy =>
          rintro W' hb'
          have e0 := cell_keep hb' HX1.out
          have e1 := cell_keep hb' HY1.out
          have g0 := cell_keep hb' HP0.out
          have g1 := cell_keep hb' HP1.out
          have g2 := cell_keep hb' HP2.out
          have g3 := cell_keep hb' HQ0.out
          have g4 := cell_keep hb' HQ1.out
          have g5 := cell_keep hb' HQ2.out
          clear hb'
          go_simp
          first | done | with_reducible rfl
         simp only [List.setIfInBounds_toArray, List.set_cons_zero, List.set_cons_succ]
         apply pm_gd (j := 28) (t := 76) (b := false) (c := false) rfl rfl rfl rfl rfl (by simp) rfl
         case hy =>
          rintro W' hb'
          clear hb'
          go_simp
          first | done | with_reducible rfl
         simp only [List.setIfInBounds_toArray, List.set_cons_zero, List.set_cons_succ]
         apply pm_gd (j := 28) (t := 76) (b := false) (c := false) rfl rfl rfl rfl rfl (by simp) rfl
         case hy =>
          rintro W' hb'
          have e0 := cell_keep hb' HX1.out
          have e1 := cell_keep hb' HY1.out
          have g0 := cell_keep hb' HP0.out
          have g1 := cell_keep hb' HP1.out
          have g2 := cell_keep hb' HP2.out
          have g3 := cell_keep hb' HQ0.out
          have g4 := cell_keep hb' HQ1.out
          have g5 := cell_keep hb' HQ2.out
          clear hb'
          go_simp
          first | done | with_reducible rfl
         simp only [List.setIfInBounds_toArray, List.set_cons_zero, List.set_cons_succ]
         iterate 3
          apply pm_gd (j := 28) (t := 76) (b := false) (c := false) rfl rfl rfl rfl rfl (by simp) rfl
          case hy =>
           rintro W' hb'
           clear hb'
           go_simp
           first | done | with_reducible rfl
          simp only [List.setIfInBounds_toArray, List.set_cons_zero, List.set_cons_succ]
         apply pm_gd (j := 28) (t := 76) (b := false) (c := false) rfl rfl rfl rfl rfl (by simp) rfl
         case hy =>
          rintro W' hb'
          have e0 := cell_keep hb' HX1.out
          have e1 := cell_keep hb' HY1.out
          have g0 := cell_keep hb' HP0.out
          have g1 := cell_keep hb' HP1.out
          have g2 := cell_keep hb' HP2.out
          have g3 := cell_keep hb' HQ0.out
          have g4 := cell_keep hb' HQ1.out
          have g5 := cell_keep hb' HQ2.out
          clear hb'
          go_simp
          first | done | with_reducible rfl
         simp only [List.setIfInBounds_toArray, List.set_cons_zero, List.set_cons_succ]
         refine pm_one rfl ?_
         gi_wp2_with (fail)
         refine ⟨trivial, (callsIn_wide.2 (HSI.out _ HSX.out)).mono ?_⟩
         rintro e W9 ⟨rfl, hb9⟩
         have HSX := Lib.hid (bstep HSX.out hb9)
         clear hb9
         gi_wp2_with (fail)
         refine ⟨fun _ => HSX.out, ?_⟩
         apply pm_gd (j := 28) (t := 76) (b := false) (c := false) rfl rfl rfl rfl rfl (by simp) rfl
         case hy =>
          rintro W' hb'
          clear hb'
          go_simp
          first | done | with_reducible rfl
         simp only [List.setIfInBounds_toArray, List.set_cons_zero, List.set_cons_succ]
         apply pm_take rfl rfl (by rfl)
         case hy =>
          rintro W' hb'
          clear hb'
          go_simp
          first | done | with_reducible rfl
         simp only [List.setIfInBounds_toArray, List.set_cons_zero, List.set_cons_succ]
         refine pm_fin ?_
         gi_wp2_with (fail)
         go_wp2_with (fail)
         go_ret
         exact ⟨by rw [HE.out]; rfl, bstep HB5.out (bstep HB.out HSX.out)⟩
     · obtain rfl : n2 = i := by omega
       have HE := Lib.hid (show R = true by rw [← HR.out]; exact decide_eq_true ⟨HTW.out, take_all HL2.out HL4.out HT.out⟩)
       clear hb
       go_wp2_with (fail)
       go_ret
       exact ⟨by rw [HE.out]; rfl, bstep HB5.out HB.out⟩
end Go.Proofs.YtjmebijckcimoaaGreatDoor
