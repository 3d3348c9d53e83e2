import Derived.Test.YtngdmpkoedpgdaaGreatDoorNa
import Derived.Lib.ConvBytes
import Derived.Test.YtngdmpkoedpgdaaGreatDoorPl
import Derived.Test.YtngdmpkoedpgdaaGreatDoorShelf

/-
  The iterator over clusters.
-/

namespace Go.Proofs.YtngdmpkoedpgdaaGreatDoor
open Go.RowKit Go.Ap Go.Shelf Go.Proofs

attribute [local go_sem] Oper.semAt_some bs_toList empty_toList bs_size bs_extract

theorem kindAt (s : Str) (i : Nat) (h : i < s.length) (w : World) : Calls Tryz.prog 122 #[.int .u8 (((bs s)[i]'(by rw [bs_size]; exact h)).toNat : Int)] w fun e w' => e = .returned (.int .i64 (wkAt s i)) ∧ w = w' := by
  rw [wkAt_of h]; exact kindPc s[i] w
set_option maxHeartbeats 1000000 in
theorem rightP (s : Str) (f i : Nat) (w : World) (hf : f < s.length) (hi : f < i) : Calls Tryz.prog 208 #[.string (bs s), .int .i64 f, .int .i64 i] w fun e w' => e = .returned (.bool (decide (wkAt s f = 1))) ∧ w = w' := by
  have HK := Lib.hid (kindAt s f hf w)
  have d1 : decide ((f : Int) < (i : Int)) = true := by simp; omega
  have d2 : decide (f < i) = true := by simpa using hi
  have h0 : (0 : Int) ≤ (f : Int) := by omega
  by_cases h1 : wkAt s f = 1
  · rw [h1] at HK ⊢
    clear h1
    go_enter Tryz.func208, Tryz.ntmps208
    go_wp2_with (fail)
    refine HK.out.mono ?_
    rintro e w1 ⟨rfl, rfl⟩
    go_wp2_with (fail)
    go_ret
    exact ⟨rfl, rfl⟩
  · have e1 : (wkAt s f == 1) = false := by rw [beq_eq_false_iff_ne]; exact h1
    rw [decide_eq_false h1]
    generalize wkAt s f = k at *
    clear h1
    go_enter Tryz.func208, Tryz.ntmps208
    go_wp2_with (fail)
    refine HK.out.mono ?_
    rintro e w1 ⟨rfl, rfl⟩
    go_wp2_with (fail)
    go_ret
    exact ⟨rfl, rfl⟩

set_option maxRecDepth 100000 in
set_option maxHeartbeats 4000000 in
theorem clusters_it (F : Fence) (hF : F = Fence.wide) (m : Nat) (hm : 1 ≤ m) (l Bw e : Nat) (s : Str) (J Jx : List Clu → World → Prop) (hs : s.length ≤ 4611686018427387903)
    (hY : ∀ pre x W, J pre W → pre.length < (clL s).length → x ∈ clL s → YieldAt F (m - 1) Tryz.prog l #[.int .i64 x.1, .string (bs x.2)] W fun en W' =>
      (en = .returned (.bool true) ∧ J (pre ++ [x]) W' ∧ KeepR e Bw Bw W W') ∨ (en = .returned (.bool false) ∧ Jx (pre ++ [x]) W'))
    (W : World)
    (hcw : W.cell? ⟨Bw, 0, none⟩ = some (.string (bs s))) (h0 : J [] W) :
    CallsIn F m Tryz.prog 207 #[.func (.yield l) #[] #[], .pointer (some ⟨Bw, 0, none⟩)] W fun en W' => (∃ v, en = .returned v) ∧
      ((∃ zs, zs = clL s ∧ J zs W') ∨ (∃ pre, pre <+: clL s ∧ Jx pre W')) := by
  subst hF
  have HY := Lib.hid (show ∀ pre x W, J pre W → pre.length < (clL s).length → x ∈ clL s → YieldAt Fence.wide (m - 1) Tryz.prog l #[.int .i64 x.1, .string (bs x.2)] W fun en W' => ∃ b, en = .returned (.bool b) ∧ AnsC J Jx e Bw Bw pre x W b W' from fun pre x W h1 h2 h3 => (hY pre x W h1 h2 h3).mono fun en W' h => by
    rcases h with ⟨h, h3⟩ | ⟨h, h3⟩
    · exact ⟨true, h, .inl ⟨rfl, h3⟩⟩
    · exact ⟨false, h, .inr ⟨rfl, h3⟩⟩)
  clear hY
  have hFk : Fence.wide.fn 122 := trivial
  have hFr : Fence.wide.fn 208 := trivial
  refine callsIn_of_wp Tryz.func207 rfl trivial ?_ rfl
  simp only [Tryz.ntmps207, List.size_toArray, List.length_cons, List.length_nil, Nat.reduceAdd, Nat.reduceSub, Array.replicate_succ, Array.replicate_zero, List.push_toArray, List.append_toArray, List.nil_append, List.cons_append]
  gi_wp2
  gi_loopw [3, 4] (fun fv iv wr => ∃ n : Nat, n ≤ s.length ∧ iv = .int .i64 ((n : Int) + 1) ∧ fv = .int .i64 ((clF s n).2 : Int) ∧ J (clF s n).1 wr ∧ KeepR e Bw Bw W wr)
    (fun _ iv _ => s.length + 1 - (intOf iv).toNat)
  case atStart => exact ⟨0, Nat.zero_le _, rfl, rfl, h0, KeepR.refl _ _ _ _⟩
  case round =>
    obtain ⟨n, hn, rfl, rfl, hJn, hnk⟩ := hrel
    have HJn := Lib.hid hJn
    have HNk := Lib.hid hnk
    have hcw1 : wr.cell? ⟨Bw, 0, none⟩ = some (.string (bs s)) := (hnk.cell (.inr (.inl rfl))).trans hcw
    clear hJn hnk
    by_cases hlt : n < s.length
    · have hle := clF_le s n
      have HG := Lib.hid (fun h => clF_go (s := s) (n := n) h)
      have HNW := Lib.hid (fun h => clF_new (s := s) (n := n) h)
      have HPR := Lib.hid (clL_pre (s := s) (n := n + 1) (by omega))
      generalize clF s n = lf at *
      obtain ⟨L, f⟩ := lf
      simp only at hle HG HNW HJn
      have p1 : (0 : Int) ≤ (f : Int) := by omega
      have p2 : (f : Int) ≤ (n : Int) + 1 := by omega
      have p3 : (n : Int) + 1 ≤ (s.length : Int) := by omega
      by_cases hn1 : n + 1 < s.length
      · have p4 : (n : Int) + 1 < (s.length : Int) := by omega
        have p5 : (0 : Int) ≤ (n : Int) + 1 := by omega
        have HK := Lib.hid (kindAt s (n + 1) hn1)
        have HRT := Lib.hid (fun W => rightP s f (n + 1) W (by omega) (by omega))
        by_cases h2 : wkAt s (n + 1) = 2
        · rw [h2] at HK
          by_cases h1 : wkAt s f = 1
          · rw [decide_eq_true h1] at HRT
            have HN := Lib.hid (HG.out (by simp [contB, hn1, h2, h1]))
            clear h1 h2 HG HNW
            gi_wp2_with (fail)
            refine (callsIn_wide.2 (HK.out _)).mono ?_
            rintro e w1 ⟨rfl, rfl⟩
            gi_wp2_with (fail)
            refine (callsIn_wide.2 (HRT.out _)).mono ?_
            rintro e w1 ⟨rfl, rfl⟩
            gi_wp2_with (fail)
            go_roundw
            case rel => exact ⟨n + 1, by omega, by simp, by rw [HN.out], by rw [HN.out]; exact HJn.out, HNk.out⟩
            case measure => simp [intOf]; omega
          · rw [decide_eq_false h1] at HRT
            have hcb : contB s f (n + 1) = false := by simp [contB, h1]
            clear h1 h2
            have HN := Lib.hid (HNW.out hcb)
            clear hcb HG HNW
            gi_wp2_with (fail)
            refine (callsIn_wide.2 (HK.out _)).mono ?_
            rintro e w1 ⟨rfl, rfl⟩
            gi_wp2_with (fail)
            refine (callsIn_wide.2 (HRT.out _)).mono ?_
            rintro e w1 ⟨rfl, rfl⟩
            gi_wp2_with (fail)
            obtain ⟨fn, tmps, assign, body, hy, hR⟩ := HY.out L (f, (s.drop f).take (n + 1 - f)) (wr) HJn.out (by
              have := HPR.out.length_le
              rw [HN.out, List.length_append, List.length_singleton] at this
              omega) (by
              have := HPR.out
              rw [HN.out] at this
              exact this.subset (by simp))
            gi_wp2_with (refine hR.mono ?_; rintro en W5 ⟨ans, rfl, hans⟩)
            all_goals clear hy hR
            all_goals have HANS := Lib.hid hans
            all_goals clear hans
            all_goals rcases HANS.out with ⟨rfl, hJ3, hk3⟩ | ⟨rfl, hJx3⟩
            all_goals clear HANS
            all_goals first
              | (exfalso; simp_all; done)
              | exact ⟨⟨n + 1, by omega, by simp, by rw [HN.out]; simp, by rw [HN.out]; exact hJ3, HNk.out.trans hk3⟩, by simp [intOf]; omega⟩
              | exact bodyPost_ret (results_none rfl _ _ _) rfl ⟨⟨_, rfl⟩, .inr ⟨_, by have := HPR.out; rw [HN.out] at this; exact this, hJx3⟩⟩
        · have e2 : (wkAt s (n + 1) == 2) = false := by rw [beq_eq_false_iff_ne]; exact h2
          have hcb : contB s f (n + 1) = false := by simp [contB, h2]
          generalize wkAt s (n + 1) = kc at *
          clear h2
          have HN := Lib.hid (HNW.out hcb)
          clear hcb HG HNW
          gi_wp2_with (fail)
          refine (callsIn_wide.2 (HK.out _)).mono ?_
          rintro e w1 ⟨rfl, rfl⟩
          gi_wp2_with (fail)
          obtain ⟨fn, tmps, assign, body, hy, hR⟩ := HY.out L (f, (s.drop f).take (n + 1 - f)) (wr) HJn.out (by
            have := HPR.out.length_le
            rw [HN.out, List.length_append, List.length_singleton] at this
            omega) (by
            have := HPR.out
            rw [HN.out] at this
            exact this.subset (by simp))
          gi_wp2_with (refine hR.mono ?_; rintro en W5 ⟨ans, rfl, hans⟩)
          all_goals clear hy hR
          all_goals have HANS := Lib.hid hans
          all_goals clear hans
          all_goals rcases HANS.out with ⟨rfl, hJ3, hk3⟩ | ⟨rfl, hJx3⟩
          all_goals clear HANS
          all_goals first
            | (exfalso; simp_all; done)
            | exact ⟨⟨n + 1, by omega, by simp, by rw [HN.out]; simp, by rw [HN.out]; exact hJ3, HNk.out.trans hk3⟩, by simp [intOf]; omega⟩
            | exact bodyPost_ret (results_none rfl _ _ _) rfl ⟨⟨_, rfl⟩, .inr ⟨_, by have := HPR.out; rw [HN.out] at this; exact this, hJx3⟩⟩
      · have hcb : contB s f (n + 1) = false := by simp [contB, hn1]
        have d1 : decide ((n : Int) + 1 < (s.length : Int)) = false := by simp; omega
        have d2 : decide (n + 1 < s.length) = false := by simp; omega
        have HN := Lib.hid (HNW.out hcb)
        clear hcb HG HNW
        gi_wp2_with (fail)
        obtain ⟨fn, tmps, assign, body, hy, hR⟩ := HY.out L (f, (s.drop f).take (n + 1 - f)) (wr) HJn.out (by
          have := HPR.out.length_le
          rw [HN.out, List.length_append, List.length_singleton] at this
          omega) (by
          have := HPR.out
          rw [HN.out] at this
          exact this.subset (by simp))
        gi_wp2_with (refine hR.mono ?_; rintro en W5 ⟨ans, rfl, hans⟩)
        all_goals clear hy hR
        all_goals have HANS := Lib.hid hans
        all_goals clear hans
        all_goals rcases HANS.out with ⟨rfl, hJ3, hk3⟩ | ⟨rfl, hJx3⟩
        all_goals clear HANS
        all_goals first
          | (exfalso; simp_all; done)
          | exact ⟨⟨n + 1, by omega, by simp, by rw [HN.out]; simp, by rw [HN.out]; exact hJ3, HNk.out.trans hk3⟩, by simp [intOf]; omega⟩
          | exact bodyPost_ret (results_none rfl _ _ _) rfl ⟨⟨_, rfl⟩, .inr ⟨_, by have := HPR.out; rw [HN.out] at this; exact this, hJx3⟩⟩
    · obtain rfl : n = s.length := by omega
      have HZ := Lib.hid (show (clF s s.length).1 = clL s from rfl)
      gi_wp2_with (fail)
      go_end0
      exact ⟨⟨_, rfl⟩, .inl ⟨_, rfl, by rw [← HZ.out]; exact HJn.out⟩⟩
end Go.Proofs.YtngdmpkoedpgdaaGreatDoor

/-
  Why a string is not accepted.
-/

namespace Go.Proofs.YtngdmpkoedpgdaaGreatDoor
open Go.RowKit Go.Ap Go.Shelf Go.Proofs

attribute [local go_sem] Oper.semAt_some bs_toList empty_toList bs_size bs_extract

theorem clusters (s : ByteArray) (w : World) :
    Calls Tryz.prog 166 #[.string s] w fun e w' => e = .returned (.func (.func 207) #[] #[.pointer (some ⟨w.heap.size, 0, none⟩)]) ∧
      w' = w.alloc (.cells #[.string s] 9) := by
  go_enter Tryz.func166, Tryz.ntmps166
  go_wp2
  go_ret
  exact ⟨rfl, rfl⟩

/-- the iterator value: the clusters, in order, each with the proof that it is one -/
theorem clusters_stopsP (s : Str) (w w0 : World) (hs : s.length ≤ 4611686018427387903) (Bw : Nat) (_hb0 : Below w0.heap.size w0 w)
    (hw : w.cell? ⟨Bw, 0, none⟩ = some (.string (bs s))) (m : Nat) (hm : 1 ≤ m) :
    SeqStopsK Fence.wide m Tryz.prog 207 #[.pointer (some ⟨Bw, 0, none⟩)] (fun x : {x : Clu // x ∈ clL s} => #[Value.int .i64 x.1.1, Value.string (bs x.1.2)]) (KeepR w0.heap.size Bw Bw) (fun ys => ys.map (·.1) = clL s) (fun pre => pre.map (·.1) <+: clL s) (clL s).length w :=
  fun l J Jx W hW _ _ hY h0 => by
    have hres := clusters_it Fence.wide rfl m hm l Bw w0.heap.size s (fun pre W => ∃ pre' : List {x : Clu // x ∈ clL s}, pre'.map (·.1) = pre ∧ J pre' W) (fun pre W => ∃ pre' : List {x : Clu // x ∈ clL s}, pre'.map (·.1) = pre ∧ Jx pre' W) hs
      (fun pre x W h1 h2 h3 => by
        obtain ⟨pre', rfl, hJ1⟩ := h1
        refine (hY pre' ⟨x, h3⟩ W hJ1 (by simpa using h2)).mono fun en W' h => ?_
        rcases h with ⟨e1, e2, e3⟩ | ⟨e1, e2⟩
        · exact .inl ⟨e1, ⟨_, by simp, e2⟩, e3⟩
        · exact .inr ⟨e1, ⟨_, by simp, e2⟩⟩) W (cell_keep hW hw) ⟨[], rfl, h0⟩
    refine hres.mono fun en W' h => ⟨h.1, ?_⟩
    rcases h.2 with ⟨zs, hz, p, hp, hJ1⟩ | ⟨pre, hpre, p, hp, hJ1⟩
    · exact .inl ⟨p, hp.trans hz, hJ1⟩
    · exact .inr ⟨p, by rw [← hp] at hpre; exact hpre, hJ1⟩

theorem check_ok {s : Str} {ys : List {x : Clu // x ∈ clL s}} (h : ys.map (·.1) = clL s) (h2 : ∀ y ∈ ys, okC y.1 = true) : marksB false s = true := by
  rw [← clL_marks, List.all_eq_true, ← h]
  intro x hx
  obtain ⟨y, hy, rfl⟩ := List.mem_map.1 hx
  exact h2 y hy
theorem check_no {s : Str} (y : {x : Clu // x ∈ clL s}) (h2 : okC y.1 = false) : marksB false s = false := by
  rw [← clL_marks]
  cases h : (clL s).all okC
  · rfl
  · rw [List.all_eq_true.1 h _ y.2] at h2
    cases h2

set_option maxRecDepth 100000 in
set_option maxHeartbeats 2000000 in
theorem chkC (s : Str) (w : World) (hs : s.length ≤ 4611686018427387903) :
    CallsIn Fence.wide 10 Tryz.prog 121 #[.string (bs s)] w fun e W' => e = .returned (.int .i64 (chkS s)) ∧ Below w.heap.size w W' := by
  have hFc : Fence.wide.fn 166 := trivial
  have hFk : Fence.wide.fn 122 := trivial
  have eg : ∀ args w, (callFunc 207 args).run Tryz.prog w = .ok (.enter 207 args) w := enters_of Tryz.func207 (by kernel_rfl) rfl
  refine callsIn_of_wp_marks Tryz.func121 rfl trivial ?_ rfl
  simp only [Tryz.ntmps121, List.size_toArray, List.length_cons, List.length_nil, Nat.reduceAdd, Nat.reduceSub, Array.replicate_succ, Array.replicate_zero, List.push_toArray, List.append_toArray, List.nil_append, List.cons_append]
  by_cases hl : 65536 < s.length
  · have h1 : chkS s = 4 := by rw [chkS, if_pos hl]
    have h2 : decide ((65536 : Int) < (s.length : Int)) = true := by simp; omega
    rw [h1]
    clear h1 hl
    gi_wp2_with (fail)
    have e1 := box_cell w (.int .i64 4) 28
    refine ⟨.int .i64 4, ?_, rfl, balloc _ _⟩
    simp [results, Tryz.f121, go_sem, e1]
  · have h1 : chkS s = if marksB false s = true then 0 else 11 := by rw [chkS, if_neg hl]
    have h2 : decide ((65536 : Int) < (s.length : Int)) = false := by simp; omega
    obtain ⟨r, hr⟩ : ∃ r, chkS s = r := ⟨_, rfl⟩
    have HR := Lib.hid (hr.symm.trans h1)
    rw [hr]
    clear h1 hl hr
    gi_wp2_with (fail)
    refine (callsIn_wide.2 (clusters _ _)).mono ?_
    rintro e w' ⟨rfl, hw'⟩
    simp only [World.size_alloc] at hw' ⊢
    have b1 : Boxed w' w.heap.size 28 (.int .i64 0) := by rw [hw']; exact ((Boxed.new w _ _).alloc _)
    have hB : Below w.heap.size w w' := by rw [hw']; exact (((Below.refl _ w).alloc (Nat.le_refl _) _).alloc (by simp) _)
    have hsz : w'.heap.size = w.heap.size + 2 := by rw [hw']; simp
    have cw : w'.cell? ⟨w.heap.size + 1, 0, none⟩ = some (.string (bs s)) := by rw [hw']; exact cell_fresh (by simp) rfl
    have HS := Lib.hid (fun m hm => clusters_stopsP s w' w hs (w.heap.size + 1) hB cw m hm)
    clear hw' cw
    gi_wp2_with (fail)
    refine wpIn_rangeFunc_ownG (F := Fence.wide) rfl (by omega) (gf := 207) rfl trivial eg
      (HS.out _ (by omega)) KeepR.trans (keepR_b (w := w') (by omega) (by omega) (by omega)) (Below.refl _ _) (fun _ => rfl)
      (fun (pre : List {x : Clu // x ∈ clL s}) W => ((∀ y ∈ pre, okC y.1 = true) ∧ Boxed W w.heap.size 28 (.int .i64 0)) ∧ Below w.heap.size w W)
      (fun c (_ : List {x : Clu // x ∈ clL s}) W => ((c = .ret ∧ marksB false s = false) ∧ Boxed W w.heap.size 28 (.int .i64 11)) ∧ Below w.heap.size w W)
      (OwnFrom.and (fun _ _ _ _ hs hg hr => ⟨hs.1, boxed_k hs.2 hg hr⟩) (ownFrom_below (Nat.le_refl _) (by omega)))
      (fun _ => OwnFrom.and (fun _ _ _ _ hs hg hr => ⟨hs.1, boxed_k hs.2 hg hr⟩) (ownFrom_below (Nat.le_refl _) (by omega)))
      ⟨⟨(fun _ h => by cases h), b1⟩, hB⟩
      (fun x => { tmps := #[.string (bs s), undef, .pointer (some ⟨w.heap.size, 0, none⟩), undef, .string (bs x.1.2), undef, .string (bs s), .int .i64 s.length, .bool false, .string (bs s), .func (.func 207) #[] #[.pointer (some ⟨w.heap.size + 1, 0, none⟩)], .int .i64 x.1.1, .string (bs x.1.2), undef, undef, undef, undef, undef, undef, undef, undef, undef], defers := [] }) ?assign ?body ?done ?stop
    case assign =>
      intro l x W K hK
      gi_wp2
      exact hK
    case body =>
      rintro l pre ⟨⟨f, x⟩, hx⟩ W ⟨⟨hp, h1⟩, hb⟩ _
      have HX := Lib.hid hx
      have hx2 := clF_mem (Nat.le_refl _) _ hx
      have HP := Lib.hid hp
      have c1 := h1.cell
      have f1 := h1.frozen
      have B1 := Lib.hid h1
      clear h1 hp
      cases x with
      | nil => exact absurd hx2.2.1 (by simp)
      | cons c t =>
        clear hx2
        have HK := Lib.hid (fun w => kindPc c w)
        have HO := Lib.hid (show okC (f, c :: t) = (decide (wk c ≠ 0) && decide (wk c ≠ 2)) from rfl)
        by_cases h0 : wk c = 0
        · rw [h0] at HK
          have HN := Lib.hid (check_no ⟨(f, c :: t), hx⟩ (by rw [HO.out, h0]; rfl))
          clear h0
          gi_wp2_with (fail)
          refine CallsIn.inRound l ((callsIn_wide.2 (HK.out _)).mono ?_)
          rintro e w1 ⟨rfl, rfl⟩
          gi_wp2_with (fail)
          exact ⟨(KeepsOthers.setCell _ _ _).from _, ⟨⟨rfl, HN.out⟩, B1.out.set _⟩, hb.setCell (p := ⟨w.heap.size, 0, none⟩) (by simp) _⟩
        · by_cases h2 : wk c = 2
          · rw [h2] at HK
            have HN := Lib.hid (check_no ⟨(f, c :: t), hx⟩ (by rw [HO.out, h2]; rfl))
            clear h2 h0
            gi_wp2_with (fail)
            refine CallsIn.inRound l ((callsIn_wide.2 (HK.out _)).mono ?_)
            rintro e w1 ⟨rfl, rfl⟩
            gi_wp2_with (fail)
            exact ⟨(KeepsOthers.setCell _ _ _).from _, ⟨⟨rfl, HN.out⟩, B1.out.set _⟩, hb.setCell (p := ⟨w.heap.size, 0, none⟩) (by simp) _⟩
          · have HT := Lib.hid (show okC (f, c :: t) = true by rw [HO.out]; simp [h0, h2])
            have e0 : (wk c == 0) = false := by rw [beq_eq_false_iff_ne]; exact h0
            have e2 : (wk c == 2) = false := by rw [beq_eq_false_iff_ne]; exact h2
            clear HO
            generalize wk c = kc at *
            clear h2 h0
            gi_wp2_with (fail)
            refine CallsIn.inRound l ((callsIn_wide.2 (HK.out _)).mono ?_)
            rintro e w1 ⟨rfl, rfl⟩
            gi_wp2_with (fail)
            exact ⟨KeepsFrom.refl _ _, KeepR.refl _ _ _ _, ⟨List.forall_mem_append.2 ⟨HP.out, List.forall_mem_singleton.2 HT.out⟩, B1.out⟩, hb⟩
    case done =>
      rintro D ys W hD hn ⟨⟨hp, h1⟩, hb⟩ hK
      have HN := Lib.hid hn
      have HP := Lib.hid hp
      have c1 := h1.cell
      have f1 := h1.frozen
      have B1 := Lib.hid h1
      clear h1 hn hp
      gi_wp2_with (fail)
      have hK' := (KeepsOthers.setCell W ⟨w.heap.size, 0, none⟩ (.int .i64 0)).same D _ hK rfl
      refine ⟨by simp, .inl ⟨_, _, rfl, run_takeDeferred hK', ?_⟩⟩
      have e1 := ((B1.out.set (.int .i64 0)).kept (grownBy_putObj' _ D (.deferred none)) (by simp; omega)).cell
      refine ⟨.int .i64 0, ?_, ?_, (hb.setCell (p := ⟨w.heap.size, 0, none⟩) (by simp) _).trans (belowK_b (w := w) (Nat.le_refl _) _ D _ _ (by omega) hK' rfl rfl)⟩
      · simp [results, Tryz.f121, go_sem, e1]
      · rw [HR.out, if_pos (check_ok HN.out HP.out)]
    case stop =>
      rintro D c pre W hD hpre ⟨⟨⟨rfl, hm⟩, h1⟩, hb⟩ hK
      have HM := Lib.hid hm
      have B1 := Lib.hid h1
      clear h1 hpre hm
      gi_wp2_with (fail)
      refine ⟨by simp, .inl ⟨_, _, rfl, run_takeDeferred hK, ?_⟩⟩
      have e1 := (B1.out.kept (grownBy_putObj' _ D (.deferred none)) (by simp; omega)).cell
      refine ⟨.int .i64 11, ?_, ?_, hb.trans (belowK_b (w := w) (Nat.le_refl _) W D _ _ (by omega) hK rfl rfl)⟩
      · simp [results, Tryz.f121, go_sem, e1]
      · rw [HR.out, if_neg (by rw [HM.out]; exact Bool.false_ne_true)]
/-- the same, as a plain contract -/
theorem chkP (s : Str) (w : World) (hs : s.length ≤ 4611686018427387903) :
    Calls Tryz.prog 121 #[.string (bs s)] w fun e W' => e = .returned (.int .i64 (chkS s)) ∧ Below w.heap.size w W' := callsIn_wide.1 (chkC s w hs)
end Go.Proofs.YtngdmpkoedpgdaaGreatDoor

/-
  What is a word.
-/


namespace Go.Proofs.YtngdmpkoedpgdaaGreatDoor
open Go.RowKit Go.Ap Go.Shelf Go.Proofs

attribute [local go_sem] Oper.semAt_some bs_toList empty_toList bs_size bs_extract

def ByteR (_ : World) (v : Value) (x : UInt8) : Prop := v = .int .u8 (x.toNat : Int)
set_option maxHeartbeats 400000 in
theorem idxBytes {α : Type} {R : World → Value → α → Prop} (p : α → Bool) (a : Option Addr) (n c : Nat) (xs : List α) (g : Nat) (cap : Array Value) (w : World) (h : Sl R w a n xs)
    (eg : ∀ args w, (callFunc g args).run Tryz.prog w = .ok (.enter g args) w)
    (hp : ∀ x v, x ∈ xs → R w v x → Calls Tryz.prog g (#[v] ++ cap) w fun e w' => e = .returned (.bool (p x)) ∧ w = w') :
    Calls Tryz.prog 98 #[.slice a n c, .func (.func g) #[] cap] w fun e w' => e = .returned (.int .i64 (idxF p xs)) ∧ w = w' := by
  have hlen := h.len
  have hsm := h.small
  have HL := Lib.hid hlen
  have HP := Lib.hid hp
  clear hlen hp
  go_enter Tryz.func98, Tryz.ntmps98
  go_wp2_with (fail)
  go_loopw [8] (fun i wr => ∃ k : Nat, k ≤ n ∧ i = .int .i64 k ∧ w = wr ∧ idxG (pAt p xs) (n - k) k = idxF p xs) (fun i _ => n - (intOf i).toNat)
  case atStart => exact ⟨0, by omega, rfl, rfl, by unfold idxF; rw [HL.out]; rfl⟩
  case round =>
    obtain ⟨k, hk, rfl, rfl, hch⟩ := hrel
    have HC := Lib.hid hch
    clear hch
    by_cases hlt : k < n
    · obtain ⟨x, b, off, v, hx, rfl, hc, hr⟩ := h.at hlt
      obtain ⟨f, hf⟩ : ∃ f, n - k = f + 1 := ⟨n - k - 1, by omega⟩
      have HF := Lib.hid hf
      have hpa : pAt p xs k = p x := by simp [pAt, hx]
      have HPA := Lib.hid hpa
      have HX := Lib.hid (List.mem_of_getElem? hx)
      clear hf hx hpa
      go_wp2_with (fail)
      refine (HP.out x v HX.out hr).mono ?_
      rintro e w' ⟨rfl, rfl⟩
      cases hpx : p x
      all_goals
        have HPX := Lib.hid hpx
        clear hpx
        go_wp2_with (fail)
      · exact ⟨⟨k + 1, by omega, by go_num, trivial, by rw [← HC.out, HF.out, idxG_no (HPA.out.trans HPX.out), show n - (k + 1) = f by have := HF.out; omega]⟩, by simp [intOf]; omega⟩
      · go_ret
        exact ⟨ret_i (by rw [← HC.out, HF.out, idxG_yes (HPA.out.trans HPX.out)]), rfl⟩
    · go_wp2_with (fail)
      go_ret
      exact ⟨ret_i (by rw [← HC.out, show n - k = 0 by omega, idxG]), rfl⟩
set_option maxHeartbeats 400000 in
theorem contBytes {α : Type} {R : World → Value → α → Prop} (p : α → Bool) (a : Option Addr) (n c : Nat) (xs : List α) (g : Nat) (cap : Array Value) (w : World) (h : Sl R w a n xs)
    (eg : ∀ args w, (callFunc g args).run Tryz.prog w = .ok (.enter g args) w)
    (hp : ∀ x v, x ∈ xs → R w v x → Calls Tryz.prog g (#[v] ++ cap) w fun e w' => e = .returned (.bool (p x)) ∧ w = w') :
    Calls Tryz.prog 35 #[.slice a n c, .func (.func g) #[] cap] w fun e w' => e = .returned (.bool (xs.any p)) ∧ w = w' := by
  have H := Lib.hid (idxBytes p a n c xs g cap w h eg hp)
  clear hp eg
  go_enter Tryz.func35, Tryz.ntmps35
  go_wp2_with (fail)
  refine (H.out).mono ?_
  rintro e w' ⟨rfl, rfl⟩
  go_wp2_with (fail)
  go_ret
  exact ⟨ret_b (idxF_any p xs), rfl⟩
theorem bytes_sl (w : World) (e : TypeId) (s : Str) (hs : s.length ≤ 4611686018427387903) : Sl ByteR (Lib.bytesWorld w e (bs s)) (some ⟨w.heap.size, 0, none⟩) s.length s := by
  refine ⟨rfl, hs, fun k x hx => ⟨w.heap.size, 0, .int .u8 (x.toNat : Int), rfl, ?_, rfl⟩⟩
  obtain ⟨hk, rfl⟩ := List.getElem?_eq_some_iff.1 hx
  rw [Nat.zero_add, Lib.bytesWorld_cell w e (bs s) k (by rw [bs_size]; exact hk), bs_list]
  simp [List.getD, hk]
theorem bytes_below (w : World) (e : TypeId) (s : ByteArray) : Below w.heap.size w (Lib.bytesWorld w e s) :=
  ⟨rfl, rfl, rfl, by rw [Lib.bytesWorld_size]; omega, fun k hk => Lib.bytesWorld_at_old w e s k hk⟩
theorem any_psp (s : Str) : s.any pspB = !(s.all fun c => decide (wk c ≤ 4)) := by
  rw [List.any_eq_not_all_not]
  congr 2
  funext c
  rcases wk_seven c with h | h | h | h | h | h | h <;> simp [pspB, h]

set_option maxHeartbeats 2000000 in
theorem isWordP (s : Str) (w : World) (hs : s.length ≤ 4611686018427387903) :
    Calls Tryz.prog 64 #[.string (bs s)] w fun e W' => e = .returned (.bool (isWordB s)) ∧ Below w.heap.size w W' := by
  have H8 := Lib.hid (fun a n c xs w (h : Sl ByteR w a n xs) => contBytes pspB a n c xs 123 #[] w h (enters_of Tryz.func123 (by kernel_rfl) rfl) (fun x v _ hr => by rw [hr]; exact isword1 x w))
  have HC := Lib.hid (chkP s w hs)
  cases s with
  | nil =>
    go_enter Tryz.func64, Tryz.ntmps64
    go_wp2_with (fail)
    go_ret
    exact ⟨rfl, Below.refl _ _⟩
  | cons c t =>
    have HE := Lib.hid (show isWordB (c :: t) = (decide ((c :: t).length ≤ 64) && marksB false (c :: t) && letB c && ((c :: t).all fun c => decide (wk c ≤ 4))) by simp [isWordB])
    have HA := Lib.hid (any_psp (c :: t))
    have HK := Lib.hid (fun w => kindPc c w)
    have HL := Lib.hid (show letB c = letBK (wk c) from rfl)
    have HS := Lib.hid (wk_seven c)
    have HY := Lib.hid (fun w => bytes_sl w 5 (c :: t) hs)
    have HB := Lib.hid (fun w => bytes_below w 5 (bs (c :: t)))
    have kc := fun (w : World) => Lib.run_convert_string_bytes (P := Tryz.prog) w 9 23 5 (bs (c :: t)) Tryz.underlying9 Tryz.underlying23 Tryz.underlying5
    by_cases hl : (c :: t).length ≤ 64
    · have d1 : decide ((64 : Int) < (t.length : Int) + 1) = false := by simp at hl ⊢; omega
      have h1 : chkS (c :: t) = if marksB false (c :: t) = true then 0 else 11 := by rw [chkS, if_neg (by omega)]
      have HD := Lib.hid (show decide ((c :: t).length ≤ 64) = true by simpa using hl)
      rw [h1] at HC
      clear h1 hl
      cases hm : marksB false (c :: t)
      · rw [hm] at HC
        have HM := Lib.hid hm
        clear hm
        go_enter Tryz.func64, Tryz.ntmps64
        go_wp2_with (fail)
        refine HC.out.mono ?_
        rintro e w1 ⟨rfl, hb⟩
        go_wp2_with (fail)
        go_ret
        exact ⟨ret_b (by rw [HE.out, HM.out]; simp), hb⟩
      · rw [hm] at HC
        have HM := Lib.hid hm
        clear hm
        rcases HS.out with h | h | h | h | h | h | h
        all_goals rw [h] at HK HL
        all_goals clear h HS
        all_goals go_enter Tryz.func64, Tryz.ntmps64
        all_goals go_wp2_with (fail)
        all_goals refine HC.out.mono ?_
        all_goals rintro e w1 ⟨rfl, hb⟩
        all_goals go_wp2_with (fail)
        all_goals refine (HK.out _).mono ?_
        all_goals rintro e w2 ⟨rfl, rfl⟩
        all_goals go_wp2_with (fail)
        all_goals first
          | (go_ret; exact ⟨ret_b (by rw [HE.out, HL.out]; simp [letBK]), hb⟩)
          | (refine (H8.out _ _ _ (c :: t) _ (HY.out _)).mono ?_
             rintro e w3 ⟨rfl, rfl⟩
             go_wp2_with (fail)
             go_ret
             exact ⟨ret_b (by have hA := HA.out; rw [List.any_cons] at hA; rw [HE.out, HD.out, HM.out, HL.out, ← Bool.not_or, hA, Bool.not_not]; simp [letBK]), bstep hb (HB.out _)⟩)
    · have d1 : decide ((64 : Int) < (t.length : Int) + 1) = true := by simp at hl ⊢; omega
      have HD := Lib.hid (show decide ((c :: t).length ≤ 64) = false by simpa using hl)
      clear hl
      go_enter Tryz.func64, Tryz.ntmps64
      go_wp2_with (fail)
      go_ret
      exact ⟨ret_b (by rw [HE.out, HD.out]; rfl), Below.refl _ _⟩
end Go.Proofs.YtngdmpkoedpgdaaGreatDoor

/-
  What is a gap.
-/



namespace Go.Proofs.YtngdmpkoedpgdaaGreatDoor
open Go.RowKit Go.Ap Go.Shelf Go.Proofs

attribute [local go_sem] Oper.semAt_some bs_toList empty_toList bs_size bs_extract

/-- the two error values that the library lays -/
def EV (w : World) : Prop := (∃ tp p, w.var? Tryz.prog "strconv.ErrSyntax" = some #[.iface tp p]) ∧ ∃ tp p, w.var? Tryz.prog "strconv.ErrRange" = some #[.iface tp p]
theorem var_below {P : Program} {w w' : World} {n : String} {cs : Array Value} {B : Nat} (hB : w.heap.size ≤ B) (hb : Below B w w') (h : w.var? P n = some cs) : w'.var? P n = some cs := by
  unfold World.var? at h ⊢
  cases hg : P.globalNamed n with
  | none => simp [hg] at h
  | some g =>
    simp only [hg, Option.bind_some] at h ⊢
    have hlt : g < w.heap.size := by
      rcases Nat.lt_or_ge g w.heap.size with h' | h'
      · exact h'
      · simp [Array.getElem?_eq_none h'] at h
    rw [hb.block g (Nat.lt_of_lt_of_le hlt hB)]
    exact h
theorem EV.mono {w w' : World} {B : Nat} (h : EV w) (hB : w.heap.size ≤ B) (hb : Below B w w') : EV w' := by
  obtain ⟨⟨t1, p1, h1⟩, t2, p2, h2⟩ := h
  exact ⟨⟨t1, p1, var_below hB hb h1⟩, t2, p2, var_below hB hb h2⟩

/-- strconv.Atoi at a string that spells no int: an error -/
theorem atoi_bad (s : Str) (w : World) (hs : s.length ≤ 281474976710656) (hv : EV w) (h : ∀ v, Lib.atoiAll s ≠ .ok v) :
    Calls Tryz.prog 108 #[.string (bs s)] w fun e w' => ∃ v t p, e = .returned (.tuple #[.int .i64 v, .iface t p]) ∧ Below w.heap.size w w' := by
  obtain ⟨⟨t1, p1, h1⟩, t2, p2, h2⟩ := hv
  rcases hr : Lib.atoiAll s with v | _ | _
  · exact absurd hr (h v)
  · refine (Tryz.strconv_Atoi_syntax_var (bs s) (by rw [bs_size]; exact hs) (by rw [bs_list]; exact hr) t1 p1 w h1).mono ?_
    rintro e w' ⟨N, rfl, _, _, hb⟩
    exact ⟨_, _, _, rfl, hb⟩
  · refine (Tryz.strconv_Atoi_range_var (bs s) (by rw [bs_size]; exact hs) (by rw [bs_list]; exact hr) t2 p2 w h2).mono ?_
    rintro e w' ⟨N, rfl, _, _, hb⟩
    exact ⟨_, _, _, rfl, hb⟩
theorem atoi_good (s : Str) (w : World) (hs : s.length ≤ 281474976710656) (v : Int) (h : Lib.atoiAll s = .ok v) :
    Calls Tryz.prog 108 #[.string (bs s)] w fun e w' => e = .returned (.tuple #[.int .i64 v, .nilIface]) ∧ Below w.heap.size w w' := by
  refine (Tryz.strconv_Atoi_ok (bs s) (by rw [bs_size]; omega) v (by rw [bs_list]; exact h) w).mono ?_
  rintro e w' ⟨rfl, hw⟩
  refine ⟨rfl, ?_⟩
  rcases hw with rfl | ⟨t, rfl⟩
  · exact Below.refl _ _
  · exact bytes_below _ _ _
theorem itoaP (n : Nat) (hn : n ≤ 64) (w : World) : Calls Tryz.prog 163 #[.int .i64 (n : Int)] w fun e w' => e = .returned (.string (bs (dig2 n))) ∧ w = w' := by
  refine (Tryz.strconv_Itoa_small n (by omega) w).mono ?_
  rintro e w' ⟨rfl, rfl⟩
  rw [dec_dig n (by omega)]
  exact ⟨rfl, rfl⟩
theorem gap_cat (n : Nat) : (({ data := #[91] } : ByteArray) ++ bs (dig2 n) ++ { data := #[93] }).toList = gapS n := by
  have h1 : ({ data := #[91] } : ByteArray) = bs [91] := rfl
  have h2 : ({ data := #[93] } : ByteArray) = bs [93] := rfl
  rw [h1, h2, bs_append, bs_append, bs_toList]
  rfl

set_option maxHeartbeats 2000000 in
theorem gapP (s : Str) (w : World) (hs : s.length ≤ 281474976710656) (hv : EV w) :
    Calls Tryz.prog 234 #[.string (bs s)] w fun e W' => e = .returned (.bool (gapB s)) ∧ Below w.heap.size w W' := by
  have HV := Lib.hid hv
  clear hv
  by_cases h3 : s.length < 3
  · have d1 : decide ((s.length : Int) < 3) = true := by simp; omega
    have HR := Lib.hid (gap_short h3)
    clear h3
    go_enter Tryz.func234, Tryz.ntmps234
    go_wp2_with (fail)
    go_ret
    exact ⟨ret_b HR.out.symm, Below.refl _ _⟩
  · have d1 : decide ((s.length : Int) < 3) = false := by simp; omega
    have p0 : 0 < s.length := by omega
    have p1 : s.length - 1 < s.length := by omega
    have p2 : 3 ≤ s.length := by omega
    have p3 : (1 : Int) ≤ (s.length : Int) - 1 := by omega
    have i0 : 0 < (bs s).size := by rw [bs_size]; exact p0
    have i1 : s.length - 1 < (bs s).size := by rw [bs_size]; exact p1
    by_cases hf : s[0] = 91
    · have e0 : ((((bs s)[0]'i0).toNat : Int) != 91) = false := by have h : (bs s)[0]'i0 = 91 := hf; rw [h]; rfl
      by_cases hl : s[s.length - 1] = 93
      · have e1 : ((((bs s)[s.length - 1]'i1).toNat : Int) != 93) = false := by have h : (bs s)[s.length - 1]'i1 = 93 := hl; rw [h]; rfl
        clear hf hl h3
        have hgi : gapIn s = List.take (s.length - 1 - 1) s.tail := by rw [gapIn, List.drop_one]
        have hml : (List.take (s.length - 1 - 1) s.tail).length ≤ 281474976710656 := by simp; omega
        by_cases hok : ∃ v, Lib.atoiAll (gapIn s) = .ok v
        · obtain ⟨v, hok⟩ := hok
          have HR := Lib.hid (gap_ok hok)
          rw [hgi] at hok
          have HA := Lib.hid (atoi_good _ w hml v hok)
          clear hok hgi
          by_cases h1 : 1 ≤ v
          · have d2 : decide ((1 : Int) ≤ v) = true := by simpa using h1
            by_cases h2 : v ≤ 64
            · have d3 : decide (v ≤ (64 : Int)) = true := by simpa using h2
              obtain ⟨n, rfl⟩ : ∃ n : Nat, v = n := ⟨v.toNat, by omega⟩
              have HI := Lib.hid (itoaP n (by omega))
              have HE := Lib.hid (gap_cat n)
              have hdl := dig_len n
              have g1 : ¬ 9223372036854775807 < 1 + (dig2 n).length := by omega
              have g2 : ¬ 9223372036854775807 < 1 + (dig2 n).length + 1 := by omega
              go_enter Tryz.func234, Tryz.ntmps234
              go_wp2_with (fail)
              refine HA.out.mono ?_
              rintro e w1 ⟨rfl, hb⟩
              go_wp2_with (fail)
              refine (HI.out _).mono ?_
              rintro e w2 ⟨rfl, rfl⟩
              go_wp2_with (fail)
              go_ret
              exact ⟨ret_b (by rw [HE.out, HR.out, d2, d3, Int.toNat_natCast]; rw [Bool.eq_iff_iff]; simp), hb⟩
            · have d3 : decide (v ≤ (64 : Int)) = false := by simpa using h2
              go_enter Tryz.func234, Tryz.ntmps234
              go_wp2_with (fail)
              refine HA.out.mono ?_
              rintro e w1 ⟨rfl, hb⟩
              go_wp2_with (fail)
              go_ret
              exact ⟨ret_b (by rw [HR.out, d3]; simp), hb⟩
          · have d2 : decide ((1 : Int) ≤ v) = false := by simpa using h1
            go_enter Tryz.func234, Tryz.ntmps234
            go_wp2_with (fail)
            refine HA.out.mono ?_
            rintro e w1 ⟨rfl, hb⟩
            go_wp2_with (fail)
            go_ret
            exact ⟨ret_b (by rw [HR.out, d2]; simp), hb⟩
        · have hno : ∀ v, Lib.atoiAll (gapIn s) ≠ .ok v := fun v h => hok ⟨v, h⟩
          have HR := Lib.hid (gap_err hno)
          rw [hgi] at hno
          have HA := Lib.hid (atoi_bad _ w hml HV.out hno)
          clear hno hok hgi
          go_enter Tryz.func234, Tryz.ntmps234
          go_wp2_with (fail)
          refine HA.out.mono ?_
          rintro e w1 ⟨v, t, p, rfl, hb⟩
          go_wp2_with (fail)
          go_ret
          exact ⟨ret_b HR.out.symm, hb⟩
      · have HR := Lib.hid (gap_last p1 hl)
        have e1 : ((((bs s)[s.length - 1]'i1).toNat : Int) != 93) = true := by
          rw [bne_iff_ne]
          intro h
          have h' : ((bs s)[s.length - 1]'i1).toNat = 93 := by omega
          exact hl (UInt8.toNat_inj.1 h')
        clear hf hl h3
        go_enter Tryz.func234, Tryz.ntmps234
        go_wp2_with (fail)
        go_ret
        exact ⟨ret_b HR.out.symm, Below.refl _ _⟩
    · have HR := Lib.hid (gap_first p0 hf)
      have e0 : ((((bs s)[0]'i0).toNat : Int) != 91) = true := by
        rw [bne_iff_ne]
        intro h
        have h' : ((bs s)[0]'i0).toNat = 91 := by omega
        exact hf (UInt8.toNat_inj.1 h')
      clear hf h3
      go_enter Tryz.func234, Tryz.ntmps234
      go_wp2_with (fail)
      go_ret
      exact ⟨ret_b HR.out.symm, Below.refl _ _⟩
end Go.Proofs.YtngdmpkoedpgdaaGreatDoor
