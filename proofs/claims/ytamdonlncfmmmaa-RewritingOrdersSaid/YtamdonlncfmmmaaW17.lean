/-
  The critical pairs.
-/
import Derived.Test.YtamdonlncfmmmaaW16
import Derived.Test.YtamdonlncfmmmaaOwnT
namespace Go.Proofs.Ytamdonlncfmmmaa
open Go.RowKit Go.Ap Go.Shelf Go.Proofs

attribute [local go_sem] Oper.semAt_some bs_toList empty_toList bs_size ext_drop ext_take bs_append

theorem critical40 (a : Option Addr) (n c : Nat) (w : World) :
    Calls Try.prog 40 #[.slice a n c] w fun e w' => e = .returned (.func (.func 61) #[] #[.pointer (some ⟨w.heap.size, 0, none⟩)]) ∧
      w' = w.alloc (.cells #[.slice a n c] 22) := by
  go_enter Try.func40, Try.ntmps40
  go_wp2
  go_ret
  exact ⟨rfl, rfl⟩

theorem critical_stops (a : Option Addr) (n c : Nat) (rs : List Rule) (w w0 : World) (hx : Rls w0 a n rs) (Br : Nat) (hb0 : Below w0.heap.size w0 w)
    (hr : w.cell? ⟨Br, 0, none⟩ = some (.slice a n c)) (m : Nat) (hm : 1 ≤ m) :
    SeqStopsR Fence.wide m Try.prog 61 #[.pointer (some ⟨Br, 0, none⟩)] (fun x : Elt => #[eltV x]) (KeepC w0.heap.size Br) (RdE w0.heap.size) (fun ys => ys.map (·.2) = critL rs) (fun pre => pre.map (·.2) <+: critL rs) w :=
  fun l J Jx W hW hJ _ hY h0 =>
    critical61 Fence.wide rfl m hm l Br w0.heap.size n c a rs J Jx hY W w0 rfl (Nat.le_trans hb0.size hW.size) (Nat.lt_of_lt_of_le (World.block_lt_of_cell? w _ hr) hW.size)
      (hb0.trans (hW.mono hb0.size)) hx hJ (cell_keep hW hr) h0

theorem boxed_below {B : Nat} {t : TypeId} {v : Value} {X Y : World} (h : Boxed X B t v) (hb : Below X.heap.size X Y) : Boxed Y B t v := (hb.block _ h.lt).trans h

/-- what Critical gives: an error's number, and the pairs -/
def CrE (rs : List Rule) : Int × List Trip := if chkR rs = 0 then (if (critL rs).length ≤ 4096 then (0, critL rs) else (4, [])) else (1, [])

theorem keepC_b {e b : Nat} {w : World} (he : e ≤ w.heap.size) (hb : b < w.heap.size) (W : World) (l : Nat) (o o' : Obj) (hl : w.heap.size ≤ l) (h : W.heap[l]? = some o) (hc : o.isCells = false) (_ : o.isWalk = false) : KeepC e b W (W.putObj l o') := by
  have hlt := (Array.getElem?_eq_some_iff.1 h).1
  refine KeepC.grown (by omega) (by omega) (grownBy_putObj' W l o') fun r hr => ?_
  obtain rfl : l = r := by simpa using hr
  exact ⟨by omega, by omega, fun vs z h' => by rw [h] at h'; cases h'; cases hc⟩
theorem rdE_b {e : Nat} (W : World) (x : Elt) (l : Nat) (o o' : Obj) (hx : RdE e W x) (h : W.heap[l]? = some o) (hc : o.isCells = false) : RdE e (W.putObj l o') x :=
  owns_turn hx (grownBy_putObj' W l o') fun r cur z hr h' => by
    obtain rfl : l = r := by simpa using hr
    rw [h] at h'; cases h'; cases hc

/-- between two rounds of Critical's loop -/
structure CrI (w : World) (Bo : Nat) (av : Value) (pre : List Elt) (W : World) : Prop where
  b1 : Boxed W w.heap.size 30 (.slice none 0 0)
  b2 : Boxed W (w.heap.size + 1) 27 (.int .i64 0)
  bx : Boxed W (Bo + 1) 22 av
  out : ∃ v, Boxed W Bo 30 v ∧ OwnSS W w.heap.size v (pre.map fun x => tripS x.2)
  len : pre.length ≤ 4096
  bel : Below w.heap.size w W
structure CrX (w : World) (c : Code) (pre : List Elt) (W : World) : Prop where
  ret : c = .ret
  b1 : Boxed W w.heap.size 30 (.slice none 0 0)
  b2 : Boxed W (w.heap.size + 1) 27 (.int .i64 4)
  len : 4096 < pre.length
  bel : Below w.heap.size w W
theorem CrI.own {w : World} {Bo B : Nat} {av : Value} (hB : w.heap.size ≤ B) : OwnFrom B (CrI w Bo av) := fun s A C row hs hg hr => by
  obtain ⟨v, hv, ho⟩ := hs.out
  have hno : ∀ r cur (t : TypeId) z, row = some r → A.heap[r]? ≠ some (Obj.cells cur t z) := fun r cur t z e h' => by obtain ⟨_, o, h, hc⟩ := hr r e; rw [h] at h'; cases h'; cases hc
  exact ⟨boxed_k hs.b1 hg hr, boxed_k hs.b2 hg hr, boxed_k hs.bx hg hr, ⟨v, boxed_k hv hg hr, ho.turn hg (fun r cur z => hno r cur 26 z) (fun r cur z => hno r cur 9 z)⟩, hs.len, hs.bel.grown hg hs.bel.size (fun k hk => Nat.le_trans hB (hr k hk).1)⟩
theorem CrX.own {w : World} {B : Nat} {c : Code} (hB : w.heap.size ≤ B) : OwnFrom B (CrX w c) := fun _ _ _ _ hs hg hr =>
  ⟨hs.ret, boxed_k hs.b1 hg hr, boxed_k hs.b2 hg hr, hs.len, hs.bel.grown hg hs.bel.size (fun k hk => Nat.le_trans hB (hr k hk).1)⟩
theorem info26 : (Try.prog.info? 26).map (fun i => (i.zero, i.size, i.bytes)) = some (some (.slice none 0 0), 1, 24) := by kernel_rfl
/-- what a round that goes on leaves -/
theorem CrI.next {w W w1 : World} {Bo : Nat} {av v v' : Value} {pre : List Elt} {x : Elt} {vs : List Value} {tmp : Obj} (h : CrI w Bo av pre W) (hv : Boxed W Bo 30 v) (hlt : pre.length < 4096) (hBo : w.heap.size + 1 < Bo)
    (hown0 : W.ownsRow w.heap.size 26 1 v pre.length vs) (hown : w1.ownsRow w.heap.size 26 1 v' (pre.length + 1) (vs ++ [eltV x])) (hg : (W.alloc tmp).grownBy w1 v.ownBlock)
    (hs : OwnSS w1 w.heap.size v' ((pre.map fun x => tripS x.2) ++ [tripS x.2])) :
    KeepsOthers W (w1.setCell ⟨Bo, 0, none⟩ v') ∧ KeepC w.heap.size (Bo + 1) W (w1.setCell ⟨Bo, 0, none⟩ v') ∧ CrI w Bo av (pre ++ [x]) (w1.setCell ⟨Bo, 0, none⟩ v') := by
  obtain ⟨k1, k2, k3, k4, k5⟩ := Boxed.appended (n₀ := w.heap.size) hv (by decide : (30 : Nat) ≠ 26) hown0 h.bel.size (by omega) hown hg
  have hb : ∀ {B : Nat} {t : TypeId} {u : Value}, Boxed W B t u → t ≠ 26 → B ≠ Bo → Boxed (w1.setCell ⟨Bo, 0, none⟩ v') B t u := fun {B t u} hb ht hB => ((hb.alloc tmp).kept hg (hb.not_row ht hown0)).other hB v'
  have hset := grownBy_setCell' w1 Bo v'
  refine ⟨k4, ?_, hb h.b1 (by decide) (by omega), hb h.b2 (by decide) (by omega), hb h.bx (by decide) (by omega), ⟨v', k2, ?_⟩, by simp; omega, h.bel.trans k5⟩
  · have hsz := h.bel.size
    have hbx := h.bx.lt
    have hszg := hg.size
    simp only [World.size_alloc] at hszg
    refine ((KeepC.alloc hsz hbx tmp).trans (KeepC.grown (by simp; omega) (by simp; omega) hg fun r hr => ?_)).trans (KeepC.grown (by omega) (by omega) hset fun r hr => ?_)
    · rcases hown0.2 with ⟨rfl, _⟩ | ⟨g, cap, cur, rfl, hbb, hgg, _⟩
      · simp [Value.ownBlock] at hr
      · obtain rfl : g = r := by simpa [Value.ownBlock] using hr
        have hgl := (Array.getElem?_eq_some_iff.1 hgg).1
        refine ⟨hbb, fun e => ?_, fun vs z h' => ?_⟩
        · subst e
          have := h.bx
          unfold Boxed at this
          rw [this] at hgg
          injection hgg with hgg
          injection hgg with _ h2
          cases h2
        · rw [Below.heap_alloc _ _ _ hgl, hgg] at h'
          injection h' with h'
          injection h' with _ h2
          cases h2
    · obtain rfl : Bo = r := by simpa using hr
      refine ⟨by omega, by omega, fun vs z h' => ?_⟩
      unfold Boxed at k1
      rw [k1] at h'
      injection h' with h'
      injection h' with _ h2
      cases h2
  · rw [List.map_append]
    refine hs.turn hset (fun r cur z hr h' => ?_) (fun r cur z hr h' => ?_)
    all_goals
      obtain rfl : Bo = r := by simpa using hr
      unfold Boxed at k1
      rw [k1] at h'
      injection h' with h'
      injection h' with _ h2
      cases h2

set_option maxRecDepth 100000 in
set_option maxHeartbeats 2000000 in
theorem critical16 (a : Option Addr) (n c : Nat) (rs : List Rule) (w : World) (h : Rls w a n rs) :
    CallsIn Fence.wide 20 Try.prog 16 #[.slice a n c] w fun e W' => ∃ v, e = .returned (.tuple #[v, .int .i64 (CrE rs).1]) ∧ OwnSS W' w.heap.size v ((CrE rs).2.map tripS) ∧ Below w.heap.size w W' := by
  have hF40 : Fence.wide.fn 40 := trivial
  have hF30 : Fence.wide.fn 30 := trivial
  have H1 := Lib.hid (fun W (hb : Below w.heap.size w W) => check30 a n c rs W (h.mono (Nat.le_refl _) hb))
  have HH := Lib.hid h
  clear h
  have eg : ∀ args w, (callFunc 61 args).run Try.prog w = .ok (.enter 61 args) w := enters_of Try.func61 (by kernel_rfl) rfl
  refine callsIn_of_wp_marks Try.func16 rfl trivial ?_ rfl
  simp only [Try.ntmps16, List.size_toArray, List.length_cons, List.length_nil, Nat.reduceAdd, Nat.reduceSub, Array.replicate_succ, Array.replicate_zero, List.push_toArray, List.append_toArray, List.nil_append, List.cons_append]
  gi_wp2_with (fail)
  have hB0 : Below w.heap.size w ((w.alloc (.cells #[.slice none 0 0] 30)).alloc (.cells #[.int .i64 0] 27)) := ((Below.refl _ w).alloc (Nat.le_refl _) _).alloc (by simp) _
  refine (callsIn_wide.2 (H1.out _ hB0)).mono ?_
  rintro e w1 ⟨rfl, hb1⟩
  have b1 : Boxed w1 w.heap.size 30 (.slice none 0 0) := by
    have := (Boxed.new w 30 (.slice none 0 0)).alloc (.cells #[.int .i64 0] 27)
    exact boxed_below this hb1
  have b2 : Boxed w1 (w.heap.size + 1) 27 (.int .i64 0) := by
    have := Boxed.new (w.alloc (.cells #[.slice none 0 0] 30)) 27 (.int .i64 0)
    rw [World.size_alloc] at this
    exact boxed_below this hb1
  have hB := bstep hB0 hb1
  have hsz : w.heap.size + 2 ≤ w1.heap.size := by have := hb1.size; simp at this; omega
  simp only [World.size_alloc] at hb1
  clear hB0 hb1 H1
  generalize hq : chkR rs = q
  have HQ := Lib.hid hq
  clear hq
  by_cases h0 : q = 0
  · subst h0
    gi_wp2_with (fail)
    refine (callsIn_wide.2 (critical40 _ _ _ _)).mono ?_
    rintro e w2 ⟨rfl, hw2⟩
    simp only [World.size_alloc] at hw2 ⊢
    have b1' : Boxed w2 w.heap.size 30 (.slice none 0 0) := by rw [hw2]; exact (b1.alloc _).alloc _
    have b2' : Boxed w2 (w.heap.size + 1) 27 (.int .i64 0) := by rw [hw2]; exact (b2.alloc _).alloc _
    have b3 : Boxed w2 w1.heap.size 30 (.slice none 0 0) := by rw [hw2]; exact (Boxed.new w1 30 _).alloc _
    have b4 : Boxed w2 (w1.heap.size + 1) 22 (.slice a n c) := by
      rw [hw2]
      have := Boxed.new (w1.alloc (.cells #[.slice none 0 0] 30)) 22 (.slice a n c)
      rwa [World.size_alloc] at this
    have hB2 : Below w.heap.size w w2 := by rw [hw2]; exact (hB.alloc (by omega) _).alloc (by simp; omega) _
    have hsz2 : w2.heap.size = w1.heap.size + 2 := by rw [hw2]; simp
    have HS := Lib.hid (fun m hm => critical_stops a n c rs w2 w HH.out (w1.heap.size + 1) hB2 b4.cell m hm)
    have h0 : CrI w w1.heap.size (.slice a n c) [] w2 := ⟨b1', b2', b4, ⟨_, b3, OwnSS.nil _ _⟩, by simp, hB2⟩
    clear b1 b2 hB b1' b2' b3 b4 hB2 hw2
    generalize w1.heap.size = Bo at *
    gi_wp2_with (fail)
    refine wpIn_rangeFunc_ownR (F := Fence.wide) rfl (by omega) (gf := 61) rfl trivial eg
      (HS.out _ (by omega)) rdE_b KeepC.trans (keepC_b (w := w2) (by omega) (by omega)) (Below.refl _ _) (fun _ => rfl)
      (CrI w Bo (.slice a n c)) (CrX w) (CrI.own (by omega)) (fun _ => CrX.own (by omega)) h0
      (fun x => { tmps := #[.slice a n c, undef, .pointer (some ⟨w.heap.size, 0, none⟩), .pointer (some ⟨w.heap.size + 1, 0, none⟩), .pointer (some ⟨Bo, 0, none⟩), .slice (some ⟨x.1, 0, none⟩) 3 3, .slice a n c, .int .i64 0, .bool false, .slice a n c, .func (.func 61) #[] #[.pointer (some ⟨Bo + 1, 0, none⟩)], .slice (some ⟨x.1, 0, none⟩) 3 3, undef, undef, undef, undef, undef, undef, undef, undef], defers := [] }) ?assign ?body ?done ?stop
    case assign =>
      intro l x W K hK
      gi_wp2
      exact hK
    case body =>
      rintro l pre x W hi hrd hpre
      obtain ⟨v, hv, ho⟩ := hi.out
      obtain ⟨av, ac, hav⟩ := ho.shape
      subst hav
      simp only [List.length_map] at hv ho ⊢
      have c3 := hv.cell
      have f3 := hv.frozen
      have c1 := hi.b1.cell
      have f1 := hi.b1.frozen
      have c2 := (hi.b2.other (by omega : w.heap.size + 1 ≠ w.heap.size) (.slice none 0 0)).cell
      have f2 := (hi.b2.other (by omega : w.heap.size + 1 ≠ w.heap.size) (.slice none 0 0)).frozen
      have hle := hi.len
      have hBo : w.heap.size + 1 < Bo := by omega
      have HI := Lib.hid hi
      have HV := Lib.hid hv
      have HO := Lib.hid ho
      have HRD := Lib.hid hrd
      clear hi hv ho hrd
      by_cases h4 : pre.length = 4096
      · have e4 : ((pre.length : Int) == 4096) = true := by rw [beq_iff_eq]; omega
        gi_wp2_with (fail)
        refine ⟨((KeepsOthers.setCell _ _ _).trans (KeepsOthers.setCell _ _ _)).from _, rfl, ?_, ?_, by simp; omega, ?_⟩
        · exact (HI.out.b1.set _).other (by omega) _
        · exact (HI.out.b2.other (by omega) _).set _
        · exact (HI.out.bel.setCell (p := ⟨w.heap.size, 0, none⟩) (by simp) _).setCell (p := ⟨w.heap.size + 1, 0, none⟩) (by simp) _
      · have e4 : ((pre.length : Int) == 4096) = false := by rw [beq_eq_false_iff_ne]; omega
        have hlt : pre.length < 4096 := by omega
        obtain ⟨i0, hi0, hz0, hz1, hz2⟩ := info_parts info26
        obtain ⟨vs, hown0, hnext⟩ := HO.out.ready HI.out.bel.size (xs := tripS x.2) HRD.out
        simp only [List.length_map] at hown0 hnext
        have HOW := Lib.hid hown0
        have HN := Lib.hid hnext
        have hbs := HI.out.bel.size
        clear hown0 hnext h4
        gi_wp2_with (gi_at_builtin; refine wpListIn_append_own _ rfl _ _ 30 rfl w.heap.size 26 i0 (.slice none 0 0) 1 24 Try.underlying30 hi0 hz0 hz1 hz2 rfl (by decide) _ _ _ rfl (HOW.out.alloc _) ⟨W.heap.size, 0, none⟩ 1 1 [.slice (some ⟨x.1, 0, none⟩) 3 3] rfl rfl (cell_one_new _ _ _) (by simp [Value.oneCell']) (by unfold maxLen; omega) (by omega) (by simp; omega) ?_; intro v1 w4 hown1 hgrow1 _; obtain ⟨g', cap', hv1⟩ := ownsRow_succ hown1; subst hv1; have hk1 := (HV.out.alloc _).kept hgrow1 (HV.out.not_row (by decide) HOW.out); have c5 := hk1.cell; have f5 := hk1.frozen; have HO2 := Lib.hid hown1; have HG := Lib.hid hgrow1; clear hown1 hgrow1 hk1)
        obtain ⟨k1, k2, k3⟩ := HI.out.next HV.out hlt hBo HOW.out HO2.out HG.out (HN.out _ _ _ HO2.out HG.out).1
        exact ⟨k1.from _, k2, k3⟩
    case done =>
      rintro D ys W hD hys hi hK
      obtain ⟨v, hv, ho⟩ := hi.out
      obtain ⟨av, ac, hav⟩ := ho.shape
      subst hav
      simp only [List.length_map] at hv ho
      have c3 := hv.cell
      have c1 := hi.b1.cell
      have f1 := hi.b1.frozen
      have c2 := (hi.b2.other (by omega : w.heap.size + 1 ≠ w.heap.size) (.slice av ys.length ac)).cell
      have f2 := (hi.b2.other (by omega : w.heap.size + 1 ≠ w.heap.size) (.slice av ys.length ac)).frozen
      have HI := Lib.hid hi
      have HO := Lib.hid ho
      have HYS := Lib.hid hys
      clear hi hv ho hys
      gi_wp2_with (fail)
      have hK' := ((KeepsOthers.setCell W ⟨w.heap.size, 0, none⟩ (.slice av ys.length ac)).trans (KeepsOthers.setCell _ ⟨w.heap.size + 1, 0, none⟩ (.int .i64 0))).same D _ hK rfl
      refine ⟨by simp, .inl ⟨_, _, rfl, run_takeDeferred hK', ?_⟩⟩
      obtain ⟨e1, e2⟩ := two_boxes HI.out.b1 HI.out.b2 (by omega) (by omega) (by omega) (.slice av ys.length ac) (.int .i64 0) (D := D) (.deferred none)
      have HE : CrE rs = (0, critL rs) := by rw [CrE, HQ.out, if_pos rfl, if_pos (by rw [← HYS.out]; simpa using HI.out.len)]
      refine ⟨.tuple #[.slice av ys.length ac, .int .i64 0], by simp [results, Try.f16, go_sem, e1, e2], _, by rw [HE], ?_, ((HI.out.bel.setCell (p := ⟨w.heap.size, 0, none⟩) (by simp) _).setCell (p := ⟨w.heap.size + 1, 0, none⟩) (by simp) _).trans (belowK_b (w := w2) (by omega) _ D _ _ (by omega) hK' rfl rfl)⟩
      rw [HE]
      simp only
      rw [← HYS.out, List.map_map]
      have h30 : ∀ {X : World} {B : Nat} {u : Value} {t : TypeId}, Boxed X B t u → t ≠ 26 → t ≠ 9 → ∀ u', OwnSS X w.heap.size (.slice av ys.length ac) (ys.map fun x => tripS x.2) → OwnSS (X.setCell ⟨B, 0, none⟩ u') w.heap.size (.slice av ys.length ac) (ys.map fun x => tripS x.2) := fun {X B u t} hb h26 h9 u' ho => by
        refine ho.turn (grownBy_setCell' X B u') (fun r cur z hr h' => ?_) (fun r cur z hr h' => ?_)
        all_goals
          obtain rfl : B = r := by simpa using hr
          unfold Boxed at hb
          rw [hb] at h'
          injection h' with h'
          injection h' with _ h2
          first | exact h26 h2 | exact h9 h2
      refine OwnSS.turn (h30 (HI.out.b2.other (by omega) _) (by decide) (by decide) _ (h30 HI.out.b1 (by decide) (by decide) _ HO.out)) (grownBy_putObj' _ D _) (fun r cur z hr h' => ?_) (fun r cur z hr h' => ?_)
      all_goals
        obtain rfl : D = r := by simpa using hr
        rw [hK'] at h'
        cases h'
    case stop =>
      rintro D c pre W hD hpre hi hK
      obtain ⟨rfl, h1, h2, h3, h5⟩ := hi
      have HP := Lib.hid hpre
      have B1 := Lib.hid h1
      have B2 := Lib.hid h2
      clear h1 h2 hpre
      gi_wp2_with (fail)
      refine ⟨by simp, .inl ⟨_, _, rfl, run_takeDeferred hK, ?_⟩⟩
      have e1 := (B1.out.kept (grownBy_putObj' _ D (.deferred none)) (by simp; omega)).cell
      have e2 := (B2.out.kept (grownBy_putObj' _ D (.deferred none)) (by simp; omega)).cell
      have HE : CrE rs = (4, []) := by
        have := HP.out.length_le
        rw [List.length_map] at this
        rw [CrE, HQ.out, if_pos rfl, if_neg (by omega)]
      exact ⟨.tuple #[.slice none 0 0, .int .i64 4], by simp [results, Try.f16, go_sem, e1, e2], _, by rw [HE], by rw [HE]; exact OwnSS.nil _ _, h5.trans (belowK_b (w := w2) (by omega) W D _ _ (by omega) hK rfl rfl)⟩
  · have e1 : (q != 0) = true := by simpa using h0
    have HE := Lib.hid (show CrE rs = (1, []) by rw [CrE, HQ.out, if_neg h0])
    have c1 := b1.cell
    have f1 := b1.frozen
    have c2 := (b2.other (by omega : w.heap.size + 1 ≠ w.heap.size) (.slice none 0 0)).cell
    have f2 := (b2.other (by omega : w.heap.size + 1 ≠ w.heap.size) (.slice none 0 0)).frozen
    clear h0
    gi_wp2_with (fail)
    have d1 := ((b1.set (.slice none 0 0)).other (by omega : w.heap.size ≠ w.heap.size + 1) (.int .i64 1)).cell
    have d2 := ((b2.other (by omega : w.heap.size + 1 ≠ w.heap.size) (.slice none 0 0)).set (.int .i64 1)).cell
    refine ⟨.tuple #[.slice none 0 0, .int .i64 1], by simp [results, Try.f16, go_sem, d1, d2], _, by rw [HE.out], by rw [HE.out]; exact OwnSS.nil _ _, ?_⟩
    exact (hB.setCell (p := ⟨w.heap.size, 0, none⟩) (by simp) _).setCell (p := ⟨w.heap.size + 1, 0, none⟩) (by simp) _
end Go.Proofs.Ytamdonlncfmmmaa
