/-
  step: the first result.
-/
import Derived.Test.YtamdonlncfmmmaaW6
namespace Go.Proofs.Ytamdonlncfmmmaa
open Go.RowKit Go.Ap Go.Shelf Go.Proofs

attribute [local go_sem] Oper.semAt_some bs_toList empty_toList bs_size

theorem boxed_k {B B' : Nat} {t : TypeId} {v : Value} {X Y : World} {row : Option Nat} (h : Boxed X B t v) (hg : X.grownBy Y row) (hr : ∀ r, row = some r → B' ≤ r ∧ ∃ o : Obj, X.heap[r]? = some o ∧ o.isCells = false) : Boxed Y B t v :=
  (boxed_own B t (fun _ : Unit => v)).from B' () X Y row h hg hr

theorem two_boxes {W : World} {B1 B2 D : Nat} {t1 t2 : TypeId} {v1 v2 : Value} (h1 : Boxed W B1 t1 v1) (h2 : Boxed W B2 t2 v2) (hne : B1 ≠ B2) (hd1 : B1 ≠ D) (hd2 : B2 ≠ D) (x1 x2 : Value) (o : Obj) :
    (((W.setCell ⟨B1, 0, none⟩ x1).setCell ⟨B2, 0, none⟩ x2).putObj D o).cell? ⟨B1, 0, none⟩ = some x1 ∧ (((W.setCell ⟨B1, 0, none⟩ x1).setCell ⟨B2, 0, none⟩ x2).putObj D o).cell? ⟨B2, 0, none⟩ = some x2 :=
  ⟨(((h1.set x1).other hne x2).kept (grownBy_putObj' _ D o) (by simpa using hd1)).cell, (((h2.other hne.symm x1).set x2).kept (grownBy_putObj' _ D o) (by simpa using hd2)).cell⟩

set_option maxRecDepth 100000 in
set_option maxHeartbeats 2000000 in
theorem step43 (a : Option Addr) (n c : Nat) (rs : List Rule) (s : Str) (w : World) (h : Rls w a n rs) (hs : s.length ≤ 4611686018427387903) :
    CallsIn Fence.wide 10 Try.prog 43 #[.slice a n c, .string (bs s)] w fun e W' => e = .returned (.tuple #[.string (bs (stepL rs s).1), .bool (stepL rs s).2]) ∧ Below w.heap.size w W' := by
  have hF54 : Fence.wide.fn 54 := trivial
  have HH := Lib.hid h
  clear h
  have eg : ∀ args w, (callFunc 68 args).run Try.prog w = .ok (.enter 68 args) w := enters_of Try.func68 (by kernel_rfl) rfl
  refine callsIn_of_wp_marks Try.func43 rfl trivial ?_ rfl
  simp only [Try.ntmps43, List.size_toArray, List.length_cons, List.length_nil, Nat.reduceAdd, Nat.reduceSub, Array.replicate_succ, Array.replicate_zero, List.push_toArray, List.append_toArray, List.nil_append, List.cons_append]
  gi_wp2_with (fail)
  refine (callsIn_wide.2 (results54 _ _ _ _ _)).mono ?_
  rintro e w' ⟨rfl, hw'⟩
  simp only [World.size_alloc] at hw' ⊢
  have b1 : Boxed w' w.heap.size 9 (.string { data := #[] }) := by rw [hw']; exact (((Boxed.new w _ _).alloc _).alloc _).alloc _
  have b2 : Boxed w' (w.heap.size + 1) 4 (.bool false) := by rw [hw']; have := Boxed.new (w.alloc (.cells #[.string { data := #[] }] 9)) 4 (.bool false); rw [World.size_alloc] at this; exact (this.alloc _).alloc _
  have hB : Below w.heap.size w w' := by rw [hw']; exact ((((Below.refl _ w).alloc (Nat.le_refl _) _).alloc (by simp) _).alloc (by simp; omega) _).alloc (by simp; omega) _
  have hsz : w'.heap.size = w.heap.size + 4 := by rw [hw']; simp
  have cr : w'.cell? ⟨w.heap.size + 1 + 1, 0, none⟩ = some (.slice a n c) := by rw [hw', World.cell?_alloc_lt _ _ _ (by simp)]; exact cell_fresh (by simp) rfl
  have cw : w'.cell? ⟨w.heap.size + 1 + 1 + 1, 0, none⟩ = some (.string (bs s)) := by rw [hw']; exact cell_fresh (by simp) rfl
  have HS := Lib.hid (fun m hm => results_stops a n c rs s w' w HH.out hs (w.heap.size + 1 + 1 + 1) (w.heap.size + 1 + 1) hB cw cr m hm)
  clear hw' cr cw
  gi_wp2_with (fail)
  refine wpIn_rangeFunc_ownG (F := Fence.wide) rfl (by omega) (gf := 68) rfl trivial eg
    (HS.out _ (by omega)) KeepR.trans (keepR_b (w := w') (by omega) (by omega) (by omega)) (Below.refl _ _) (fun _ => rfl)
    (fun (pre : List Str) W => (pre = [] ∧ Boxed W w.heap.size 9 (.string { data := #[] }) ∧ Boxed W (w.heap.size + 1) 4 (.bool false)) ∧ Below w.heap.size w W)
    (fun c (pre : List Str) W => (c = .ret ∧ ∃ x, pre = [x] ∧ Boxed W w.heap.size 9 (.string (bs x)) ∧ Boxed W (w.heap.size + 1) 4 (.bool true)) ∧ Below w.heap.size w W)
    (OwnFrom.and (fun _ _ _ _ hs hg hr => ⟨hs.1, boxed_k hs.2.1 hg hr, boxed_k hs.2.2 hg hr⟩) (ownFrom_below (Nat.le_refl _) (by omega)))
    (fun _ => OwnFrom.and (fun _ _ _ _ hs hg hr => by obtain ⟨h1, x, h2, h3, h4⟩ := hs; exact ⟨h1, x, h2, boxed_k h3 hg hr, boxed_k h4 hg hr⟩) (ownFrom_below (Nat.le_refl _) (by omega)))
    ⟨⟨rfl, b1, b2⟩, hB⟩
    (fun x => { tmps := #[.slice a n c, .string (bs s), undef, undef, .pointer (some ⟨w.heap.size, 0, none⟩), .pointer (some ⟨w.heap.size + 1, 0, none⟩), .string (bs x), .slice a n c, .string (bs s), .func (.func 68) #[] #[.pointer (some ⟨w.heap.size + 1 + 1 + 1, 0, none⟩), .pointer (some ⟨w.heap.size + 1 + 1, 0, none⟩)], .string (bs x), undef, undef], defers := [] }) ?assign ?body ?done ?stop
  case assign =>
    intro l x W K hK
    gi_wp2
    exact hK
  case body =>
    rintro l pre x W ⟨⟨rfl, h1, h2⟩, hb⟩ _
    have c1 := h1.cell
    have f1 := h1.frozen
    have c2 := (h2.other (by omega : w.heap.size + 1 ≠ w.heap.size) (.string (bs x))).cell
    have f2 := (h2.other (by omega : w.heap.size + 1 ≠ w.heap.size) (.string (bs x))).frozen
    have B1 := Lib.hid h1
    have B2 := Lib.hid h2
    clear h1 h2
    gi_wp2_with (fail)
    refine ⟨?_, ⟨rfl, x, rfl, ?_, ?_⟩, ?_⟩
    · exact ((KeepsOthers.setCell _ _ _).trans (KeepsOthers.setCell _ _ _)).from _
    · exact ((B1.out.set (.string (bs x))).other (by omega) _)
    · exact (B2.out.other (by omega) _).set _
    · exact (hb.setCell (p := ⟨w.heap.size, 0, none⟩) (by simp) _).setCell (p := ⟨w.heap.size + 1, 0, none⟩) (by simp) _
  case done =>
    rintro D ys W hD rfl ⟨⟨hn, h1, h2⟩, hb⟩ hK
    have HN := Lib.hid hn
    have c1 := h1.cell
    have f1 := h1.frozen
    have c2 := (h2.other (by omega : w.heap.size + 1 ≠ w.heap.size) (.string (bs s))).cell
    have f2 := (h2.other (by omega : w.heap.size + 1 ≠ w.heap.size) (.string (bs s))).frozen
    have B1 := Lib.hid h1
    have B2 := Lib.hid h2
    clear h1 h2 hn
    gi_wp2_with (fail)
    have hK' := ((KeepsOthers.setCell W ⟨w.heap.size, 0, none⟩ (.string (bs s))).trans (KeepsOthers.setCell _ ⟨w.heap.size + 1, 0, none⟩ (.bool false))).same D _ hK rfl
    refine ⟨by simp, .inl ⟨_, _, rfl, run_takeDeferred hK', ?_⟩⟩
    obtain ⟨e1, e2⟩ := two_boxes B1.out B2.out (by omega) (by omega) (by omega) (.string (bs s)) (.bool false) (D := D) (.deferred none)
    refine ⟨.tuple #[.string (bs s), .bool false], ?_, ?_, ((hb.setCell (p := ⟨w.heap.size, 0, none⟩) (by simp) _).setCell (p := ⟨w.heap.size + 1, 0, none⟩) (by simp) _).trans (belowK_b (w := w) (Nat.le_refl _) _ D _ _ (by omega) hK' rfl rfl)⟩
    · simp [results, Try.f43, go_sem, e1, e2]
    · rw [stepL, HN.out]
  case stop =>
    rintro D c pre W hD hpre ⟨⟨rfl, x, rfl, h1, h2⟩, hb⟩ hK
    have HP := Lib.hid hpre
    have B1 := Lib.hid h1
    have B2 := Lib.hid h2
    clear h1 h2 hpre
    gi_wp2_with (fail)
    refine ⟨by simp, .inl ⟨_, _, rfl, run_takeDeferred hK, ?_⟩⟩
    have e1 := (B1.out.kept (grownBy_putObj' _ D (.deferred none)) (by simp; omega)).cell
    have e2 := (B2.out.kept (grownBy_putObj' _ D (.deferred none)) (by simp; omega)).cell
    refine ⟨.tuple #[.string (bs x), .bool true], ?_, ?_, hb.trans (belowK_b (w := w) (Nat.le_refl _) W D _ _ (by omega) hK rfl rfl)⟩
    · simp [results, Try.f43, go_sem, e1, e2]
    · obtain ⟨t, ht⟩ := HP.out
      rw [stepL, ← ht]
      rfl
end Go.Proofs.Ytamdonlncfmmmaa
