/-
  Places that lie in memory read as a list: from the row's datum.
-/
import Derived.Test.YthfppkcefnmdoaaGreatDoorOpC
import Derived.Test.YthfppkcefnmdoaaGreatDoorEvl
namespace Go.Ap
open Go Go.RowKit
section
variable {H : Type} {enc : TypeId × Value → H} {P : Program} {w : World}
instance : Inhabited Rdg := ⟨([], [])⟩
instance : Inhabited Plc := ⟨⟨0, 0, []⟩⟩
theorem list2 {α : Type} {l : List α} (h : l.length = 2) : ∃ a b, l = [a, b] := by
  match l, h with
  | [a, b], _ => exact ⟨a, b, rfl⟩
theorem list3 {α : Type} {l : List α} (h : l.length = 3) : ∃ a b c, l = [a, b, c] := by
  match l, h with
  | [a, b, c], _ => exact ⟨a, b, c, rfl⟩
/-- what a reading's type is -/
structure RdgTy (P : Program) (e : TypeId) : Prop where
  ex : ∃ (f0 f1 : Field) (s0 s1 : TypeId), P.underlying e = some (.struct #[f0, f1]) ∧ f0.offset = 0 ∧ f1.offset = 1 ∧ P.underlying f0.type = some (.slice s0) ∧ P.underlying f1.type = some (.slice s1) ∧
    P.underlying s0 = some .string ∧ P.underlying s1 = some (.int .i64) ∧ P.cellsOf f0.type = 1 ∧ P.cellsOf f1.type = 1 ∧ P.cellsOf s0 = 1 ∧ P.cellsOf s1 = 1 ∧ 1 ≤ P.bytesOf s0 ∧ 1 ≤ P.bytesOf s1
  cells : P.cellsOf e = 2
  bytes : 1 ≤ P.bytesOf e
theorem rdg_of_trod {e : TypeId} (hT : RdgTy P e) : ∀ fuel b o cs (d : DataW H) p, w.cells? 0 ⟨b, o, none⟩ 2 = some cs → DataW.trod enc P w 0 (fun _ => true) true fuel e cs = some (d, p) → Fit P e d → ∃ x, RdgM w b o x := by
  intro fuel b o cs d p hc h hf
  obtain ⟨f0, f1, s0, s1, he, o0, o1, u0, u1, v0, v1, k0, k1, l0, l1, b0, b1⟩ := hT.ex
  obtain ⟨hlen, hcell⟩ := cells_plain hc
  obtain ⟨c0, c1, rfl⟩ := list2 hlen
  obtain ⟨xs, n, _, hx, _, hxl, hfld⟩ := DataW.trod_struct he h
  simp only [Prod.mk.injEq] at hx
  obtain ⟨rfl, _⟩ := hx
  have t0 := hfld 0 f0 rfl
  have t1 := hfld 1 f1 rfl
  rw [o0, k0] at t0
  rw [o1, k1] at t1
  simp only [List.size_toArray, List.length_cons, List.length_nil] at hxl
  have g : ∀ i, i < 2 → ∃ y, xs[i]? = some y := fun i hi => ⟨_, List.getElem?_eq_getElem (show i < xs.length by omega)⟩
  obtain ⟨y0, e0⟩ := g 0 (by omega)
  obtain ⟨y1, e1⟩ := g 1 (by omega)
  have m : ∀ (i : Nat) (y : DataW H × List MemPlace), xs[i]? = some y → (xs.map (·.1))[i]? = some y.1 := fun i y hy => by rw [List.getElem?_map, hy]; rfl
  have w0 := hf.parts he (j := 0) (f := f0) rfl (m 0 _ e0)
  have w1 := hf.parts he (j := 1) (f := f1) rfl (m 1 _ e1)
  rw [e0] at t0
  rw [e1] at t1
  simp only [List.drop_zero, List.drop_succ_cons, List.take_succ_cons, List.take_zero] at t0 t1
  obtain ⟨a1, n1, q1, rfl⟩ := open_slice1m u0 t0
  obtain ⟨a2, n2, q2, rfl⟩ := open_slice1m u1 t1
  obtain ⟨ws, hws, _⟩ := open_Strs u0 v0 l0 b0 t0 w0
  obtain ⟨ss, hss⟩ := open_Ints u1 v1 l1 b1 t1 w1
  refine ⟨(ws, ss), a1, n1, q1, a2, n2, q2, ?_, hws, ?_, hss⟩
  · have := hcell 0 _ rfl; rwa [Nat.add_zero] at this
  · exact hcell 1 _ rfl
/-- what a place's type is -/
structure PlcTy (P : Program) (e : TypeId) : Prop where
  ex : ∃ (f0 f1 f2 : Field) (s : TypeId), P.underlying e = some (.struct #[f0, f1, f2]) ∧ f0.offset = 0 ∧ f1.offset = 1 ∧ f2.offset = 2 ∧ P.underlying f0.type = some (.int .i64) ∧ P.underlying f1.type = some (.int .i64) ∧ P.underlying f2.type = some (.slice s) ∧
    P.cellsOf f0.type = 1 ∧ P.cellsOf f1.type = 1 ∧ P.cellsOf f2.type = 1 ∧ RdgTy P s
  cells : P.cellsOf e = 3
  bytes : 1 ≤ P.bytesOf e
theorem plc_of_trod {e : TypeId} (hT : PlcTy P e) : ∀ fuel b o cs (d : DataW H) p, w.cells? 0 ⟨b, o, none⟩ 3 = some cs → DataW.trod enc P w 0 (fun _ => true) true fuel e cs = some (d, p) → Fit P e d → ∃ x, PlcM w b o x := by
  intro fuel b o cs d p hc h hf
  obtain ⟨f0, f1, f2, s, he, o0, o1, o2, u0, u1, u2, k0, k1, k2, hR⟩ := hT.ex
  obtain ⟨hlen, hcell⟩ := cells_plain hc
  obtain ⟨c0, c1, c2, rfl⟩ := list3 hlen
  obtain ⟨xs, n, _, hx, _, hxl, hfld⟩ := DataW.trod_struct he h
  simp only [Prod.mk.injEq] at hx
  obtain ⟨rfl, _⟩ := hx
  have t0 := hfld 0 f0 rfl
  have t1 := hfld 1 f1 rfl
  have t2 := hfld 2 f2 rfl
  rw [o0, k0] at t0
  rw [o1, k1] at t1
  rw [o2, k2] at t2
  simp only [List.size_toArray, List.length_cons, List.length_nil] at hxl
  have g : ∀ i, i < 3 → ∃ y, xs[i]? = some y := fun i hi => ⟨_, List.getElem?_eq_getElem (show i < xs.length by omega)⟩
  obtain ⟨y0, e0⟩ := g 0 (by omega)
  obtain ⟨y1, e1⟩ := g 1 (by omega)
  obtain ⟨y2, e2⟩ := g 2 (by omega)
  have w2 := hf.parts he (j := 2) (f := f2) rfl (d := y2.1) (by rw [List.getElem?_map, e2]; rfl)
  rw [e0] at t0
  rw [e1] at t1
  rw [e2] at t2
  simp only [List.drop_zero, List.drop_succ_cons, List.take_succ_cons, List.take_zero] at t0 t1 t2
  obtain ⟨z0, a0, _, b0⟩ := DataW.trod_int u0 t0
  obtain ⟨z1, a1, _, b1⟩ := DataW.trod_int u1 t1
  simp only [List.cons.injEq, and_true] at a0 a1
  obtain ⟨a2, n2, q2, rfl⟩ := open_slice1m u2 t2
  have hcap := slice_cap u2 t2
  obtain ⟨rds, hrd⟩ := open_slM (R := RdgM) u2 hR.cells (by omega) hR.bytes (rdg_of_trod hR) t2 w2
  refine ⟨⟨z0, z1, rds⟩, a2, n2, q2, ?_, ?_, ?_, hrd, i64_of_wf b0, i64_of_wf b1, hcap⟩
  · have := hcell 0 _ rfl; rw [Nat.add_zero, a0] at this; exact this
  · rw [hcell 1 _ rfl, a1]
  · exact hcell 2 _ rfl
theorem open_Plcs' {t e : TypeId} {a : Option Addr} {n c fuel : Nat} {d : DataW H} {p : List MemPlace} (ht : P.underlying t = some (.slice e)) (hT : PlcTy P e)
    (h : DataW.trod enc P w 0 (fun _ => true) true fuel t [.slice a n c] = some (d, p)) (hw : Fit P t d) : ∃ xs, Plcs w a n xs :=
  open_slM (R := PlcM) ht hT.cells (by omega) hT.bytes (plc_of_trod hT) h hw
end
end Go.Ap
namespace Go.Proofs.YthfppkcefnmdoaaGreatDoor
open Go.RowKit Go.Ap Go.Shelf Go.Proofs
theorem rdgTy : RdgTy Tryz.prog 39 :=
  ⟨⟨_, _, _, _, Tryz.underlying39, rfl, rfl, Tryz.underlying22, Tryz.underlying37, Tryz.underlying9, Tryz.underlying3, by kernel_rfl, by kernel_rfl, by kernel_rfl, by kernel_rfl, of_decide_eq_true (by kernel_rfl), of_decide_eq_true (by kernel_rfl)⟩, by kernel_rfl, of_decide_eq_true (by kernel_rfl)⟩
theorem plcTy : PlcTy Tryz.prog 36 :=
  ⟨⟨_, _, _, _, Tryz.underlying36, rfl, rfl, rfl, Tryz.underlying3, Tryz.underlying3, Tryz.underlying34, by kernel_rfl, by kernel_rfl, by kernel_rfl, rdgTy⟩, by kernel_rfl, of_decide_eq_true (by kernel_rfl)⟩
theorem open_Plcs {H : Type} {enc : TypeId × Value → H} {w : World} {a : Option Addr} {n c fuel : Nat} {d : DataW H} {p : List MemPlace}
    (h : DataW.trod enc Tryz.prog w 0 (fun _ => true) true fuel 31 [.slice a n c] = some (d, p)) (hw : Fit Tryz.prog 31 d) : ∃ xs, Plcs w a n xs :=
  open_Plcs' Tryz.underlying31 plcTy h hw
end Go.Proofs.YthfppkcefnmdoaaGreatDoor
