/-
  Slices of ints and of postings, and lists of postings, that lie in memory.
-/
import Derived.Test.YtngdmpkoedpgdaaGreatDoorQe
import Derived.Test.YtngdmpkoedpgdaaGreatDoorMe5
namespace Go.Ap
open Go Go.RowKit Go.Deep Go.ChangeShapes Go.WideShapes Go.ChangeAt
section
variable {H : Type} {enc : TypeId × Value → H} {P : Program} {w : World}
/-- what a posting's type is -/
structure PostTy (P : Program) (e : TypeId) : Prop where
  ex : ∃ (f0 f1 f2 : Field) (ei : TypeId), P.underlying e = some (.struct #[f0, f1, f2]) ∧ f0.offset = 0 ∧ f1.offset = 1 ∧ f2.offset = 2 ∧
    P.underlying f0.type = some .string ∧ P.underlying f1.type = some .string ∧ P.underlying f2.type = some (.slice ei) ∧ P.underlying ei = some (.int .i64) ∧ P.cellsOf ei = 1 ∧ 1 ≤ P.bytesOf ei ∧
    P.cellsOf f0.type = 1 ∧ P.cellsOf f1.type = 1 ∧ P.cellsOf f2.type = 1
  cells : P.cellsOf e = 3
  bytes : 1 ≤ P.bytesOf e
theorem list3 {α : Type} {l : List α} (h : l.length = 3) : ∃ a b c, l = [a, b, c] := by
  match l, h with
  | [a, b, c], _ => exact ⟨a, b, c, rfl⟩
theorem post_of_trod {e : TypeId} (hT : PostTy P e) : ∀ fuel b o cs (d : DataW H) p, w.cells? 0 ⟨b, o, none⟩ 3 = some cs → DataW.trod enc P w 0 (fun _ => true) true fuel e cs = some (d, p) → Fit P e d → ∃ x, PostM w b o x := by
  intro fuel b o cs d p hc h hf
  obtain ⟨f0, f1, f2, ei, he, o0, o1, o2, u0, u1, u2, ui, ki, bi, k0, k1, k2⟩ := hT.ex
  obtain ⟨hlen, hcell⟩ := cells_plain hc
  obtain ⟨c0, c1, c2, rfl⟩ := list3 hlen
  obtain ⟨xs, n, _, hx, _, hxl, hfld⟩ := DataW.trod_struct he h
  simp only [Prod.mk.injEq] at hx
  obtain ⟨rfl, _⟩ := hx
  have t0 := hfld 0 f0 rfl
  rw [o0, k0] at t0
  have t1 := hfld 1 f1 rfl
  rw [o1, k1] at t1
  have t2 := hfld 2 f2 rfl
  rw [o2, k2] at t2
  simp only [List.size_toArray, List.length_cons, List.length_nil] at hxl
  have g : ∀ i, i < 3 → ∃ y, xs[i]? = some y := fun i hi => ⟨_, List.getElem?_eq_getElem (show i < xs.length by omega)⟩
  obtain ⟨y0, e0⟩ := g 0 (by omega)
  rw [e0] at t0
  obtain ⟨y1, e1⟩ := g 1 (by omega)
  rw [e1] at t1
  obtain ⟨y2, e2⟩ := g 2 (by omega)
  rw [e2] at t2
  have m : ∀ (i : Nat) (y : DataW H × List MemPlace), xs[i]? = some y → (xs.map (·.1))[i]? = some y.1 := fun i y hy => by rw [List.getElem?_map, hy]; rfl
  have w0 := hf.parts he (j := 0) (f := f0) rfl (m 0 _ e0)
  have w1 := hf.parts he (j := 1) (f := f1) rfl (m 1 _ e1)
  have w2 := hf.parts he (j := 2) (f := f2) rfl (m 2 _ e2)
  simp only [List.drop_zero, List.drop_succ_cons, List.take_succ_cons, List.take_zero] at t0 t1 t2
  obtain ⟨s0, a0, b0⟩ := str_of_trod u0 _ _ _ _ t0 w0
  obtain ⟨s1, a1, b1⟩ := str_of_trod u1 _ _ _ _ t1 w1
  obtain ⟨a, n2, k, rfl⟩ := open_slice1m u2 t2
  obtain ⟨ls, hls⟩ := open_Ints u2 ui ki bi t2 w2
  refine ⟨((s0, s1), ls), a, k, ?_, ?_, ?_, ?_, ?_, ?_⟩
  · have := hcell 0 c0 rfl; rw [Nat.add_zero] at this; rw [this, a0]; rfl
  · rw [hcell 1 c1 rfl, a1]; rfl
  · rw [hcell 2 _ rfl]; simp only; rw [hls.len]
  · simp only; omega
  · simp only; omega
  · simp only; rw [hls.len]; exact hls
end
end Go.Ap
namespace Go.Proofs.YtngdmpkoedpgdaaGreatDoor
open Go Go.Ap Go.RowKit Go.Deep Go.ChangeShapes Go.WideShapes Go.ChangeAt Go.Shelf
theorem postTy : PostTy Tryz.prog 37 :=
  ⟨⟨_, _, _, _, Tryz.underlying37, rfl, rfl, rfl, Tryz.underlying9, Tryz.underlying9, Tryz.underlying26, Tryz.underlying3, by kernel_rfl, of_decide_eq_true (by kernel_rfl), by kernel_rfl, by kernel_rfl, by kernel_rfl⟩, by kernel_rfl, of_decide_eq_true (by kernel_rfl)⟩
theorem open_Ps {H : Type} {enc : TypeId × Value → H} {w : World} {a : Option Addr} {n c fuel : Nat} {d : DataW H} {p : List MemPlace}
    (h : DataW.trod enc Tryz.prog w 0 (fun _ => true) true fuel 27 [.slice a n c] = some (d, p)) (hw : Fit Tryz.prog 27 d) : ∃ xs, Posts w a n xs ∧ n ≤ c := by
  obtain ⟨xs, hx⟩ := open_slM (R := PostM) Tryz.underlying27 postTy.cells (by omega) postTy.bytes (post_of_trod postTy) h hw
  exact ⟨xs, hx, slice_cap Tryz.underlying27 h⟩
theorem posts_of_trod {H : Type} {enc : TypeId × Value → H} {w : World} : ∀ fuel v (d : DataW H) p, DataW.trod enc Tryz.prog w 0 (fun _ => true) true fuel 27 [v] = some (d, p) → Fit Tryz.prog 27 d → ∃ x, PostsR w v x := by
  intro fuel v d p h hf
  obtain ⟨a, n, c, rfl⟩ := open_slice1m Tryz.underlying27 h
  obtain ⟨xs, hx, _⟩ := open_Ps h hf
  exact ⟨xs, a, n, c, rfl, hx⟩
theorem open_Ps2 {H : Type} {enc : TypeId × Value → H} {w : World} {a : Option Addr} {n c fuel : Nat} {d : DataW H} {p : List MemPlace}
    (h : DataW.trod enc Tryz.prog w 0 (fun _ => true) true fuel 52 [.slice a n c] = some (d, p)) (hw : Fit Tryz.prog 52 d) : ∃ xs, Posts2 w a n xs :=
  open_sl1 Tryz.underlying52 (by kernel_rfl) (of_decide_eq_true (by kernel_rfl)) posts_of_trod h hw
end Go.Proofs.YtngdmpkoedpgdaaGreatDoor
