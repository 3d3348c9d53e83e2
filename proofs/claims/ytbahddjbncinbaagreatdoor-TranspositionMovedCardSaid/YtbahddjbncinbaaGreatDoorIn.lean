/-
  Pairs of indices of two sources; whether a row is among rows.
-/
import Derived.Test.YtbahddjbncinbaaGreatDoorFn
namespace Go.Proofs.YtbahddjbncinbaaGreatDoor
open Go.RowKit Go.Ap Go.Shelf Go.Proofs

attribute [local go_sem] Oper.semAt_some bs_toList empty_toList bs_size bs_extract
set_option maxHeartbeats 4000000 in
theorem clo62 (p : Nat × Nat) (B1 B2 : Nat) (a1 : Option Addr) (n1 c1 : Nat) (a2 : Option Addr) (n2 c2 : Nat) (v : Value) (W : World) (h : RowR W v (rowP p)) (hc1 : W.cell? ⟨B1, 0, none⟩ = some (.slice a1 n1 c1)) (hc2 : W.cell? ⟨B2, 0, none⟩ = some (.slice a2 n2 c2)) (h1 : p.1 < n1) (h2 : p.2 < n2) :
    Calls Tryz.prog 62 (#[v] ++ #[.pointer (some ⟨B1, 0, none⟩), .pointer (some ⟨B2, 0, none⟩)]) W fun e w' => e = .returned (.bool false) ∧ Below W.heap.size W w' := by
  obtain ⟨a, n, c, rfl, hr⟩ := h
  obtain rfl : 2 = n := hr.len
  obtain ⟨z, b, o, v, hz, rfl, hz1, rfl, _⟩ := Sl.at hr (show 1 < 2 by omega)
  obtain ⟨y, b', o', v', hy, he, hy1, rfl, _⟩ := Sl.at hr (show 0 < 2 by omega)
  cases he
  have hz2 : z = (p.2 : Int) := by simp [rowP] at hz; exact hz.symm
  have hy2 : y = (p.1 : Int) := by simp [rowP] at hy; exact hy.symm
  subst hz2 hy2
  rw [Nat.add_zero] at hy1
  obtain ⟨f, hf⟩ : ∃ f, p.1 = f := ⟨_, rfl⟩
  obtain ⟨s, hs⟩ : ∃ s, p.2 = s := ⟨_, rfl⟩
  rw [hf] at hy1 h1
  rw [hs] at hz1 h2
  have d1 : decide ((f : Int) < 0) = false := by rw [decide_eq_false_iff_not]; omega
  have d2 : decide ((s : Int) < 0) = false := by rw [decide_eq_false_iff_not]; omega
  have d3 : decide (n1 ≤ f) = false := by rw [decide_eq_false_iff_not]; omega
  have d4 : decide (n2 ≤ s) = false := by rw [decide_eq_false_iff_not]; omega
  simp only [List.append_toArray, List.cons_append, List.nil_append]
  clear hr hz hy hf hs h1 h2
  go_enter Tryz.func62, Tryz.ntmps62
  go_wp2_with (fail)
  go_quiet (fail)
  go_wp2_with (fail)
  go_ret
  exact ⟨rfl, bdrewN _ _⟩
set_option maxHeartbeats 4000000 in
theorem inside23 (l : List (Nat × Nat)) (a : Option Addr) (n c : Nat) (a1 : Option Addr) (n1 c1 : Nat) (a2 : Option Addr) (n2 c2 : Nat) (w : World) (h : Rows2 w a n (rowsP l)) (hl : ∀ p ∈ l, p.1 < n1 ∧ p.2 < n2) :
    Calls Tryz.prog 23 #[.slice a n c, .slice a1 n1 c1, .slice a2 n2 c2] w fun e w' => e = .returned (.bool true) ∧ Below w.heap.size w w' := by
  have b1 := balloc w (.cells #[.slice a1 n1 c1] 22)
  have b2 := balloc (w.alloc (.cells #[.slice a1 n1 c1] 22)) (.cells #[.slice a2 n2 c2] 22)
  have hb := bstep b1 b2
  have k1 : ((w.alloc (.cells #[.slice a1 n1 c1] 22)).alloc (.cells #[.slice a2 n2 c2] 22)).cell? ⟨w.heap.size, 0, none⟩ = some (.slice a1 n1 c1) := cell_keep b2 (blk_cell (World.alloc_heap_new w _) rfl)
  have k2 : ((w.alloc (.cells #[.slice a1 n1 c1] 22)).alloc (.cells #[.slice a2 n2 c2] 22)).cell? ⟨w.heap.size + 1, 0, none⟩ = some (.slice a2 n2 c2) := by
    have := World.alloc_heap_new (w.alloc (.cells #[.slice a1 n1 c1] 22)) (.cells #[.slice a2 n2 c2] 22)
    rw [World.size_alloc] at this
    exact blk_cell this rfl
  have HI := Lib.hid (contRows (R := RowR) (fun _ => false) a n c (rowsP l) 62 #[.pointer (some ⟨w.heap.size, 0, none⟩), .pointer (some ⟨w.heap.size + 1, 0, none⟩)] ((w.alloc (.cells #[.slice a1 n1 c1] 22)).alloc (.cells #[.slice a2 n2 c2] 22)) (h.mono (Nat.le_refl _) hb) (enters_of Tryz.func62 (by kernel_rfl) rfl) (fun W v x hb hr => hr.mono (Nat.le_refl _) hb) (fun x v W hx hb hr => by
    obtain ⟨p, hp, rfl⟩ := List.mem_map.1 hx
    exact clo62 p _ _ a1 n1 c1 a2 n2 c2 v W hr (cell_keep hb k1) (cell_keep hb k2) (hl p hp).1 (hl p hp).2))
  rw [show ((rowsP l).any fun _ => false) = false by simp] at HI
  have HB := Lib.hid hb
  clear b1 b2 hb k1 k2 h hl
  go_enter Tryz.func23, Tryz.ntmps23
  go_wp2_with (fail)
  refine HI.out.mono ?_
  rintro e w1 ⟨rfl, hb⟩
  have HB1 := Lib.hid (bstep HB.out hb)
  clear hb
  go_wp2_with (fail)
  go_ret
  exact ⟨rfl, HB1.out⟩
/-- whether a row is the boxed one -/
theorem clo30 (x r : List Int) (Bk : Nat) (ab : Option Addr) (nb cb : Nat) (v : Value) (W : World) (h : RowR W v x) (hc : W.cell? ⟨Bk, 0, none⟩ = some (.slice ab nb cb)) (hr : Ints W ab nb r) :
    Calls Tryz.prog 30 (#[v] ++ #[.pointer (some ⟨Bk, 0, none⟩)]) W fun e w' => e = .returned (.bool (decide (r = x))) ∧ Below W.heap.size W w' := by
  obtain ⟨a, n, c, rfl, hx⟩ := h
  have HE := Lib.hid (eqInts ab a cb c nb n r x W hr hx)
  simp only [List.append_toArray, List.cons_append, List.nil_append]
  clear hx hr
  go_enter Tryz.func30, Tryz.ntmps30
  go_wp2_with (fail)
  refine HE.out.mono ?_
  rintro e w1 ⟨rfl, q, rfl⟩
  go_wp2_with (fail)
  go_ret
  exact ⟨rfl, bdrewN _ _⟩
theorem any30 (r : List Int) (l : List (Nat × Nat)) (Bk : Nat) (ab : Option Addr) (nb cb : Nat) (a : Option Addr) (n c : Nat) (w : World) (h : Rows2 w a n (rowsP l)) (hc : w.cell? ⟨Bk, 0, none⟩ = some (.slice ab nb cb)) (hr : Ints w ab nb r) :
    Calls Tryz.prog 25 #[.slice a n c, .func (.func 30) #[] #[.pointer (some ⟨Bk, 0, none⟩)]] w fun e w' => e = .returned (.bool ((rowsP l).any fun x => decide (r = x))) ∧ Below w.heap.size w w' :=
  contRows (R := RowR) (fun x => decide (r = x)) a n c (rowsP l) _ _ w h (enters_of Tryz.func30 (by kernel_rfl) rfl) (fun W v x hb hr => hr.mono (Nat.le_refl _) hb) (fun x v W _ hb hv => clo30 x r Bk ab nb cb v W hv (cell_keep hb hc) (hr.mono (Nat.le_refl _) hb))
end Go.Proofs.YtbahddjbncinbaaGreatDoor
