/-
  slices.Compare of two pairs; slices.SortFunc of at most 12 rows of two numbers.
-/
import Derived.Test.YtbahddjbncinbaaGreatDoorShb
import Derived.Test.YtbahddjbncinbaaGreatDoorIn
namespace Go.Ap
open Go Go.RowKit
/-- two rows one by one: what slices.Compare answers from index i on -/
def lexF (X Y : Nat → Int) : Nat → Nat → Int
  | 0, _ => 0
  | f + 1, i => if Lib.compareInt (X i) (Y i) = 0 then lexF X Y f (i + 1) else Lib.compareInt (X i) (Y i)
def pairF (p : Int × Int) (i : Nat) : Int := if i = 0 then p.1 else p.2
def lexC (p q : Int × Int) : Int := lexF (pairF p) (pairF q) 2 0
theorem cmp_zero {x y : Int} : Lib.compareInt x y = 0 ↔ x = y := by
  unfold Lib.compareInt
  split
  · constructor
    · intro h; omega
    · intro h; omega
  · split
    · constructor
      · intro h; omega
      · intro h; omega
    · constructor
      · intro _; omega
      · intro _; rfl
theorem cmp_neg {x y : Int} : Lib.compareInt x y < 0 ↔ x < y := by
  unfold Lib.compareInt
  split
  · constructor
    · intro _; assumption
    · intro _; omega
  · split
    · constructor
      · intro h; omega
      · intro h; omega
    · constructor
      · intro h; omega
      · intro h; omega
theorem lexC_neg {p q : Int × Int} : lexC p q < 0 ↔ p.1 < q.1 ∨ (p.1 = q.1 ∧ p.2 < q.2) := by
  simp only [lexC, lexF, pairF, if_true, if_neg (show ¬ (0 + 1 = 0) by omega)]
  by_cases h : Lib.compareInt p.1 q.1 = 0
  · rw [if_pos h]
    have h1 := cmp_zero.1 h
    by_cases h2 : Lib.compareInt p.2 q.2 = 0
    · rw [if_pos h2]
      have h3 := cmp_zero.1 h2
      omega
    · rw [if_neg h2, cmp_neg]
      omega
  · rw [if_neg h, cmp_neg]
    have h1 : ¬ p.1 = q.1 := fun e => h (cmp_zero.2 e)
    omega
theorem cmp_i64 (x y : Int) : -1 ≤ Lib.compareInt x y ∧ Lib.compareInt x y ≤ 1 := by
  unfold Lib.compareInt
  split
  · omega
  · split <;> omega
theorem swo_lex {α : Type} (f : α → Int × Int) : Sort.SWO (Go.Proofs.ltOf fun x y => lexC (f x) (f y)) where
  irrefl x := by
    unfold Go.Proofs.ltOf
    rw [decide_eq_false_iff_not, lexC_neg]
    omega
  trans x y z h1 h2 := by
    unfold Go.Proofs.ltOf at *
    rw [decide_eq_true_eq, lexC_neg] at *
    omega
  ntrans x y z h1 h2 := by
    unfold Go.Proofs.ltOf at *
    rw [decide_eq_false_iff_not, lexC_neg] at *
    omega
theorem cell_grow {w : World} {os : Array Obj} {a : Addr} (h : a.block < w.heap.size) : (Sort.grow w os).cell? a = w.cell? a := by
  simp only [World.cell?, Sort.grow]
  rw [Array.getElem?_append_left h]
theorem cell_lt {w : World} {a : Addr} {u : Value} (h : w.cell? a = some u) : a.block < w.heap.size := by
  rcases Nat.lt_or_ge a.block w.heap.size with h' | h'
  · exact h'
  · simp [World.cell?, Array.getElem?_eq_none h'] at h
/-- a cell beside the row that is sorted -/
theorem cell_sorting {α : Type} [Inhabited α] (enc : α → Value) {w : World} {g m : Nat} {dk : Array α} {os : Array Obj} {a : Addr} {u : Value} (h : w.cell? a = some u) (hne : a.block ≠ g) : (Go.Proofs.sortWorld enc w g 0 m dk os).cell? a = some u := by
  unfold Go.Proofs.sortWorld
  rw [cell_grow (by
    have := cell_lt h
    show a.block < (Sort.putRow enc (Sort.ahead w m) g 0 dk).heap.size
    simpa [Sort.putRow, Sort.mapBlock, Sort.ahead] using this), Sort.cell?_putRow_other enc _ g 0 dk a (.inl hne)]
  exact h
/-- a row of two numbers that lies beside block g -/
def RowS (g : Nat) (w : World) (u : Value) (p : Int × Int) : Prop := ∃ b o c, u = .slice (some ⟨b, o, none⟩) 2 c ∧ b ≠ g ∧ w.cell? ⟨b, o, none⟩ = some (.int .i64 p.1) ∧ w.cell? ⟨b, o + 1, none⟩ = some (.int .i64 p.2) ∧ I64 p.1 ∧ I64 p.2
def pairL (p : Int × Int) : List Int := [p.1, p.2]
end Go.Ap
namespace Go.Proofs.YtbahddjbncinbaaGreatDoor
open Go.RowKit Go.Ap Go.Shelf Go.Proofs

attribute [local go_sem] Oper.semAt_some bs_toList empty_toList bs_size bs_extract
set_option maxRecDepth 100000 in
set_option maxHeartbeats 4000000 in
theorem cmp46 (b o c b' o' c' : Nat) (p q : Int × Int) (W : World) (h0 : W.cell? ⟨b, o, none⟩ = some (.int .i64 p.1)) (h1 : W.cell? ⟨b, o + 1, none⟩ = some (.int .i64 p.2)) (k0 : W.cell? ⟨b', o', none⟩ = some (.int .i64 q.1)) (k1 : W.cell? ⟨b', o' + 1, none⟩ = some (.int .i64 q.2)) :
    Calls Tryz.prog 46 #[.slice (some ⟨b, o, none⟩) 2 c, .slice (some ⟨b', o', none⟩) 2 c'] W fun e w' => e = .returned (.int .i64 (lexC p q)) ∧ w' = W := by
  have HX := Lib.hid (show ∀ i : Nat, i < 2 → W.cell? ⟨b, o + i, none⟩ = some (.int .i64 (pairF p i)) from fun i hi => by
    rcases Nat.eq_zero_or_pos i with rfl | h
    · exact h0
    · obtain rfl : i = 1 := by omega
      exact h1)
  have HY := Lib.hid (show ∀ i : Nat, i < 2 → W.cell? ⟨b', o' + i, none⟩ = some (.int .i64 (pairF q i)) from fun i hi => by
    rcases Nat.eq_zero_or_pos i with rfl | h
    · exact k0
    · obtain rfl : i = 1 := by omega
      exact k1)
  obtain ⟨X, hX⟩ : ∃ X, pairF p = X := ⟨_, rfl⟩
  obtain ⟨Y, hY⟩ : ∃ Y, pairF q = Y := ⟨_, rfl⟩
  have HC := Lib.hid (Tryz.cmp_Compare_int)
  obtain ⟨E, hE⟩ : ∃ E, lexC p q = E := ⟨_, rfl⟩
  have HE := Lib.hid (show E = lexF X Y (2 - 0) 0 by rw [← hE, ← hX, ← hY]; rfl)
  rw [hX] at HX
  rw [hY] at HY
  rw [hE]
  clear h0 h1 k0 k1 hX hY hE
  go_enter Tryz.func46, Tryz.ntmps46
  go_wp2_with (fail)
  go_loopw [11] (fun iv wr => ∃ i : Nat, i ≤ 2 ∧ iv = .int .i64 i ∧ W = wr ∧ E = lexF X Y (2 - i) i) (fun iv _ => 2 - (intOf iv).toNat)
  case atStart => exact ⟨0, by omega, rfl, rfl, HE.out⟩
  case round =>
    obtain ⟨i, hi, rfl, rfl, hE⟩ := hrel
    by_cases hin : i < 2
    · have hx := HX.out i hin
      have hy := HY.out i hin
      obtain ⟨x, hxx⟩ : ∃ x, X i = x := ⟨_, rfl⟩
      obtain ⟨y, hyy⟩ : ∃ y, Y i = y := ⟨_, rfl⟩
      rw [show 2 - i = (2 - (i + 1)) + 1 by omega, lexF, hxx, hyy] at hE
      have HE2 := Lib.hid hE
      rw [hxx] at hx
      rw [hyy] at hy
      have i1 : (i : Int) < 2 := by omega
      have d1 : decide (2 ≤ i) = false := by rw [decide_eq_false_iff_not]; omega
      have d2 : decide ((2 : Int) ≤ (i : Int)) = false := by rw [decide_eq_false_iff_not]; omega
      have d3 : decide (i < 2) = true := by rw [decide_eq_true_eq]; omega
      clear hE hxx hyy
      go_wp2_with (fail)
      refine (HC.out x y W).mono ?_
      rintro e w1 ⟨rfl, rfl⟩
      obtain ⟨c0, hc⟩ : ∃ c0, Lib.compareInt x y = c0 := ⟨_, rfl⟩
      rw [hc] at HE2 ⊢
      clear hc
      by_cases hz : c0 = 0
      · have HE3 := Lib.hid (show E = lexF X Y (2 - (i + 1)) (i + 1) by rw [HE2.out, if_pos hz])
        have dz : (c0 != 0) = false := by simp [hz]
        have dz' : (c0 == 0) = true := by simp [hz]
        clear hz
        go_wp2_with (fail)
        go_roundw
        case rel => exact ⟨i + 1, by omega, by simp, trivial, HE3.out⟩
        case measure => simp [intOf]; omega
      · have HE3 := Lib.hid (show E = c0 by rw [HE2.out, if_neg hz])
        have dz : (c0 != 0) = true := by simp [hz]
        have dz' : (c0 == 0) = false := by simp [hz]
        clear hz
        go_wp2_with (fail)
        go_ret
        exact ⟨by rw [HE3.out]; rfl, rfl⟩
    · have h2 : i = 2 := by omega
      have HE2 := Lib.hid (show E = 0 by rw [hE, h2]; rfl)
      have d3 : decide (i < 2) = false := by rw [decide_eq_false_iff_not]; omega
      have d4 : decide ((i : Int) < 2) = false := by rw [decide_eq_false_iff_not]; omega
      clear hE h2
      go_wp2_with (fail)
      go_ret
      exact ⟨by rw [HE2.out]; rfl, rfl⟩
theorem clo45 (b o c b' o' c' : Nat) (p q : Int × Int) (W : World) (h0 : W.cell? ⟨b, o, none⟩ = some (.int .i64 p.1)) (h1 : W.cell? ⟨b, o + 1, none⟩ = some (.int .i64 p.2)) (k0 : W.cell? ⟨b', o', none⟩ = some (.int .i64 q.1)) (k1 : W.cell? ⟨b', o' + 1, none⟩ = some (.int .i64 q.2)) :
    Calls Tryz.prog 45 #[.slice (some ⟨b, o, none⟩) 2 c, .slice (some ⟨b', o', none⟩) 2 c'] W fun e w' => e = .returned (.int .i64 (lexC p q)) ∧ w' = W := by
  have HC := Lib.hid (cmp46 b o c b' o' c' p q W h0 h1 k0 k1)
  clear h0 h1 k0 k1
  go_enter Tryz.func45, Tryz.ntmps45
  go_wp2_with (fail)
  refine HC.out.mono ?_
  rintro e w1 ⟨rfl, rfl⟩
  go_wp2_with (fail)
  go_ret
  exact ⟨rfl, rfl⟩
theorem sortRows (w : World) (g cap N : Nat) (hN : 0 < N) (h12 : N ≤ 12) (vs : List Value) (ps : List (Int × Int)) (hvl : vs.length = N) (hpl : ps.length = N)
    (hc : ∀ (k : Nat) (u : Value), vs[k]? = some u → w.cell? ⟨g, k, none⟩ = some u ∧ w.frozen? ⟨g, k, none⟩ = false) (hr : ∀ (k : Nat) (u : Value) (p : Int × Int), vs[k]? = some u → ps[k]? = some p → RowS g w u p) :
    Calls Tryz.prog 44 #[.slice (some ⟨g, 0, none⟩) N cap, .func (.func 45) #[] #[]] w fun e w' => e = .returned (.tuple #[]) ∧
      ∃ ps' : List (Int × Int), ps'.Perm ps ∧ (ps'.Pairwise fun p q => ¬ (q.1 < p.1 ∨ (q.1 = p.1 ∧ q.2 < p.2))) ∧ Rows2 w' (some ⟨g, 0, none⟩) N (ps'.map pairL) ∧ w'.os = w.os ∧ w'.tape = w.tape ∧ w'.output = w.output ∧ w'.heap.size = w.heap.size ∧ ∀ k, k ≠ g → w'.heap[k]? = w.heap[k]? := by
  have inst : Inhabited (Fin N) := ⟨⟨0, hN⟩⟩
  have hall : ∀ k : Fin N, ∃ t : (Nat × Nat × Nat) × (Int × Int), vs[k.val]? = some (.slice (some ⟨t.1.1, t.1.2.1, none⟩) 2 t.1.2.2) ∧ ps[k.val]? = some t.2 ∧ t.1.1 ≠ g ∧ w.cell? ⟨t.1.1, t.1.2.1, none⟩ = some (.int .i64 t.2.1) ∧ w.cell? ⟨t.1.1, t.1.2.1 + 1, none⟩ = some (.int .i64 t.2.2) ∧ I64 t.2.1 ∧ I64 t.2.2 := fun k => by
    have hv : vs[k.val]? = some vs[k.val] := List.getElem?_eq_getElem (by rw [hvl]; exact k.isLt)
    have hp : ps[k.val]? = some ps[k.val] := List.getElem?_eq_getElem (by rw [hpl]; exact k.isLt)
    obtain ⟨b, o, c, he, h1, h2, h3, h4, h5⟩ := hr _ _ _ hv hp
    exact ⟨((b, o, c), ps[k.val]), by rw [hv, he], hp, h1, h2, h3, h4, h5⟩
  obtain ⟨f, hf⟩ := Classical.axiomOfChoice hall
  let enc : Fin N → Value := fun k => .slice (some ⟨(f k).1.1, (f k).1.2.1, none⟩) 2 (f k).1.2.2
  let d : Array (Fin N) := Array.ofFn id
  have hds : d.size = N := Array.size_ofFn
  have hdi : ∀ j (hj : j < N), d[j]! = ⟨j, hj⟩ := fun j hj => by
    rw [getElem!_pos d j (by rw [hds]; exact hj)]
    simp [d]
  have hH : Sort.Holds enc w g 0 d := fun j hj => by
    rw [hds] at hj
    rw [hdi j hj, Nat.zero_add]
    exact hc j _ (hf ⟨j, hj⟩).1
  have H := Any.slices_SortFunc_small_sorted Tryz.laysSort44 enc (fun k => rfl) (fun x y => lexC (f x).2 (f y).2) (swo_lex fun k => (f k).2) 45 #[] g 0 cap d w
    (enters_of Tryz.func45 (by kernel_rfl) rfl)
    (fun m os dk _ x y => (clo45 _ _ _ _ _ _ (f x).2 (f y).2 _ (cell_sorting enc (hf x).2.2.2.1 (hf x).2.2.1) (cell_sorting enc (hf x).2.2.2.2.1 (hf x).2.2.1) (cell_sorting enc (hf y).2.2.2.1 (hf y).2.2.1) (cell_sorting enc (hf y).2.2.2.2.1 (hf y).2.2.1)).mono fun e w' ⟨he, hw⟩ => ⟨he, 0, hw⟩)
    hH (by rw [hds]; exact h12) (fun n W hn => (Tryz.bits_Len (n : Int) W (by omega) (by omega)).mono fun e w' ⟨he, hw⟩ => ⟨⟨_, he⟩, hw⟩)
  rw [hds] at H
  refine H.mono fun e w' ⟨he, d', n, hperm, hsort, hw⟩ => ⟨he, d'.toList.map (fun k => (f k).2), ?_, ?_, ?_, ?_⟩
  · obtain ⟨h1, _, h3⟩ := hperm
    rw [hds] at h1
    rw [Array.extract_eq_self_of_le (by rw [h1]; exact Nat.le_refl _), Array.extract_eq_self_of_le (by rw [hds]; exact Nat.le_refl _)] at h3
    refine (h3.map _).trans (List.Perm.of_eq ?_)
    apply List.ext_getElem?
    intro j
    rw [List.getElem?_map]
    by_cases hj : j < N
    · rw [(hf ⟨j, hj⟩).2.1]
      simp [d, hj]
    · rw [List.getElem?_eq_none (by rw [Array.length_toList, hds]; omega), List.getElem?_eq_none (by rw [hpl]; omega)]
      rfl
  · obtain ⟨h1, _, _⟩ := hperm
    rw [hds] at h1
    rw [List.pairwise_map, List.pairwise_iff_getElem]
    intro i j hi hj hij
    have hi' : i < d'.size := by simpa using hi
    have hj' : j < d'.size := by simpa using hj
    have := hsort i j (Nat.zero_le _) hij (by omega)
    rw [getElem!_pos d' i hi', getElem!_pos d' j hj'] at this
    unfold ltOf at this
    rw [decide_eq_false_iff_not, lexC_neg] at this
    simpa using this
  · obtain ⟨h1, _, _⟩ := hperm
    subst hw
    refine ⟨by simp [h1, hds], by omega, fun k xs hk => ?_⟩
    rw [List.getElem?_map, List.getElem?_map, Option.map_map] at hk
    obtain ⟨t, ht, rfl⟩ := Option.map_eq_some_iff.1 hk
    rw [Array.getElem?_toList] at ht
    obtain ⟨hkl, hkt⟩ := Array.getElem?_eq_some_iff.1 ht
    have hcl := (Sort.holds_putRow enc w g 0 d d' hH h1 k hkl).1
    rw [getElem!_pos d' k hkl, hkt, Nat.zero_add] at hcl
    refine ⟨g, 0, _, rfl, by rw [Nat.zero_add]; exact hcl, _, 2, _, rfl, ?_⟩
    have c1 : ((Sort.putRow enc w g 0 d').drewN n).cell? ⟨(f t).1.1, (f t).1.2.1, none⟩ = some (.int .i64 (f t).2.1) := (Sort.cell?_putRow_other enc w g 0 d' _ (.inl (hf t).2.2.1)).trans (hf t).2.2.2.1
    have c2 : ((Sort.putRow enc w g 0 d').drewN n).cell? ⟨(f t).1.1, (f t).1.2.1 + 1, none⟩ = some (.int .i64 (f t).2.2) := (Sort.cell?_putRow_other enc w g 0 d' _ (.inl (hf t).2.2.1)).trans (hf t).2.2.2.2.1
    exact ⟨rfl, by omega, fun j z hj => by
      match j, hj with
      | 0, hj => simp [pairL] at hj; subst hj; exact ⟨_, _, _, rfl, c1, rfl, (hf t).2.2.2.2.2.1⟩
      | 1, hj => simp [pairL] at hj; subst hj; exact ⟨_, _, _, rfl, c2, rfl, (hf t).2.2.2.2.2.2⟩
      | j + 2, hj => simp [pairL] at hj⟩
  · subst hw
    refine ⟨rfl, rfl, rfl, by simp [Sort.putRow, Sort.mapBlock], fun k hk => ?_⟩
    show (w.heap.modify g _)[k]? = _
    rw [Array.getElem?_modify, if_neg (Ne.symm hk)]
end Go.Proofs.YtbahddjbncinbaaGreatDoor
