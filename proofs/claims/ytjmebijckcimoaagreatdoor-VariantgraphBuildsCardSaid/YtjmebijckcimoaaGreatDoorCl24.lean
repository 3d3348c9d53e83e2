/-
  The tables of Check (program).
-/
import Derived.Test.YtjmebijckcimoaaGreatDoorVgk
namespace Go.Ap
open Go Go.RowKit
theorem BlkK.other24 {W : World} {b c j : Nat} {cs : Array Value} {t : TypeId} {v : Value} (h : BlkK W b cs t) (hne : b ≠ c) : BlkK (W.setCell ⟨c, j, none⟩ v) b cs t :=
  (Below.heap_setCell _ _ _ b hne).trans h
theorem endsOf_len (s : Int) (l : List Vg.Arc) : (Vg.endsOf s l).length ≤ l.length := by
  unfold Vg.endsOf
  rw [List.length_map]
  exact List.length_filter_le _ _
theorem outE_le (s k : Int) (l : List Vg.Arc) : Vg.outE (Vg.endsOf s l) k ≤ l.length := Nat.le_trans List.countP_le_length (endsOf_len s l)
theorem inE_le (s k : Int) (l : List Vg.Arc) : Vg.inE (Vg.endsOf s l) k ≤ l.length := Nat.le_trans List.countP_le_length (endsOf_len s l)
theorem take_fresh {src : List Int} {j : Nat} {y : Int} (h : src.Pairwise (· < ·)) (hy : src[j]? = some y) : y ∉ src.take j := fun hm => by
  obtain ⟨k, hk, rfl⟩ := List.getElem_of_mem hm
  rw [List.length_take] at hk
  obtain ⟨hj, he⟩ := List.getElem?_eq_some_iff.1 hy
  rw [List.getElem_take] at he
  have := List.pairwise_iff_getElem.1 h k j (by omega) hj (by omega)
  omega
end Go.Ap
namespace Go.Proofs.YtjmebijckcimoaaGreatDoor
open Go.RowKit Go.Ap Go.Shelf Go.Proofs
theorem infoT24 : (Tryz.prog.info? 88).map (fun i => (i.zero.map (·.cells), i.size, i.bytes)) = some (some (Array.replicate 32 (.int .i64 0)), 32, 256) := by kernel_rfl
theorem infoB24 : (Tryz.prog.info? 4).map (fun i => (i.zero, i.size, i.bytes)) = some (some (.bool false), 1, 1) := by kernel_rfl
def boolN (n : Nat) (f : Nat → Bool) : List Value := (List.range n).map fun k => Value.bool (f k)
theorem boolN_len (n : Nat) (f : Nat → Bool) : (boolN n f).length = n := by simp [boolN]
theorem boolN_at {n k : Nat} (f : Nat → Bool) (h : k < n) : (boolN n f)[k]? = some (.bool (f k)) := by
  unfold boolN
  rw [List.getElem?_map, List.getElem?_range h]
  rfl
theorem boolN_ext {n : Nat} {f g : Nat → Bool} (h : ∀ k, k < n → f k = g k) : boolN n f = boolN n g := List.map_congr_left fun k hk => by rw [h k (List.mem_range.1 hk)]
theorem boolN_set {n k : Nat} (f : Nat → Bool) (v : Bool) : (boolN n f).set k (.bool v) = boolN n fun j => if j = k then v else f j := by
  apply List.ext_getElem?
  intro i
  rw [List.getElem?_set]
  by_cases hi : i < n
  · rw [boolN_at f hi, boolN_at _ hi, boolN_len]
    by_cases hk : k = i
    · subst hk; simp [hi]
    · simp [hk, Ne.symm hk]
  · rw [List.getElem?_eq_none (by rw [boolN_len]; omega), List.getElem?_eq_none (l := boolN n _) (by rw [boolN_len]; omega), boolN_len]
    by_cases hk : k = i
    · subst hk; simp [hi]
    · simp [hk]
theorem boolN_zero (n : Nat) : (boolN n fun _ => false).toArray = Array.replicate n (.bool false) := by
  unfold boolN
  rw [List.map_const', List.length_range]
  simp
theorem tabN_ext {n m : Nat} {F G : Nat → Nat → Nat} (h : ∀ a b, a < n → b < m → F a b = G a b) : tabN n m F = tabN n m G := by
  unfold tabN
  have h1 : ∀ f, f ∈ List.range n → (List.range m).map (fun s => Value.int .i64 ((F f s : Nat) : Int)) = (List.range m).map (fun s => Value.int .i64 ((G f s : Nat) : Int)) := fun f hf => List.map_congr_left fun s hs => by rw [h f s (List.mem_range.1 hf) (List.mem_range.1 hs)]
  rw [List.flatMap_def, List.flatMap_def, List.map_congr_left h1]
theorem make_tab (n : Nat) (hn : n ≤ 4096) (w : World) : (Instr.makeSlice 85 (.int .i64 n) (.int .i64 n)).run Tryz.prog w = .ok (.slice (some ⟨w.heap.size, 0, none⟩) n n) (w.alloc (.cells (tabN n 32 fun _ _ => 0).toArray 88)) := by
  obtain ⟨i, hi, hz⟩ := Option.map_eq_some_iff.1 infoT24
  simp only [Prod.mk.injEq] at hz
  obtain ⟨hz, hs, hb⟩ := hz
  obtain ⟨z, hz0, hzc⟩ := Option.map_eq_some_iff.1 hz
  have h := run_make (P := Tryz.prog) w 85 88 i z Tryz.underlying85 hi hz0 .i64 .i64 n n (by omega) (Int.le_refl _) (by rw [hb]; omega) (by omega)
  simp only [Int.toNat_natCast, hs, hzc] at h
  rw [h]
  have : madeCells (Array.replicate 32 (.int .i64 0)) (n * 32) = (tabN n 32 fun _ _ => 0).toArray := by
    rw [tabN_zero]
    apply Array.ext
    · simp [madeCells]
    · intro k h1 h2
      have : k % 32 < 32 := Nat.mod_lt _ (by decide)
      simp [madeCells, this]
  rw [this]
theorem make_bools24 (n : Nat) (hn : n ≤ 4096) (w : World) : (Instr.makeSlice 86 (.int .i64 n) (.int .i64 n)).run Tryz.prog w = .ok (.slice (some ⟨w.heap.size, 0, none⟩) n n) (w.alloc (.cells (boolN n fun _ => false).toArray 4)) := by
  obtain ⟨i9, hi9, hy0, hy1, hy2⟩ := info_parts infoB24
  have h := run_make_row (P := Tryz.prog) 86 4 i9 (.bool false) Tryz.underlying86 hi9 hy0 hy1 rfl .i64 .i64 n (by rw [hy2]; omega) (by omega) w
  rw [h, boolN_zero]
  have : madeCells #[Value.bool false] n = Array.replicate n (.bool false) := by
    apply Array.ext
    · simp [madeCells]
    · intro k h1 h2
      simp [madeCells, Nat.mod_one]
  rw [this]
/-- the two tables, just made -/
structure TabsT (wb W : World) (E L n : Nat) : Prop where
  ent : BlkK W E (tabN n 32 fun _ _ => 0).toArray 88
  lef : BlkK W L (tabN n 32 fun _ _ => 0).toArray 88
  ne : E ≠ L
  geE : wb.heap.size ≤ E
  geL : wb.heap.size ≤ L
  below : Below wb.heap.size wb W
theorem tabs1 (wb : World) (n : Nat) : TabsT wb ((wb.drew.alloc (.cells (tabN n 32 fun _ _ => 0).toArray 88)).alloc (.cells (tabN n 32 fun _ _ => 0).toArray 88)) wb.heap.size (wb.heap.size + 1) n := by
  have hb := bstep (bstep (bdrewN wb 1) (balloc wb.drew (.cells (tabN n 32 fun _ _ => 0).toArray 88))) (balloc (wb.drew.alloc (.cells (tabN n 32 fun _ _ => 0).toArray 88)) (.cells (tabN n 32 fun _ _ => 0).toArray 88))
  refine ⟨?_, ?_, by omega, Nat.le_refl _, by omega, hb⟩
  · exact (BlkK.new wb.drew (tabN n 32 fun _ _ => 0).toArray 88).allocK _
  · have := BlkK.new (wb.drew.alloc (.cells (tabN n 32 fun _ _ => 0).toArray 88)) (tabN n 32 fun _ _ => 0).toArray 88
    rw [World.size_alloc] at this
    exact this
theorem tabs2 (wb : World) (n : Nat) : TabsT wb ((wb.drew.alloc (.cells (tabN n 32 fun _ _ => 0).toArray 88)).alloc (.cells (tabN n 32 fun _ _ => 0).toArray 88)) (wb.heap.size + 1) wb.heap.size n := by
  have h := tabs1 wb n
  exact ⟨h.lef, h.ent, Ne.symm h.ne, h.geL, h.geE, h.below⟩
/-- what the check has counted of some arcs -/
structure CkS (W : World) (E L S G n : Nat) (l : List Vg.Arc) : Prop where
  ent : BlkK W E (tabN n 32 fun k s => Vg.inE (Vg.endsOf s l) k).toArray 88
  lef : BlkK W L (tabN n 32 fun k s => Vg.outE (Vg.endsOf s l) k).toArray 88
  som : BlkK W S (boolN n fun k => decide (∃ a ∈ l, a.1.1 = (k : Int) ∨ a.1.2 = (k : Int))).toArray 4
  goo : BlkK W G (boolN 32 fun s => decide (∃ a ∈ l, (s : Int) ∈ a.2)).toArray 87
section
variable {W W' : World} {E L S G n : Nat} {l : List Vg.Arc}
theorem CkS.below (h : CkS W E L S G n l) (hb : Below W.heap.size W W') : CkS W' E L S G n l := ⟨h.ent.below hb, h.lef.below hb, h.som.below hb, h.goo.below hb⟩
theorem CkS.drew (h : CkS W E L S G n l) : CkS W.drew E L S G n l := h.below (bdrewN W 1)
/-- both ends of an arc are marked -/
theorem CkS.ends (h : CkS W E L S G n l) (hE : E ≠ S) (hL : L ≠ S) (hG : G ≠ S) (f t : Nat) : CkS ((W.setCell ⟨S, f, none⟩ (.bool true)).setCell ⟨S, t, none⟩ (.bool true)) E L S G n (l ++ [(((f : Int), (t : Int)), [])]) := by
  have h0 : ∀ s : Int, Vg.endsOf s (l ++ [(((f : Int), (t : Int)), [])]) = Vg.endsOf s l := fun s => by rw [Vg.endsOf_snoc]; simp
  refine ⟨?_, ?_, ?_, ?_⟩
  · simp only [h0]; exact (h.ent.other24 hE).other24 hE
  · simp only [h0]; exact (h.lef.other24 hL).other24 hL
  · have := (h.som.put (i := f) (v := .bool true)).put (i := t) (v := .bool true)
    rw [List.setIfInBounds_toArray, List.setIfInBounds_toArray, boolN_set, boolN_set] at this
    rw [boolN_ext (g := fun j => if j = t then true else if j = f then true else decide (∃ a ∈ l, a.1.1 = (j : Int) ∨ a.1.2 = (j : Int)))]
    · exact this
    · intro k _
      by_cases hk : k = t
      · rw [if_pos hk]
        exact decide_eq_true ⟨_, List.mem_append_right _ (List.mem_singleton.2 rfl), .inr (by simp [hk])⟩
      · rw [if_neg hk]
        by_cases hf : k = f
        · rw [if_pos hf]
          exact decide_eq_true ⟨_, List.mem_append_right _ (List.mem_singleton.2 rfl), .inl (by simp [hf])⟩
        · rw [if_neg hf, decide_eq_decide]
          constructor
          · rintro ⟨a, ha, hx⟩
            rcases List.mem_append.1 ha with ha | ha
            · exact ⟨a, ha, hx⟩
            · rw [List.mem_singleton] at ha
              subst ha
              simp at hx
              omega
          · rintro ⟨a, ha, hx⟩
            exact ⟨a, List.mem_append_left _ ha, hx⟩
  · have h1 : ∀ s : Int, (∃ a ∈ l ++ [(((f : Int), (t : Int)), ([] : List Int))], s ∈ a.2) ↔ ∃ a ∈ l, s ∈ a.2 := fun s => by simp
    simp only [h1]
    exact (h.goo.other24 hG).other24 hG
/-- one more source of the arc -/
theorem CkS.src {f t s : Nat} {q : List Int} (h : CkS W E L S G n (l ++ [(((f : Int), (t : Int)), q)])) (hs : (s : Int) ∉ q) (hs2 : s < 32) (hf : f < n) (ht : t < n) (h1 : E ≠ L) (h2 : E ≠ G) (h3 : L ≠ G) (h4 : S ≠ E) (h5 : S ≠ L) (h6 : S ≠ G) :
    CkS (((W.setCell ⟨G, s, none⟩ (.bool true)).setCell ⟨L, f * 32 + s, none⟩ (.int .i64 ((Vg.outE (Vg.endsOf s (l ++ [(((f : Int), (t : Int)), q)])) f + 1 : Nat) : Int))).setCell ⟨E, t * 32 + s, none⟩ (.int .i64 ((Vg.inE (Vg.endsOf s (l ++ [(((f : Int), (t : Int)), q)])) t + 1 : Nat) : Int))) E L S G n (l ++ [(((f : Int), (t : Int)), q ++ [(s : Int)])]) := by
  have hm : ∀ k : Nat, ((k : Int) ∈ q ++ [(s : Int)]) ↔ ((k : Int) ∈ q ∨ k = s) := fun k => by rw [List.mem_append, List.mem_singleton, Int.natCast_inj]
  refine ⟨?_, ?_, ?_, ?_⟩
  · have := ((h.ent.other24 (c := G) (j := s) (v := .bool true) h2).other24 (c := L) (j := f * 32 + s) (v := .int .i64 ((Vg.outE (Vg.endsOf s (l ++ [(((f : Int), (t : Int)), q)])) f + 1 : Nat) : Int)) h1).put (i := t * 32 + s) (v := .int .i64 ((Vg.inE (Vg.endsOf s (l ++ [(((f : Int), (t : Int)), q)])) t + 1 : Nat) : Int))
    rw [List.setIfInBounds_toArray, tabN_set _ ht hs2] at this
    rw [tabN_ext]
    · exact this
    · intro a b ha hb
      rw [Vg.inE_snoc]
      simp only [hm]
      rw [Vg.inE_snoc, Vg.inE_snoc]
      by_cases hx : a = t ∧ b = s
      · obtain ⟨rfl, rfl⟩ := hx
        simp [hs]
      · rw [if_neg hx]
        congr 1
        by_cases hb : b = s
        · have hat : ¬(t : Int) = (a : Int) := fun h => hx ⟨by omega, hb⟩
          simp [hat]
        · simp [hb]
  · have := (((h.lef.other24 (c := G) (j := s) (v := .bool true) h3).put (i := f * 32 + s) (v := .int .i64 ((Vg.outE (Vg.endsOf s (l ++ [(((f : Int), (t : Int)), q)])) f + 1 : Nat) : Int))).other24 (c := E) (j := t * 32 + s) (v := .int .i64 ((Vg.inE (Vg.endsOf s (l ++ [(((f : Int), (t : Int)), q)])) t + 1 : Nat) : Int)) (Ne.symm h1))
    rw [List.setIfInBounds_toArray, tabN_set _ hf hs2] at this
    rw [tabN_ext]
    · exact this
    · intro a b ha hb
      rw [Vg.outE_snoc]
      simp only [hm]
      rw [Vg.outE_snoc, Vg.outE_snoc]
      by_cases hx : a = f ∧ b = s
      · obtain ⟨rfl, rfl⟩ := hx
        simp [hs]
      · rw [if_neg hx]
        congr 1
        by_cases hb : b = s
        · have hat : ¬(f : Int) = (a : Int) := fun h => hx ⟨by omega, hb⟩
          simp [hat]
        · simp [hb]
  · rw [boolN_ext (g := fun k => decide (∃ a ∈ l ++ [(((f : Int), (t : Int)), q)], a.1.1 = (k : Int) ∨ a.1.2 = (k : Int)))]
    · exact ((h.som.other24 h6).other24 h5).other24 h4
    · intro k _
      rw [decide_eq_decide]
      simp
  · have := ((h.goo.put (i := s) (v := .bool true)).other24 (c := L) (j := f * 32 + s) (v := .int .i64 ((Vg.outE (Vg.endsOf s (l ++ [(((f : Int), (t : Int)), q)])) f + 1 : Nat) : Int)) (Ne.symm h3)).other24 (c := E) (j := t * 32 + s) (v := .int .i64 ((Vg.inE (Vg.endsOf s (l ++ [(((f : Int), (t : Int)), q)])) t + 1 : Nat) : Int)) (Ne.symm h2)
    rw [List.setIfInBounds_toArray, boolN_set] at this
    rw [boolN_ext (g := fun j => if j = s then true else decide (∃ a ∈ l ++ [(((f : Int), (t : Int)), q)], (j : Int) ∈ a.2))]
    · exact this
    · intro k _
      by_cases hk : k = s
      · rw [if_pos hk]
        exact decide_eq_true ⟨_, List.mem_append_right _ (List.mem_singleton.2 rfl), by simp [hk]⟩
      · rw [if_neg hk, decide_eq_decide]
        constructor
        · rintro ⟨a, ha, hx⟩
          rcases List.mem_append.1 ha with ha | ha
          · exact ⟨a, List.mem_append_left _ ha, hx⟩
          · rw [List.mem_singleton] at ha
            subst ha
            refine ⟨_, List.mem_append_right _ (List.mem_singleton.2 rfl), ?_⟩
            exact ((hm k).1 hx).resolve_right hk
        · rintro ⟨a, ha, hx⟩
          rcases List.mem_append.1 ha with ha | ha
          · exact ⟨a, List.mem_append_left _ ha, hx⟩
          · rw [List.mem_singleton] at ha
            subst ha
            exact ⟨_, List.mem_append_right _ (List.mem_singleton.2 rfl), (hm k).2 (.inl hx)⟩
end
def zb32 : Array Value := #[.bool false, .bool false, .bool false, .bool false, .bool false, .bool false, .bool false, .bool false, .bool false, .bool false, .bool false, .bool false, .bool false, .bool false, .bool false, .bool false, .bool false, .bool false, .bool false, .bool false, .bool false, .bool false, .bool false, .bool false, .bool false, .bool false, .bool false, .bool false, .bool false, .bool false, .bool false, .bool false]
theorem zb32_is : zb32 = (boolN 32 fun _ => false).toArray := by rw [boolN_zero]; rfl
theorem CkS.new {wb W5 : World} {E L n : Nat} (h : TabsT wb W5 E L n) : CkS ((W5.alloc (.cells (boolN n fun _ => false).toArray 4)).alloc (.cells zb32 87)) E L W5.heap.size (W5.heap.size + 1) n [] where
  ent := by
    have := (h.ent.allocK (.cells (boolN n fun _ => false).toArray 4)).allocK (.cells zb32 87)
    simpa [Vg.endsOf, Vg.inE] using this
  lef := by
    have := (h.lef.allocK (.cells (boolN n fun _ => false).toArray 4)).allocK (.cells zb32 87)
    simpa [Vg.endsOf, Vg.outE] using this
  som := by
    have := (BlkK.new W5 (boolN n fun _ => false).toArray 4).allocK (.cells zb32 87)
    simpa using this
  goo := by
    have := BlkK.new (W5.alloc (.cells (boolN n fun _ => false).toArray 4)) zb32 87
    rw [World.size_alloc] at this
    rw [zb32_is] at this ⊢
    simpa using this
theorem index_goes {GA : Array Value} {s : Nat} {g : Bool} (hs : s < 32) (h : GA[s]? = some (.bool g)) (w : World) : (Instr.index 87 (.agg GA) (.int .i64 s)).run Tryz.prog w = .ok (.bool g) w := by
  obtain ⟨i9, hi9, hy0, hy1, hy2⟩ := info_parts infoB24
  have h2 : (0 : Int) ≤ (s : Int) := by omega
  simp [Instr.index, run_underlying Tryz.underlying87, run_underlying Tryz.underlying4, asIntOf, sizeOf, typeInfo, hi9, hy1, part, isAgg, h, h2, go_sem]
  intro hc
  omega
end Go.Proofs.YtjmebijckcimoaaGreatDoor
