import Derived.Test.YtjmebijckcimoaaGreatDoorGx24
import Derived.Test.YtjmebijckcimoaaGreatDoorAr
import Derived.Test.YtjmebijckcimoaaGreatDoorGl24




namespace Go.Ap
open Go Go.RowKit Go.Maps
theorem OwnTb.keptG {w w' : World} {base : Nat} {tv : Value} {xss : List (List Int)} {row : Option Nat} (h : OwnTb w base tv xss) (hg : w.grownBy w' row)
    (hr : ∀ (e : TypeId) (v : Value) (n : Nat) (xs : List Value), w.ownsRow base e 1 v n xs → (e = 44 ∨ e = 3) → v.ownBlock = none ∨ v.ownBlock ≠ row) : OwnTb w' base tv xss := by
  obtain ⟨vs, h1, h2, h3⟩ := h
  exact ⟨vs, h1.kept hg (hr _ _ _ _ h1 (.inl rfl)), fun k xs hk => by obtain ⟨u, hu, ho⟩ := h2 k xs hk; exact ⟨u, hu, ho.kept hg (hr _ _ _ _ ho.1 (.inr rfl))⟩, h3⟩
def nodeN {α : Type} [DecidableEq α] (cs : List (List (Option α))) (k : Nat) (t : α) : Nat := 1 + (Vg.nodesL (cs.take k)).length + (Vg.colN (cs.getD k [])).idxOf t
theorem nodeN_le {α : Type} [DecidableEq α] {cs : List (List (Option α))} {n k : Nat} (hr : ∀ c ∈ cs, c.length = n) (hk : k < cs.length) (t : α) : nodeN cs k t ≤ 1 + k * n + n := by
  unfold nodeN
  have h1 := nodes_le (cs.take k) n fun c hc => hr c (List.mem_of_mem_take hc)
  have h2 : (cs.take k).length * n ≤ k * n := Nat.mul_le_mul_right _ (by rw [List.length_take]; omega)
  have hd : cs.getD k [] = cs[k] := by simp [List.getD, hk]
  have h3 := colN_le (cs.getD k [])
  rw [hd, hr _ (List.getElem_mem hk)] at h3
  have h4 := List.idxOf_le_length (a := t) (l := Vg.colN cs[k])
  rw [hd]
  omega
/-- the map of nodes when of column k the sources below i are done -/
def MapsB (cs : List (List (Option Str))) (k i : Nat) (f : Int × Str → Option Value) : Prop :=
  (∀ t, f ((k : Int), t) = if t ∈ Vg.colN ((cs.getD k []).take i) then some (.int .i64 ((nodeN cs k t : Nat) : Int)) else none) ∧ ∀ (c : Int) t, (k : Int) < c → f (c, t) = none
section
variable {cs : List (List (Option Str))} {k i : Nat} {f : Int × Str → Option Value} {c : List (Option Str)} {u : Str}
theorem MapsB.zero (cs : List (List (Option Str))) : MapsB cs 0 0 (fun _ => none) := ⟨fun t => by simp [Vg.colN], fun _ _ _ => rfl⟩
theorem MapsB.col (h : MapsB cs k i f) : MapsB cs (k + 1) 0 f := ⟨fun t => by rw [h.2 _ t (by omega)]; simp [Vg.colN], fun d t hd => h.2 d t (by omega)⟩
theorem MapsB.gap (h : MapsB cs k i f) (hc : cs[k]? = some c) (hi : c[i]? = some none) : MapsB cs k (i + 1) f := by
  have hd : cs.getD k [] = c := by simp [List.getD, hc]
  refine ⟨fun t => ?_, h.2⟩
  have h1 := h.1 t
  rw [hd] at h1 ⊢
  rw [Vg.take_next hi, Vg.colN_snoc]
  exact h1
theorem MapsB.old (h : MapsB cs k i f) (hc : cs[k]? = some c) (hi : c[i]? = some (some u)) (hm : u ∈ Vg.colN (c.take i)) : MapsB cs k (i + 1) f := by
  have hd : cs.getD k [] = c := by simp [List.getD, hc]
  refine ⟨fun t => ?_, h.2⟩
  have h1 := h.1 t
  rw [hd] at h1 ⊢
  rw [Vg.take_next hi, Vg.colN_snoc]
  unfold Vg.addN
  simp only [if_pos hm]
  exact h1
theorem MapsB.new (h : MapsB cs k i f) (hc : cs[k]? = some c) (hi : c[i]? = some (some u)) (hm : u ∉ Vg.colN (c.take i)) : MapsB cs k (i + 1) (updV f ((k : Int), u) (.int .i64 ((nodeN cs k u : Nat) : Int))) := by
  have hd : cs.getD k [] = c := by simp [List.getD, hc]
  refine ⟨fun t => ?_, fun d t hdk => ?_⟩
  · have h1 := h.1 t
    rw [hd] at h1 ⊢
    rw [Vg.take_next hi, Vg.colN_snoc]
    unfold Vg.addN updV
    simp only [if_neg hm]
    by_cases ht : t = u
    · subst ht
      rw [if_pos rfl, if_pos (by simp)]
    · rw [if_neg (fun e => ht (Prod.mk.injEq .. ▸ e).2), h1]
      simp [ht]
  · unfold updV
    rw [if_neg (fun e => by have := (Prod.mk.injEq .. ▸ e).1; omega)]
    exact h.2 d t hdk
end
def rowsB (cs : List (List (Option Str))) (n k i : Nat) : List (List Int) := (List.range n).map (Vg.pathB cs k i)
section
variable {cs : List (List (Option Str))} {n k i s : Nat} {c : List (Option Str)} {u : Str}
theorem rowsB_len (cs : List (List (Option Str))) (n k i : Nat) : (rowsB cs n k i).length = n := by simp [rowsB]
theorem rowsB_at (hs : s < n) : (rowsB cs n k i)[s]? = some (Vg.pathB cs k i s) := by
  unfold rowsB
  rw [List.getElem?_map, List.getElem?_range hs]
  rfl
theorem rowsB_gap (hc : cs[k]? = some c) (hi : c[i]? = some none) : rowsB cs n k (i + 1) = rowsB cs n k i := List.map_congr_left fun s _ => Vg.pathB_gap hc hi s
theorem rowsB_text (hc : cs[k]? = some c) (hi : c[i]? = some (some u)) : (rowsB cs n k i).set i (Vg.pathB cs k i i ++ [((nodeN cs k u : Nat) : Int)]) = rowsB cs n k (i + 1) := by
  have hd : cs.getD k [] = c := by simp [List.getD, hc]
  apply List.ext_getElem?
  intro s
  by_cases hs : s < n
  · rw [rowsB_at hs, Vg.pathB_text hc hi]
    by_cases e : i = s
    · subst e
      rw [List.getElem?_set_self (by rw [rowsB_len]; exact hs), if_pos rfl]
      unfold nodeN
      rw [hd]
    · rw [List.getElem?_set_ne e, rowsB_at hs, if_neg (fun h => e h.symm)]
  · rw [List.getElem?_eq_none (by rw [List.length_set, rowsB_len]; omega), List.getElem?_eq_none (by rw [rowsB_len]; omega)]
theorem rowsB_col (hc : cs[k]? = some c) (hl : c.length = n) : rowsB cs n k n = rowsB cs n (k + 1) 0 := by
  refine List.map_congr_left fun s hs => ?_
  have := Vg.pathB_col hc (s := s) (by rw [hl]; exact List.mem_range.1 hs)
  rwa [hl] at this
theorem pathF_len : ∀ (cs : List (List (Option Str))) (b s : Nat), (Vg.pathF b cs s).length ≤ cs.length
  | [], _, _ => by simp [Vg.pathF]
  | c :: r, b, s => by
    have := pathF_len r (b + (Vg.colN c).length) s
    unfold Vg.pathF
    rw [List.length_append, List.length_cons]
    split
    · simp; omega
    · simp; omega
theorem fullP_len (cs : List (List (Option Str))) (s : Nat) : (Vg.fullP cs s).length ≤ cs.length + 2 := by
  unfold Vg.fullP
  have := pathF_len cs 1 s
  simp
  omega
theorem pathB_len (cs : List (List (Option Str))) (k i s : Nat) : (Vg.pathB cs k i s).length ≤ k + 2 := by
  unfold Vg.pathB
  have h1 := pathF_len (cs.take k) 1 s
  have h2 := List.length_take_le k cs
  rw [List.length_cons, List.length_append]
  have : (cs.take k).length ≤ k := by rw [List.length_take]; omega
  split
  · split
    · simp; omega
    · simp; omega
  · simp; omega
theorem wordsB_len (hr : ∀ c ∈ cs, c.length = n) (z : Str) (k i : Nat) : (Vg.wordsB z cs k i).length ≤ 1 + k * n + i := by
  unfold Vg.wordsB
  have h1 := nodes_le (cs.take k) n fun c hc => hr c (List.mem_of_mem_take hc)
  have h2 : (cs.take k).length * n ≤ k * n := Nat.mul_le_mul_right _ (by rw [List.length_take]; omega)
  have h3 := colN_le ((cs.getD k []).take i)
  have h4 : ((cs.getD k []).take i).length ≤ i := by rw [List.length_take]; omega
  rw [List.length_cons, List.length_append]
  omega
end
end Go.Ap
namespace Go.Proofs.YtjmebijckcimoaaGreatDoor
open Go.RowKit Go.Ap Go.Shelf Go.Proofs Go.Maps
/-- what the rounds of Build keep -/
structure BdI (w1 : World) (S3 bm Tb n1 m : Nat) (wv : Value) (us : List Str) (f : Int × Str → Option Value) (xss : List (List Int)) (W : World) : Prop where
  words : OwnS W S3 wv us
  map : MapH tNd W bm m f
  tab : OwnTb W S3 (.slice (some ⟨Tb, 0, none⟩) n1 n1) xss
  len : xss.length = n1
  bel : Below S3 w1 W
  sz : S3 ≤ W.heap.size
  bmS : S3 ≤ bm
section
variable {w1 : World} {S3 bm Tb n1 m : Nat} {wv : Value} {us : List Str} {f : Int × Str → Option Value} {xss : List (List Int)} {W W' : World}
theorem BdI.below (h : BdI w1 S3 bm Tb n1 m wv us f xss W) (hb : Below W.heap.size W W') : BdI w1 S3 bm Tb n1 m wv us f xss W' :=
  ⟨h.words.below hb, h.map.below hb, h.tab.below hb, h.len, h.bel.trans (hb.mono h.sz), Nat.le_trans h.sz hb.size, h.bmS⟩
theorem BdI.mapped {m' : Nat} {f' : Int × Str → Option Value} (h : BdI w1 S3 bm Tb n1 m wv us f xss W) (hg : W.grownBy W' (some bm)) (hm : MapH tNd W' bm m' f') : BdI w1 S3 bm Tb n1 m' wv us f' xss W' := by
  obtain ⟨o, ho, hoc⟩ := h.map.obj
  exact ⟨World.ownsRow.kept h.words hg (own_not h.words ho hoc), hm, h.tab.keptG hg fun e v n xs hr _ => own_not hr ho hoc, h.len, h.bel.grown hg h.sz fun k hk => (by cases hk; exact h.bmS), Nat.le_trans h.sz hg.size, h.bmS⟩
theorem BdI.word {tmp : Obj} {wv' : Value} {us' : List Str} (h : BdI w1 S3 bm Tb n1 m wv us f xss W) (hg : (W.alloc tmp).grownBy W' wv.ownBlock) (hw : OwnS W' S3 wv' us') : BdI w1 S3 bm Tb n1 m wv' us' f xss W' := by
  have h2 := h.below (balloc W tmp)
  obtain ⟨o, ho, hoc⟩ := h2.map.obj
  refine ⟨hw, h2.map.kept hg (fun e => ?_), h2.tab.keptG hg fun e v n xs hr he => owns_apart hr h2.words (by rcases he with rfl | rfl <;> decide), h.len, h2.bel.grown hg h2.sz fun k hk => (World.ownsRow.lt h2.words k hk).1, Nat.le_trans h2.sz hg.size, h.bmS⟩
  rcases own_not h2.words ho hoc with h3 | h3
  · rw [h3] at e; cases e
  · exact h3 e.symm
theorem BdI.row {i : Nat} {xs : List Int} (h : BdI w1 S3 bm Tb n1 m wv us f xss W) (hk : xss[i]? = some xs) :
    ∃ u, W.cell? ⟨Tb, i, none⟩ = some u ∧ S3 ≤ Tb ∧ OwnI 3 W S3 u xs ∧ ∀ (tmp : Obj) (w2 : World) (u' : Value) (x : Int), I64 x → w2.ownsRow S3 3 1 u' (xs.length + 1) (xs.map (Value.int .i64) ++ [.int .i64 x]) → (W.alloc tmp).grownBy w2 u.ownBlock → (u'.ownBlock = u.ownBlock ∨ ∃ b0, W.heap.size ≤ b0 ∧ u'.ownBlock = some b0) →
      w2.cell? ⟨Tb, i, none⟩ = some u ∧ w2.frozen? ⟨Tb, i, none⟩ = false ∧ BdI w1 S3 bm Tb n1 m wv us f (xss.set i (xs ++ [x])) (w2.setCell ⟨Tb, i, none⟩ u') := by
  have ht := h.tab
  rw [← h.len] at ht
  have key : ∃ cap, cap = n1 := ⟨n1, rfl⟩
  have ht2 : OwnTb W S3 (.slice (some ⟨Tb, 0, none⟩) xss.length n1) xss := by rw [h.len]; exact h.tab
  obtain ⟨u, hu, hTb, ho, hn⟩ := OwnTb.grow ht2 h.sz hk
  refine ⟨u, hu, hTb, ho, fun tmp w2 u' x hx hown hg hblk => ?_⟩
  obtain ⟨e1, e2, e3, e4⟩ := hn tmp w2 u' x hx hown hg hblk
  rw [h.len] at e3
  have h2 := h.below (balloc W tmp)
  have ho2 := ho.below (balloc W tmp)
  obtain ⟨o, hob, hoc⟩ := h2.map.obj
  obtain ⟨vs, t1, _, _⟩ := h2.tab
  have w_2 : OwnS w2 S3 wv us := World.ownsRow.kept h2.words hg (owns_apart h2.words ho2.1 (by decide))
  have t_2 := t1.kept hg (owns_apart t1 ho2.1 (by decide))
  have m_2 : MapH tNd w2 bm m f := h2.map.kept hg (fun e => by
    rcases own_not ho2.1 hob hoc with h3 | h3
    · rw [h3] at e; cases e
    · exact h3 e.symm)
  obtain ⟨o', hob', hoc'⟩ := m_2.obj
  have gp := grown_put w2 Tb i u'
  refine ⟨e1, e2, World.ownsRow.kept w_2 gp (owns_apart w_2 t_2 (by decide)), m_2.kept gp (fun e => ?_), e3, by rw [List.length_set]; exact h.len, h.bel.trans e4, Nat.le_trans h.sz e4.size, h.bmS⟩
  rcases own_not t_2 hob' hoc' with h3 | h3
  · cases h3
  · exact h3 e.symm
end
end Go.Proofs.YtjmebijckcimoaaGreatDoor


namespace Go.Ap
open Go Go.RowKit Go.Maps
section
variable {P : Program} {t k e : TypeId} {κ : Type} {T : MapV P t k e κ} {ie : TypeId} {w w' : World} {b base n : Nat} {g : κ → List Int} {z : Option Nat}
/-- a block before all slices is written -/
theorem GrpO.far (h : GrpO T ie w b base n g z) (hbb : base ≤ b) {row : Option Nat} (hg : w.grownBy w' row) (hk : ∀ k, row = some k → k < base) : GrpO T ie w' b base n g z := by
  obtain ⟨f, h1, h2, h3, h4⟩ := h
  refine ⟨f, h1.kept hg (fun e => ?_), h2, fun s v hv => ⟨(h3 s v hv).1.kept hg ?_, (h3 s v hv).2⟩, h4⟩
  · have := hk b e.symm
    omega
  · cases hb : v.ownBlock with
    | none => exact .inl rfl
    | some k =>
      refine .inr fun e => ?_
      have := (h3 s v hv).1.1.lt k hb
      have := hk k e.symm
      omega
end
theorem OwnI.push1 {e : TypeId} {w w1 : World} {base : Nat} {v v' : Value} {xs : List Int} {x : Int} (h : OwnI e w base v xs) (hx : I64 x) (hown : w1.ownsRow base e 1 v' (xs.length + 1) (xs.map (Value.int .i64) ++ [.int .i64 x])) : OwnI e w1 base v' (xs ++ [x]) :=
  ⟨by simpa using hown, fun y hy => by
    rcases List.mem_append.1 hy with hy | hy
    · exact h.2 y hy
    · rw [List.mem_singleton] at hy; subst hy; exact hx⟩
section
variable {e : TypeId} {w : World} {base : Nat} {v : Value} {xs : List Int}
theorem OwnI.cell {b c m : Nat} (h : OwnI e w base (.slice (some ⟨b, 0, none⟩) m c) xs) {j : Nat} (hj : j < xs.length) : w.cell? ⟨b, j, none⟩ = some (.int .i64 (nth xs j)) ∧ w.frozen? ⟨b, j, none⟩ = false ∧ base ≤ b := by
  rcases h.1.2 with ⟨h0, _⟩ | ⟨g, cap, cur, he, hbb, hg, r1, r2, r3, r4⟩
  · cases h0
  · simp only [Value.slice.injEq, Option.some.injEq, Addr.mk.injEq, and_true] at he
    obtain ⟨rfl, rfl, rfl⟩ := he
    have hc := h.1.cells (g := b) rfl j (.int .i64 (nth xs j)) (by simp [hj, nth_eq hj])
    have hadd : (⟨b, 0, none⟩ : Addr).add j = ⟨b, j, none⟩ := by unfold Addr.add; split <;> simp_all
    rw [hadd] at hc
    exact ⟨hc, by simp [World.frozen?, hg], hbb⟩
end
theorem store2 {W : World} {b : Nat} {c0 c1 : Value} {t : TypeId} (h : BlkK W b #[c0, c1] t) (a0 a1 : Value) :
    ∃ W', W' = (W.setCell ⟨b, 0, none⟩ a0).setCell ⟨b, 1, none⟩ a1 ∧ BlkK W' b #[a0, a1] t ∧ W.grownBy W' (some b) := by
  refine ⟨_, rfl, BlkK.put (BlkK.put h), rfl, rfl, rfl, by simp [World.setCell], fun k _ hk => ?_⟩
  have hne : b ≠ k := fun e => hk (by rw [e])
  rw [Below.heap_setCell _ _ _ _ hne.symm, Below.heap_setCell _ _ _ _ hne.symm]
theorem cell_off {W W' : World} {b B i : Nat} {v : Value} (h : W.cell? ⟨b, i, none⟩ = some v) (hg : W.grownBy W' (some B)) (hne : b ≠ B) : W'.cell? ⟨b, i, none⟩ = some v := by
  have hb := hg.block b (World.block_lt_of_cell? W ⟨b, i, none⟩ h) (fun e => hne (by cases e; rfl))
  unfold World.cell? at h ⊢
  rw [hb]
  exact h
/-- two empty slices hold no number -/
theorem not_int {W : World} {B i : Nat} {t : TypeId} {k : IntKind} {x : Int} (hB : BlkK W B #[.slice none 0 0, .slice none 0 0] t) : W.cell? ⟨B, i, none⟩ ≠ some (.int k x) := fun h => by
  simp only [World.cell?, show W.heap[B]? = _ from hB] at h
  rcases i with _ | _ | i
  · simp at h
  · simp at h
  · simp at h
theorem Ints.off {W W' : World} {B n : Nat} {t : TypeId} {a : Option Addr} {xs : List Int} (h : Ints W a n xs) (hB : BlkK W B #[.slice none 0 0, .slice none 0 0] t) (hg : W.grownBy W' (some B)) : Ints W' a n xs :=
  ⟨h.len, h.small, fun k x hk => by
    obtain ⟨b, off, v, ha, hc, hv, hi⟩ := h.cells k x hk
    subst hv
    exact ⟨b, off, _, ha, cell_off hc hg (fun e => not_int hB (e ▸ hc)), rfl, hi⟩⟩
theorem Arcs.off {W W' : World} {B n : Nat} {t : TypeId} {a : Option Addr} {l : List Vg.Arc} (h : Arcs W a n l) (hB : BlkK W B #[.slice none 0 0, .slice none 0 0] t) (hg : W.grownBy W' (some B)) : Arcs W' a n l :=
  SlM.mono h fun b o x hr => by
    obtain ⟨a1, k1, h1, h2, h3, h4⟩ := hr
    have hne : b ≠ B := fun e => not_int hB (e ▸ h1)
    exact ⟨a1, k1, cell_off h1 hg hne, cell_off h2 hg hne, cell_off h3 hg hne, h4.fr, h4.to, h4.src.off hB hg⟩
theorem BlkK.far {B : Nat} {W W' : World} {b : Nat} {cs : Array Value} {t : TypeId} (h : BlkK W b cs t) (hb : Below B W W') (hl : b < B) : BlkK W' b cs t := (hb.block b hl).trans h
theorem steps_i64 {cs : List (List (Option Str))} {n : Nat} (h : Vg.endN cs ≤ 1000000) : ∀ x ∈ Vg.stepsP (Vg.pathsC cs n), I64 x.1.1 ∧ I64 x.1.2 := fun x hx => by
  obtain ⟨⟨f, t⟩, s⟩ := x
  obtain ⟨i, l, _, hl, hm⟩ := Vg.stepsP_mem.1 hx
  obtain ⟨g1, g2, g3⟩ := Vg.pathsC_ok cs n l (List.mem_of_getElem? hl)
  obtain ⟨m1, m2⟩ := Vg.consec_mem_fst hm
  have r1 := Vg.path_rng g1 g2 g3 _ m1
  have r2 := Vg.path_rng g1 g2 g3 _ m2
  simp only at r1 r2 ⊢
  unfold I64
  omega
theorem below_of_grown {B : Nat} {w w' : World} {row : Option Nat} (hg : w.grownBy w' row) (hB : B ≤ w.heap.size) (h : ∀ k, row = some k → B ≤ k) : Below B w w' := (Below.refl B w).grown hg hB h
theorem flip_own {u v : Value} (h : u.ownBlock = none ∨ u.ownBlock ≠ v.ownBlock) : v.ownBlock = none ∨ v.ownBlock ≠ u.ownBlock := apart_symm h
end Go.Ap
namespace Go.Proofs.YtjmebijckcimoaaGreatDoor
open Go.RowKit Go.Ap Go.Shelf Go.Proofs Go.Maps
/-- inside the path of source i, behind k of its steps -/
structure L5I (w1 : World) (S3 Tb n1 bE : Nat) (wv : Value) (us : List Str) (rows ps : List (List Int)) (i k : Nat) (v : Value) (fp : List Int) (W : World) : Prop where
  words : OwnS W S3 wv us
  grp : GrpO tEn 3 W bE bE (Vg.stepsN ps i k).length (grpE (Vg.stepsN ps i k)) v.ownBlock
  tab : FromI W S3 bE (.slice (some ⟨Tb, 0, none⟩) n1 n1) rows (i + 1)
  path : OwnI 3 W S3 v fp
  bel : Below S3 w1 W
  S3b : S3 ≤ bE
/-- before the path of source i -/
structure L4I (w1 : World) (S3 Tb n1 bE : Nat) (wv : Value) (us : List Str) (rows ps : List (List Int)) (i : Nat) (W : World) : Prop where
  words : OwnS W S3 wv us
  grp : Grp tEn 3 W bE bE (Vg.stepsN ps i 0).length (grpE (Vg.stepsN ps i 0))
  tab : FromI W S3 bE (.slice (some ⟨Tb, 0, none⟩) n1 n1) rows i
  bel : Below S3 w1 W
  S3b : S3 ≤ bE
section
variable {w1 : World} {S3 Tb n1 bE : Nat} {wv : Value} {us : List Str} {rows ps : List (List Int)} {i k : Nat} {v : Value} {fp : List Int} {W W' : World}
theorem L5I.sz (h : L5I w1 S3 Tb n1 bE wv us rows ps i k v fp W) : bE < W.heap.size := h.grp.lt
theorem L5I.below (h : L5I w1 S3 Tb n1 bE wv us rows ps i k v fp W) (hb : Below W.heap.size W W') : L5I w1 S3 Tb n1 bE wv us rows ps i k v fp W' := by
  have hs := h.sz
  have := h.S3b
  exact ⟨h.words.below hb, h.grp.below hb, h.tab.far (hb.mono (by omega)), h.path.below hb, h.bel.trans (hb.mono (by omega)), h.S3b⟩
theorem L5I.done (h : L5I w1 S3 Tb n1 bE wv us rows ps i k v fp W) (hp : ps[i]? = some fp) (hk : k + 1 = fp.length) : L4I w1 S3 Tb n1 bE wv us rows ps (i + 1) W := by
  have e : Vg.stepsN ps i k = Vg.stepsN ps (i + 1) 0 := by rw [← Vg.stepsN_next hp, show fp.length - 1 = k by omega]
  have hg := h.grp.grp
  rw [e] at hg
  exact ⟨h.words, hg, h.tab, h.bel, h.S3b⟩
theorem L4I.sz (h : L4I w1 S3 Tb n1 bE wv us rows ps i W) : bE < W.heap.size := h.grp.lt
/-- the path of source i is taken, and its end appended -/
theorem L4I.take (h : L4I w1 S3 Tb n1 bE wv us rows ps i W) {xs : List Int} (hl : rows.length = n1) (hk : rows[i]? = some xs) :
    ∃ u, W.cell? ⟨Tb, i, none⟩ = some u ∧ OwnI 3 W S3 u xs ∧ ∀ (tmp : Obj) (w2 : World) (v : Value) (fp : List Int), OwnI 3 w2 S3 v fp → (W.alloc tmp).grownBy w2 u.ownBlock → (v.ownBlock = u.ownBlock ∨ v.ownBlock = some (W.alloc tmp).heap.size) →
      L5I w1 S3 Tb n1 bE wv us rows ps i 0 v fp w2 := by
  have hsz := h.sz
  have h3b := h.S3b
  obtain ⟨g, cap, u, he, hc, ho, hlt, hn⟩ := h.tab.at hk
  rw [hl] at he
  cases he
  refine ⟨u, hc, ho, fun tmp w2 v fp hp hg hb => ?_⟩
  have ha := balloc W tmp
  have hwa := h.words.below ha
  have hoa := ho.below ha
  have hga := h.grp.below ha
  have hub : ∀ k, u.ownBlock = some k → S3 ≤ k := fun k hk => (ho.1.lt k hk).1
  refine ⟨World.ownsRow.kept hwa hg (owns_apart hwa hoa.1 (by decide)), ?_, hn tmp w2 hg, hp, (h.bel.trans (ha.mono (by omega))).grown hg (by simp; omega) hub, h.S3b⟩
  refine (hga.off (z := v.ownBlock) fun k hk => ?_).far (Nat.le_refl _) hg hlt
  rcases hb with hb | hb
  · exact .inl (hlt k (hb ▸ hk))
  · right
    rw [hb] at hk
    cases hk
    exact Nat.le_refl _
/-- a step: the entry of its ends first, the store behind it -/
theorem L5I.entry (h : L5I w1 S3 Tb n1 bE wv us rows ps i k v fp W) {x y : Int} (hx : I64 x) (hy : I64 y) (hp : ps[i]? = some fp) (hfx : fp[k]? = some x) (hfy : fp[k + 1]? = some y) (hn : (Vg.stepsN ps i k).length ≤ 100000) :
    ∃ u wa st, (Instr.mapEntry 73 (.map (some bE)) (.agg #[.int .i64 x, .int .i64 y])).run Tryz.prog W = .ok (.tuple #[u, st]) wa ∧ OwnI 3 wa bE u (grpE (Vg.stepsN ps i k) (x, y)) ∧ W.grownBy wa (some bE) ∧
      ∀ w9 v9, wa.grownBy w9 u.ownBlock → OwnI 3 w9 bE v9 (grpE (Vg.stepsN ps i k) (x, y) ++ [(i : Int)]) → (v9.ownBlock = u.ownBlock ∨ ∃ k, wa.heap.size ≤ k ∧ v9.ownBlock = some k) →
        ∃ w', (Instr.entryStore 73 (.map (some bE)) st v9).run Tryz.prog w9 = .ok () w' ∧ L5I w1 S3 Tb n1 bE wv us rows ps i (k + 1) v fp w' := by
  have hsz := h.sz
  have h3b := h.S3b
  obtain ⟨u, wa, st, o1, r1, r2, r3, r4, r5, _, r6, r7⟩ := h.grp.entry (s := (x, y)) rfl (fun k hk => own_lt h.path.1 hk) (by unfold maxLen; omega) ⟨hx, hy⟩
  obtain ⟨o0, ho0, hoc0⟩ : ∃ o, W.heap[bE]? = some o ∧ o.isCells = false := by
    obtain ⟨f, h1, _⟩ := h.grp
    exact h1.obj
  have wa1 : OwnS wa S3 wv us := World.ownsRow.kept h.words r3 (own_not h.words ho0 hoc0)
  have pa1 : OwnI 3 wa S3 v fp := h.path.kept r3 (own_not h.path.1 ho0 hoc0)
  have ba1 : Below bE W wa := below_of_grown r3 (by omega) fun k hk => by cases hk; exact Nat.le_refl _
  have sza := ba1.size
  have ta1 := h.tab.far ba1
  refine ⟨u, wa, st, r1, r2, r3, fun w9 v9 q1 q2 q3 => ?_⟩
  have hlt : bE < wa.heap.size := by omega
  have ho9 : w9.heap[bE]? = some o1 := (q1.block bE hlt fun e => by
    rcases own_not r2.1 r4 r5 with h3 | h3
    · rw [h3] at e; cases e
    · exact h3 e.symm).trans r4
  obtain ⟨w', p1, p2, p3⟩ := r7 w9 v9 _ ho9 q1 q2 (by simp) q3
  have hb2 : Below bE wa w9 := below_of_grown q1 (by omega) fun k hk => (r2.1.lt k hk).1
  have sz9 := hb2.size
  have hb3 : Below bE w9 w' := below_of_grown p3 (by omega) fun k hk => by cases hk; exact Nat.le_refl _
  have w_9 : OwnS w9 S3 wv us := World.ownsRow.kept wa1 q1 (owns_apart wa1 r2.1 (by decide))
  have p_9 : OwnI 3 w9 S3 v fp := pa1.kept q1 (flip_own r6)
  rw [grpE_add _ _ [(i : Int)]] at p2
  have e : Vg.stepsN ps i k ++ [(i : Int)].map (fun z => ((x, y), z)) = Vg.stepsN ps i (k + 1) := (Vg.stepsN_snoc hp hfx hfy).symm
  have el : (Vg.stepsN ps i k).length + 1 = (Vg.stepsN ps i (k + 1)).length := by rw [← e]; simp
  rw [e, el] at p2
  exact ⟨w', p1, World.ownsRow.kept w_9 p3 (own_not w_9 ho9 r5), p2, (ta1.far hb2).far hb3, p_9.kept p3 (own_not p_9.1 ho9 r5), ((h.bel.trans (ba1.mono h3b)).trans (hb2.mono h3b)).trans (hb3.mono h3b), h3b⟩
end
end Go.Proofs.YtjmebijckcimoaaGreatDoor
