/-
  Build (reference): its loops in plain words, and what its rounds keep.
-/
import Derived.Test.YtjmebijckcimoaaGreatDoorBr24
import Derived.Test.YtjmebijckcimoaaGreatDoorBl
namespace Go.Ap.Vg
section
variable {ps : List (List Int)} {f t s i n : Nat}
/-- the arc between two nodes -/
def gR (ps : List (List Int)) (f t : Nat) : List Arc := if f < t ∧ srcR ps f t ≠ [] then [(((f : Int), (t : Int)), srcR ps f t)] else []
/-- the arcs laid before the pair f, t -/
def gridR (n : Nat) (ps : List (List Int)) (f t : Nat) : List Arc := ((List.range f).flatMap fun f => (List.range n).flatMap fun t => gR ps f t) ++ (List.range t).flatMap fun t => gR ps f t
theorem gR_len : (gR ps f t).length ≤ 1 := by unfold gR; split <;> simp
theorem gridR_step : gridR n ps f (t + 1) = gridR n ps f t ++ gR ps f t := by
  unfold gridR
  rw [List.range_succ, List.flatMap_append, ← List.append_assoc]
  simp
theorem gridR_skip (m : Nat) (h : m ≤ f + 1) : gridR n ps f m = gridR n ps f 0 := by
  induction m with
  | zero => rfl
  | succ m ih =>
    rw [gridR_step, ih (by omega)]
    unfold gR
    rw [if_neg (by omega), List.append_nil]
theorem gridR_col : gridR n ps f n = gridR n ps (f + 1) 0 := by
  unfold gridR
  rw [List.range_succ, List.flatMap_append]
  simp
theorem gridR_end : gridR n ps n 0 = arcsR n ps := by
  unfold gridR arcsR
  simp only [List.range_zero, List.flatMap_nil, List.append_nil]
  rfl
theorem flat_len {α : Type} (g : Nat → List α) (m : Nat) (h : ∀ i, (g i).length ≤ m) : ∀ n, ((List.range n).flatMap g).length ≤ n * m
  | 0 => by simp
  | n + 1 => by
    rw [List.range_succ, List.flatMap_append, List.length_append]
    have := flat_len g m h n
    have := h n
    simp only [List.flatMap_cons, List.flatMap_nil, List.append_nil]
    rw [Nat.succ_mul]
    omega
theorem gridR_len : (gridR n ps f t).length ≤ f * n + t := by
  unfold gridR
  rw [List.length_append]
  have h1 := flat_len (fun f => (List.range n).flatMap fun t => gR ps f t) n (fun f => by
    have := flat_len (fun t => gR ps f t) 1 (fun t => gR_len) n
    omega) f
  have h2 := flat_len (fun t => gR ps f t) 1 (fun t => gR_len) t
  omega
/-- the sources found before step i of source s -/
def srcK (ps : List (List Int)) (f t s i : Nat) : List Int :=
  ((List.range s).flatMap fun i => (consec (ps.getD i [])).filterMap fun x => if x = ((f : Int), (t : Int)) then some (i : Int) else none) ++ ((consec (ps.getD s [])).take i).filterMap fun x => if x = ((f : Int), (t : Int)) then some (s : Int) else none
theorem srcK_row (h : (consec (ps.getD s [])).length ≤ i) : srcK ps f t s i = srcK ps f t (s + 1) 0 := by
  unfold srcK
  rw [List.range_succ, List.flatMap_append, List.take_of_length_le h]
  simp
theorem srcK_end : srcK ps f t ps.length 0 = srcR ps f t := by
  unfold srcK srcR
  simp
theorem srcK_step {x : En} (h : (consec (ps.getD s []))[i]? = some x) : srcK ps f t s (i + 1) = srcK ps f t s i ++ if x = ((f : Int), (t : Int)) then [(s : Int)] else [] := by
  unfold srcK
  rw [take_next h, List.filterMap_append, List.append_assoc]
  congr 2
  by_cases e : x = ((f : Int), (t : Int))
  · rw [if_pos e]; simp [e]
  · rw [if_neg e]; simp [e]
theorem srcK_len {m : Nat} (h : ∀ l ∈ ps, l.length ≤ m) : (srcK ps f t s i).length ≤ (s + 1) * m := by
  unfold srcK
  have hc : ∀ j, (consec (ps.getD j [])).length ≤ m := fun j => by
    rw [consec_len]
    by_cases hj : j < ps.length
    · have := h _ (List.getElem_mem hj)
      simp only [List.getD, List.getElem?_eq_getElem hj, Option.getD_some]
      omega
    · simp [List.getD, List.getElem?_eq_none (show ps.length ≤ j by omega)]
  have h1 := flat_len (fun i => (consec (ps.getD i [])).filterMap fun x => if x = ((f : Int), (t : Int)) then some (i : Int) else none) m (fun j => Nat.le_trans (List.length_filterMap_le _ _) (hc j)) s
  have h2 : (((consec (ps.getD s [])).take i).filterMap fun x => if x = ((f : Int), (t : Int)) then some (s : Int) else none).length ≤ m := Nat.le_trans (List.length_filterMap_le _ _) (Nat.le_trans (List.length_take_le' _ _) (hc s))
  rw [List.length_append, Nat.succ_mul]
  omega
/-- the search for a word among those of a column -/
def SeekI {α : Type} (us : List α) (u : α) (first n : Nat) (at_ : Int) : Prop := (at_ = -1 ∧ ∀ j, first ≤ j → j < n → us[j]? ≠ some u) ∨ ∃ j : Nat, first ≤ j ∧ j < n ∧ us[j]? = some u ∧ at_ = j
theorem SeekI.zero {α : Type} (us : List α) (u : α) (first : Nat) : SeekI us u first first (-1) := .inl ⟨rfl, fun j h1 h2 => by omega⟩
theorem SeekI.miss {α : Type} {us : List α} {u : α} {first n : Nat} {a : Int} (h : SeekI us u first n a) (hn : us[n]? ≠ some u) : SeekI us u first (n + 1) a := by
  rcases h with ⟨h1, h2⟩ | ⟨j, h1, h2, h3, h4⟩
  · refine .inl ⟨h1, fun j h3 h4 => ?_⟩
    by_cases e : j = n
    · subst e; exact hn
    · exact h2 j h3 (by omega)
  · exact .inr ⟨j, h1, by omega, h3, h4⟩
theorem SeekI.hit {α : Type} {us : List α} {u : α} {first n : Nat} (hf : first ≤ n) (hn : us[n]? = some u) : SeekI us u first (n + 1) (n : Int) := .inr ⟨n, hf, by omega, hn, rfl⟩
section
variable {α : Type} [DecidableEq α]
/-- where a column's words begin -/
def firstB (cs : List (List (Option α))) (k : Nat) : Nat := 1 + (nodesL (cs.take k)).length
theorem firstB_len (z : α) (cs : List (List (Option α))) (k : Nat) : (wordsB z cs k 0).length = firstB cs k := by
  unfold wordsB firstB
  simp [colN]
  omega
theorem firstB_le (z : α) (cs : List (List (Option α))) (k i : Nat) : firstB cs k ≤ (wordsB z cs k i).length := by
  unfold wordsB firstB
  rw [List.length_cons, List.length_append]
  omega
theorem wordsB_at (z : α) (cs : List (List (Option α))) (k i j : Nat) (h : firstB cs k ≤ j) : (wordsB z cs k i)[j]? = (colN ((cs.getD k []).take i))[j - firstB cs k]? := by
  unfold wordsB
  unfold firstB at h ⊢
  obtain ⟨m, rfl⟩ : ∃ m, j = m + 1 := ⟨j - 1, by omega⟩
  rw [List.getElem?_cons_succ, List.getElem?_append_right (by omega)]
  congr 1
  omega
theorem seek_end {z : α} {cs : List (List (Option α))} {k i : Nat} {u : α} {a : Int} (h : SeekI (wordsB z cs k i) u (firstB cs k) (wordsB z cs k i).length a) :
    (u ∈ colN ((cs.getD k []).take i) ∧ a = ((firstB cs k + (colN ((cs.getD k []).take i)).idxOf u : Nat) : Int)) ∨ (u ∉ colN ((cs.getD k []).take i) ∧ a = -1) := by
  rcases h with ⟨h1, h2⟩ | ⟨j, h1, h2, h3, h4⟩
  · right
    refine ⟨fun hm => ?_, h1⟩
    obtain ⟨m, hm2⟩ := List.getElem?_of_mem hm
    have h3 := wordsB_at z cs k i (firstB cs k + m) (by omega)
    rw [Nat.add_sub_cancel_left, hm2] at h3
    exact h2 _ (by omega) (List.getElem?_eq_some_iff.1 h3).1 h3
  · left
    rw [wordsB_at z cs k i j h1] at h3
    obtain ⟨h5, h6⟩ := List.getElem?_eq_some_iff.1 h3
    refine ⟨List.mem_of_getElem? h3, ?_⟩
    rw [h4, ← h6, (colN_nodup _).idxOf_getElem _ h5]
    congr 1
    omega
end
end
end Go.Ap.Vg
namespace Go.Ap
open Go Go.RowKit Go.Maps
/-- a row of arcs of the call's own, with sources of the call's own -/
def OwnAz (w : World) (base : Nat) (v : Value) (l : List Vg.Arc) : Prop :=
  ∃ ps : List AIt, ps.map (·.1) = l ∧ w.ownsRow base 48 3 v ps.length (ps.flatMap aiC) ∧ ∀ p ∈ ps, I64 p.1.1.1 ∧ I64 p.1.1.2 ∧ p.1.2.length ≤ 4611686018427387903 ∧ OwnI 3 w base p.2 p.1.2
section
variable {w w' : World} {base : Nat} {v : Value} {l : List Vg.Arc}
theorem OwnAz.nil (w : World) (base : Nat) : OwnAz w base (.slice none 0 0) [] := ⟨[], rfl, World.ownsRow_nil _ _ _ _, fun _ h => absurd h List.not_mem_nil⟩
theorem OwnAz.keptG {row : Option Nat} (h : OwnAz w base v l) (hg : w.grownBy w' row) (hr : ∀ (e : TypeId) (sz : Nat) (u : Value) (n : Nat) (xs : List Value), w.ownsRow base e sz u n xs → (e = 48 ∧ u = v ∨ e = 3) → u.ownBlock = none ∨ u.ownBlock ≠ row) : OwnAz w' base v l := by
  obtain ⟨ps, h1, h2, h3⟩ := h
  exact ⟨ps, h1, h2.kept hg (hr _ _ _ _ _ h2 (.inl ⟨rfl, rfl⟩)), fun p hp => by
    obtain ⟨q1, q2, q3, q4⟩ := h3 p hp
    exact ⟨q1, q2, q3, q4.kept hg (hr _ _ _ _ _ q4.1 (.inr rfl))⟩⟩
theorem OwnAz.below (h : OwnAz w base v l) (hb : Below w.heap.size w w') : OwnAz w' base v l := by
  obtain ⟨ps, h1, h2, h3⟩ := h
  exact ⟨ps, h1, owns_below h2 hb, fun p hp => by
    obtain ⟨q1, q2, q3, q4⟩ := h3 p hp
    exact ⟨q1, q2, q3, q4.below hb⟩⟩
/-- an arc more -/
theorem OwnAz.push {f t : Int} {src : List Int} {u : Value} (h : OwnAz w base v l) (hu : OwnI 3 w base u src) (hf : I64 f) (ht : I64 t) (hl : src.length ≤ 4611686018427387903) (tmp : Obj) :
    ∃ xs : List Value, w.ownsRow base 48 3 v l.length xs ∧ ∀ (v' : Value) (w9 : World), w9.ownsRow base 48 3 v' (l.length + 1) (xs ++ [.int .i64 f, .int .i64 t, u]) → (w.alloc tmp).grownBy w9 v.ownBlock → OwnAz w9 base v' (l ++ [((f, t), src)]) := by
  obtain ⟨ps, h1, h2, h3⟩ := h
  have hpl : ps.length = l.length := by rw [← h1, List.length_map]
  refine ⟨ps.flatMap aiC, by rw [← hpl]; exact h2, fun v' w9 ho hg => ⟨ps ++ [(((f, t), src), u)], by rw [List.map_append, h1]; rfl, ?_, fun p hp => ?_⟩⟩
  · rw [List.length_append, List.flatMap_append, hpl]
    exact ho
  · have key : ∀ u' xs, OwnI 3 w base u' xs → OwnI 3 w9 base u' xs := fun u' xs hi => OwnI.kept (w := w.alloc tmp) (hi.below (balloc w tmp)) hg (owns_apart hi.1 h2 (by decide))
    rcases List.mem_append.1 hp with hp | hp
    · obtain ⟨q1, q2, q3, q4⟩ := h3 p hp
      exact ⟨q1, q2, q3, key _ _ q4⟩
    · rw [List.mem_singleton] at hp
      subst hp
      exact ⟨hf, ht, hl, key _ _ hu⟩
/-- .. read -/
theorem OwnAz.gives (h : OwnAz w base v l) (hn : l.length ≤ 4611686018427387903) : ∃ a c, v = .slice a l.length c ∧ Arcs w a l.length l ∧ l.length ≤ c := by
  obtain ⟨ps, h1, h2, h3⟩ := h
  refine OwnAs.gives (e := 48) (w0 := w) (base := base) ⟨ps, h1, h2, fun p hp => ?_⟩ hn (Below.refl _ _)
  obtain ⟨q1, q2, q3, q4⟩ := h3 p hp
  obtain ⟨a, c, he, hi⟩ := q4.ints q3
  exact ⟨a, c, he, ⟨q1, q2, hi⟩⟩
end
end Go.Ap
namespace Go.Proofs.YtjmebijckcimoaaGreatDoor
open Go.RowKit Go.Ap Go.Shelf Go.Proofs Go.Maps
/-- what the rounds of the reference's Build keep: the words, the box of the graph, the paths -/
structure BrI (w1 : World) (S n1 : Nat) (wv : Value) (us : List Str) (xss : List (List Int)) (W : World) : Prop where
  words : OwnS W S wv us
  box : BlkK W (S + 1) #[wv, .slice none 0 0] 31
  tab : OwnTb W S (.slice (some ⟨S + 2, 0, none⟩) n1 n1) xss
  len : xss.length = n1
  bel : Below S w1 W
  sz : S ≤ W.heap.size
section
variable {w1 W W' : World} {S n1 : Nat} {wv : Value} {us : List Str} {xss : List (List Int)}
theorem BrI.below (h : BrI w1 S n1 wv us xss W) (hb : Below W.heap.size W W') : BrI w1 S n1 wv us xss W' :=
  ⟨h.words.below hb, h.box.below hb, h.tab.below hb, h.len, h.bel.trans (hb.mono h.sz), Nat.le_trans h.sz hb.size⟩
/-- a word more -/
theorem BrI.word {tmp : Obj} {wv' : Value} {us' : List Str} (h : BrI w1 S n1 wv us xss W) (hg : (W.alloc tmp).grownBy W' wv.ownBlock) (hw : OwnS W' S wv' us') :
    BlkK W' (S + 1) #[wv, .slice none 0 0] 31 ∧ BrI w1 S n1 wv' us' xss (W'.setCell ⟨S + 1, 0, none⟩ wv') := by
  have h2 := h.below (balloc W tmp)
  have hbx := h2.box.keptE hg (h2.box.apart h2.words (by decide))
  have htb : OwnTb W' S (.slice (some ⟨S + 2, 0, none⟩) n1 n1) xss := h2.tab.keptG hg fun e v n xs hr he => owns_apart hr h2.words (by rcases he with rfl | rfl <;> decide)
  have hbl : Below S w1 W' := h2.bel.grown hg h2.sz fun k hk => (World.ownsRow.lt h2.words k hk).1
  have gp := grown_put W' (S + 1) 0 wv'
  refine ⟨hbx, World.ownsRow.kept hw gp ?_, hbx.put (i := 0) (v := wv'), htb.keptG gp fun e v n xs hr he => ?_, h.len, hbl.setCell (p := ⟨S + 1, 0, none⟩) (Nat.le_succ _) _, ?_⟩
  · exact .inr (Ne.symm (hbx.apart hw (by decide)))
  · exact .inr (Ne.symm (hbx.apart hr (by rcases he with rfl | rfl <;> decide)))
  · rw [World.size_setCell]; exact Nat.le_trans h2.sz hg.size
/-- a step of a path more -/
theorem BrI.row {i : Nat} {xs : List Int} (h : BrI w1 S n1 wv us xss W) (hk : xss[i]? = some xs) :
    ∃ u, W.cell? ⟨S + 2, i, none⟩ = some u ∧ OwnI 3 W S u xs ∧ ∀ (tmp : Obj) (w2 : World) (u' : Value) (x : Int), I64 x → w2.ownsRow S 3 1 u' (xs.length + 1) (xs.map (Value.int .i64) ++ [.int .i64 x]) → (W.alloc tmp).grownBy w2 u.ownBlock → (u'.ownBlock = u.ownBlock ∨ ∃ b0, W.heap.size ≤ b0 ∧ u'.ownBlock = some b0) →
      w2.cell? ⟨S + 2, i, none⟩ = some u ∧ w2.frozen? ⟨S + 2, i, none⟩ = false ∧ BrI w1 S n1 wv us (xss.set i (xs ++ [x])) (w2.setCell ⟨S + 2, i, none⟩ u') := by
  have ht2 : OwnTb W S (.slice (some ⟨S + 2, 0, none⟩) xss.length n1) xss := by rw [h.len]; exact h.tab
  obtain ⟨u, hu, hTb, ho, hn⟩ := OwnTb.grow ht2 h.sz hk
  refine ⟨u, hu, ho, fun tmp w2 u' x hx hown hg hblk => ?_⟩
  obtain ⟨e1, e2, e3, e4⟩ := hn tmp w2 u' x hx hown hg hblk
  rw [h.len] at e3
  have h2 := h.below (balloc W tmp)
  have ho2 := ho.below (balloc W tmp)
  obtain ⟨vs, t1, _, _⟩ := h2.tab
  have w_2 : OwnS w2 S wv us := World.ownsRow.kept h2.words hg (owns_apart h2.words ho2.1 (by decide))
  have t_2 := t1.kept hg (owns_apart t1 ho2.1 (by decide))
  have b_2 := h2.box.keptE hg (h2.box.apart ho2.1 (by decide))
  have gp := grown_put w2 (S + 2) i u'
  exact ⟨e1, e2, World.ownsRow.kept w_2 gp (owns_apart w_2 t_2 (by decide)), (Below.heap_setCell _ _ _ (S + 1) (show S + 1 ≠ S + 2 by omega)).trans b_2, e3, by rw [List.length_set]; exact h.len, h.bel.trans e4, Nat.le_trans h.sz e4.size⟩
end
/-- behind the paths: the words, the paths, the box of the graph and its arcs -/
structure BrA (w1 : World) (S n1 B : Nat) (wv : Value) (us : List Str) (ps : List (List Int)) (v2 : Value) (l : List Vg.Arc) (W : World) : Prop where
  words : OwnS W S wv us
  box : BlkK W (S + 1) #[wv, v2] 31
  tab : OwnTb W S (.slice (some ⟨S + 2, 0, none⟩) n1 n1) ps
  arcs : OwnAz W B v2 l
  bel : Below S w1 W
  sz : B ≤ W.heap.size
  SB : S + 2 ≤ B
section
variable {w1 W W' : World} {S n1 B : Nat} {wv v2 : Value} {us : List Str} {ps : List (List Int)} {l : List Vg.Arc}
theorem BrA.new (h : BrI w1 S n1 wv us ps W) : BrA w1 S n1 W.heap.size wv us ps (.slice none 0 0) [] W := ⟨h.words, h.box, h.tab, OwnAz.nil _ _, h.bel, Nat.le_refl _, by have := h.box.lt; omega⟩
theorem BrA.below (h : BrA w1 S n1 B wv us ps v2 l W) (hb : Below W.heap.size W W') : BrA w1 S n1 B wv us ps v2 l W' :=
  ⟨h.words.below hb, h.box.below hb, h.tab.below hb, h.arcs.below hb, h.bel.trans (hb.mono (by have := h.sz; have := h.SB; omega)), Nat.le_trans h.sz hb.size, h.SB⟩
/-- where a path lies -/
theorem BrA.at (h : BrA w1 S n1 B wv us ps v2 l W) {s : Nat} {xs : List Int} (hk : ps[s]? = some xs) (hm : xs.length ≤ 4611686018427387903) : ∃ a c, W.cell? ⟨S + 2, s, none⟩ = some (.slice a xs.length c) ∧ Ints W a xs.length xs := by
  obtain ⟨g, cap, u, he, _, hc, _, ho⟩ := h.tab.at hk
  cases he
  obtain ⟨a, c, rfl, hi⟩ := ho.ints hm
  exact ⟨a, c, hc, hi⟩
/-- an arc more -/
theorem BrA.push (h : BrA w1 S n1 B wv us ps v2 l W) {f t : Int} {src : List Int} {u : Value} (hu : OwnI 3 W B u src) (hf : I64 f) (ht : I64 t) (hl : src.length ≤ 4611686018427387903) (tmp : Obj) :
    ∃ xs : List Value, (W.ownsRow B 48 3 v2 l.length xs) ∧ ∀ (v' : Value) (w9 : World), w9.ownsRow B 48 3 v' (l.length + 1) (xs ++ [.int .i64 f, .int .i64 t, u]) → (W.alloc tmp).grownBy w9 v2.ownBlock →
      BlkK w9 (S + 1) #[wv, v2] 31 ∧ BrA w1 S n1 B wv us ps v' (l ++ [((f, t), src)]) (w9.setCell ⟨S + 1, 1, none⟩ v') := by
  obtain ⟨xs, hx, hnext⟩ := h.arcs.push hu hf ht hl tmp
  refine ⟨xs, hx, fun v' w9 ho hg => ?_⟩
  have h2 := h.below (balloc W tmp)
  have hx2 := owns_below hx (balloc W tmp)
  have haz := hnext v' w9 ho hg
  have hbx := h2.box.keptE hg (h2.box.apart hx2 (by decide))
  have hlo : ∀ k, v2.ownBlock = some k → B ≤ k := fun k hk => (World.ownsRow.lt hx k hk).1
  have hSB := h.SB
  have hsz := h2.sz
  have hbel : Below S w1 w9 := h2.bel.grown hg (by omega) fun k hk => by have := hlo k hk; omega
  have htb : OwnTb w9 S (.slice (some ⟨S + 2, 0, none⟩) n1 n1) ps := h2.tab.keptG hg fun e v n xs hr he => owns_apart hr hx2 (by rcases he with rfl | rfl <;> decide)
  have hws : OwnS w9 S wv us := World.ownsRow.kept h2.words hg (owns_apart h2.words hx2 (by decide))
  have gp := grown_put w9 (S + 1) 1 v'
  exact ⟨hbx, World.ownsRow.kept hws gp (.inr (Ne.symm (hbx.apart hws (by decide)))), hbx.put (i := 1) (v := v'), htb.keptG gp fun e v n xs hr he => .inr (Ne.symm (hbx.apart hr (by rcases he with rfl | rfl <;> decide))), haz.keptG gp fun e sz v n xs hr he => .inr (Ne.symm (hbx.apart hr (by rcases he with ⟨rfl, _⟩ | rfl <;> decide))), hbel.setCell (p := ⟨S + 1, 1, none⟩) (Nat.le_succ _) _, by rw [World.size_setCell]; exact Nat.le_trans hsz hg.size, hSB⟩
end
end Go.Proofs.YtjmebijckcimoaaGreatDoor
