/-
  A set of strings in a map of the call's own; a queue of strings of the call's own: what the run gives at each operation.
-/
import Derived.Test.YtamdonlncfmmmaaW11
import Derived.Sort.KeysCollected
import Derived.Maps.OwnSet
import Derived.ArgAppend
namespace Go.Proofs.Ytamdonlncfmmmaa
open Go.RowKit Go.Ap Go.Shelf Go.Proofs
open Go.Maps (Keyed)

/-- the set of these strings, as a map to true -/
def setD (L : List Str) : DataW Unit := Maps.setOf (.lit (.bool true)) (L.map Lit.string)
theorem keys_ok (L : List Str) : ∀ x ∈ L.map Lit.string, WideAt.IsKeyLit x := by
  intro x hx
  obtain ⟨y, _, rfl⟩ := List.mem_map.1 hx
  trivial
theorem setD_snoc (L : List Str) (x : Str) : setD (L ++ [x]) = (setD L).put (.string x) (.lit (.bool true)) := by
  rw [setD, List.map_append]
  exact Maps.setOf_snoc _ _ _
theorem setD_tidy (L : List Str) : Maps.Tidy (setD L) := Maps.tidy_setOf _ _ (keys_ok L)
theorem setD_has (L : List Str) (x : Str) : Maps.has (setD L) (.string x) = decide (x ∈ L) := by
  rw [setD, Maps.has_setOf _ _ _ (keys_ok L), Bool.eq_iff_iff, List.any_eq_true, decide_eq_true_iff]
  constructor
  · rintro ⟨y, hy, hs⟩
    obtain ⟨z, hz, rfl⟩ := List.mem_map.1 hy
    have := WideAt.sameKey_eq hs
    injection this with this
    rw [← this]; exact hz
  · intro h
    exact ⟨.string x, List.mem_map.2 ⟨x, h, rfl⟩, by simp [Lit.sameKey]⟩
theorem rev_ind {α : Type} {p : List α → Prop} (h0 : p []) (h1 : ∀ L x, p L → p (L ++ [x])) (L : List α) : p L := by
  have : ∀ M : List α, p M.reverse := fun M => by
    induction M with
    | nil => exact h0
    | cons x M ih => rw [List.reverse_cons]; exact h1 _ _ ih
  have := this L.reverse
  rwa [List.reverse_reverse] at this
theorem setD_size : ∀ (L : List Str), L.Nodup → Maps.size (setD L) = L.length := by
  refine rev_ind (fun _ => rfl) fun L x ih hn => ?_
  rw [List.nodup_append] at hn
  have hx : x ∉ L := fun h => hn.2.2 x h x (by simp) rfl
  rw [setD_snoc, Maps.size_put (setD_tidy L), setD_has, List.length_append, ih hn.1]
  simp [hx]
theorem setD_at (x : Str) : ∀ (L : List Str), (setD L).atKey (.string x) (.lit (.bool false)) = .lit (.bool (decide (x ∈ L))) := by
  refine rev_ind (by simp [setD, Maps.setOf, DataW.atKey]) fun L y ih => ?_
  rw [setD_snoc]
  by_cases h : x = y
  · subst h
    rw [Maps.atKey_put_same (setD_tidy L).isMap (k := .string x) trivial]
    simp
  · rw [Maps.atKey_put_other (by intro e; injection e with e; exact h e), ih]
    simp [h]
theorem mem_insert {H : Type} {x y : Lit × DataW H} : ∀ {l : List (Lit × DataW H)}, y ∈ DataW.insert x l → y = x ∨ y ∈ l
  | [], h => by simpa [DataW.insert] using h
  | z :: l, h => by
    unfold DataW.insert at h
    split at h
    · simpa using h
    · rcases List.mem_cons.1 h with h | h
      · exact .inr (by simp [h])
      · rcases mem_insert h with h | h
        · exact .inl h
        · exact .inr (by simp [h])
def StrK (D : DataW Unit) : Prop := ∃ es, D = .map es ∧ ∀ p ∈ es, ∃ x, p.1 = .string x
theorem StrK.put {D : DataW Unit} (h : StrK D) (x : Str) (d : DataW Unit) : StrK (D.put (.string x) d) := by
  obtain ⟨es, rfl, h⟩ := h
  refine ⟨_, rfl, fun p hp => ?_⟩
  rcases mem_insert hp with rfl | hp
  · exact ⟨x, rfl⟩
  · exact h p (List.mem_filter.1 hp |>.1)
theorem setD_str : ∀ L : List Str, StrK (setD L) := by
  refine rev_ind ⟨[], rfl, fun p hp => by cases hp⟩ fun L x ih => ?_
  rw [setD_snoc]
  exact ih.put x _
theorem setD_keys {L : List Str} (hn : L.Nodup) {ss : List Str} (h : ss.Perm (strKeys (setD L))) : ss.Perm L := by
  obtain ⟨es, he, hp⟩ := setD_tidy L
  obtain ⟨es', he', hk⟩ := setD_str L
  obtain rfl : es = es' := by rw [he] at he'; injection he'
  have h1 : L.Perm (strKeys (setD L)) := by
    rw [he]
    refine perm_strKeys hp hk hn fun x => ?_
    rw [← he, setD_has, decide_eq_true_iff]
  exact h.trans h1.symm

/-- block b is the set L, as a map of the call's own -/
def SetM (w : World) (b : Nat) (L : List Str) : Prop := w.ownsMap Try.prog 9 (plainElem Try.prog 4) b L.length (setD L)
section
variable {w w' : World} {b : Nat} {L : List Str} {x : Str}
theorem SetM.kept {row : Option Nat} (h : SetM w b L) (hg : w.grownBy w' row) (hne : some b ≠ row) : SetM w' b L := World.ownsMap.kept h hg hne
theorem SetM.lt (h : SetM w b L) : b < w.heap.size := World.ownsMap.lt h
theorem SetM.below (h : SetM w b L) (hb : Below w.heap.size w w') : SetM w' b L := by
  have hlt := h.lt
  obtain ⟨es, clock, h1, h2⟩ := h
  exact ⟨es, clock, (hb.block b hlt).trans h1, h2⟩
theorem SetM.made (w : World) : SetM (w.alloc (.map #[] 0)) w.heap.size [] := World.ownsMap_made w _ _ _
theorem bool_inv {v : Value} {z : DataW Unit × List MemPlace} (h : plainElem Try.prog 4 v = some z) : ∃ y, v = .bool y ∧ z = (.lit (.bool y), []) := by
  unfold plainElem at h
  rw [Try.underlying4] at h
  cases v <;> simp at h
  exact ⟨_, rfl, h.symm⟩
theorem SetM.look (h : SetM w b L) (hx : x.length ≤ 4611686018427387903) : (Instr.lookup 65 (.map (some b)) (.string (bs x)) false).run Try.prog w = .ok (.bool (decide (x ∈ L))) w := by
  have hk : keyOf Try.prog 9 (.string (bs x)) = some (.string x) := WideMaps.keyOf_string_mk Try.underlying9 (by rw [bs_size]; unfold maxLen; omega)
  obtain ⟨v, ps, hrun, hv⟩ := World.ownsMap.lookup h (Maps.string_keyed Try.underlying9) Try.underlying65 (z := .bool false) (Try.zeroValue4 w) (plainElem_bool Try.underlying4 false) hk
  rw [setD_at] at hv
  generalize decide (x ∈ L) = d at *
  clear hx
  obtain ⟨y, rfl, hy⟩ := bool_inv hv
  simp only [Prod.mk.injEq, DataW.lit.injEq, Lit.bool.injEq] at hy
  rw [hrun, hy.1]
theorem SetM.add (h : SetM w b L) (hL : L.length ≤ 1000000) (hx : x.length ≤ 4611686018427387903) :
    ∃ w', (Instr.mapUpdate 65 (.map (some b)) (.string (bs x)) (.bool true)).run Try.prog w = .ok () w' ∧ SetM w' b (L ++ [x]) ∧ w.grownBy w' (some b) := by
  have hk : keyOf Try.prog 9 (.string (bs x)) = some (.string x) := WideMaps.keyOf_string_mk Try.underlying9 (by rw [bs_size]; unfold maxLen; omega)
  obtain ⟨w', h1, h2, h3⟩ := World.ownsMap.update h (Maps.string_keyed Try.underlying9) Try.underlying65 (by unfold maxLen; omega) hk (plainElem_bool Try.underlying4 true)
  exact ⟨w', h1, by unfold SetM; rw [setD_snoc, List.length_append]; exact h2, h3⟩
theorem SetM.size (h : SetM w b L) (hn : L.Nodup) : (Builtin.len_ #[65] 3 #[.map (some b)]).run Try.prog w = .ok (.int .i64 (L.length : Nat)) w := by
  have := World.ownsMap.len h Try.underlying65 3
  rwa [setD_size L hn] at this
end

/-- a slice value that holds these strings, in a block of the call's own, from wherever in it -/
def OwnQ (w : World) (base : Nat) (v : Value) (xs : List Str) : Prop :=
  ∃ (g o cap : Nat) (cur : Array Value), v = .slice (some ⟨g, o, none⟩) xs.length cap ∧ base ≤ g ∧ w.heap[g]? = some (.cells cur 9 (0, 0)) ∧ xs.length ≤ cap ∧ cap ≤ maxLen ∧ o + cap ≤ cur.size ∧ ∀ j x, xs[j]? = some x → cur[o + j]? = some (sv x)
section
variable {w w' : World} {base : Nat} {v : Value} {xs : List Str} {x : Str}
theorem OwnQ.kept {row : Option Nat} (h : OwnQ w base v xs) (hg : w.grownBy w' row) (hne : v.ownBlock ≠ row) : OwnQ w' base v xs := by
  obtain ⟨g, o, cap, cur, rfl, h1, h2, h3⟩ := h
  exact ⟨g, o, cap, cur, rfl, h1, (hg.block g (Array.getElem?_eq_some_iff.1 h2).1 (by simpa [Value.ownBlock] using hne)).trans h2, h3⟩
theorem OwnQ.form (h : OwnQ w base v xs) : ∃ g o cap, v = .slice (some ⟨g, o, none⟩) xs.length cap := by
  obtain ⟨g, o, cap, _, rfl, _⟩ := h
  exact ⟨g, o, cap, rfl⟩
theorem OwnQ.lt (h : OwnQ w base v xs) : ∃ g, v.ownBlock = some g ∧ base ≤ g ∧ g < w.heap.size ∧ ∃ cur, w.heap[g]? = some (.cells cur 9 (0, 0)) := by
  obtain ⟨g, o, cap, cur, rfl, h1, h2, h3⟩ := h
  exact ⟨g, rfl, h1, (Array.getElem?_eq_some_iff.1 h2).1, cur, h2⟩
theorem OwnQ.one (w : World) (hb : base ≤ w.heap.size) (x : Str) : OwnQ (w.alloc (.cells #[.string (bs x)] 9)) base (.slice (some ⟨w.heap.size, 0, none⟩) 1 1) [x] :=
  ⟨w.heap.size, 0, 1, #[.string (bs x)], rfl, hb, World.alloc_heap_new w _, by simp, by simp [maxLen], by simp, fun j y hj => by
    rcases j with _ | j
    · simp at hj; subst hj; rfl
    · simp at hj⟩
/-- an unfrozen block's cells -/
theorem cell_of_blk {w : World} {g i : Nat} {cur : Array Value} {u : Value} (h : w.heap[g]? = some (.cells cur 9 (0, 0))) (hu : cur[i]? = some u) : w.cell? ⟨g, i, none⟩ = some u := by simp [World.cell?, h, hu]
theorem OwnQ.len (h : OwnQ w base v xs) : (Builtin.len_ #[26] 3 #[v]).run Try.prog w = .ok (.int .i64 (xs.length : Nat)) w := by
  obtain ⟨g, o, cap, cur, rfl, h1, h2, h3⟩ := h
  have ht : Try.prog.underlying 26 = some (.slice (Try.prog.elem 26)) := by rw [Try.underlying26]; simp [Program.elem, Try.underlying26]
  rw [run_len_slice w 26 3 _ _ _ ht]
  rfl
theorem OwnQ.head (h : OwnQ w base v (x :: xs)) : ∃ a, (Instr.indexAt 26 v (.int .i64 0)).run Try.prog w = .ok (.pointer (some a)) w ∧ w.cell? a = some (.string (bs x)) := by
  obtain ⟨g, o, cap, cur, rfl, h1, h2, h3, h4, h5, h6⟩ := h
  refine ⟨⟨g, o, none⟩, ?_, ?_⟩
  · have ht : Try.prog.underlying 26 = some (.slice (Try.prog.elem 26)) := by rw [Try.underlying26]; simp [Program.elem, Try.underlying26]
    have he : Try.prog.elem 26 = 9 := by simp [Program.elem, Try.underlying26]
    rw [run_indexAt_slice w 26 _ _ _ _ _ ht, if_pos (by simp), he, Try.sizeOf9 w]
    simp [Result.andThen, Addr.add]
  · have := cell_of_blk h2 (h6 0 x rfl)
    simpa [sv] using this
theorem OwnQ.tail (h : OwnQ w base v (x :: xs)) : ∃ v', (Instr.slice 26 v (some (.int .i64 1)) none none).run Try.prog w = .ok v' w ∧ OwnQ w base v' xs ∧ v'.ownBlock = v.ownBlock := by
  obtain ⟨g, o, cap, cur, rfl, h1, h2, h3, h4, h5, h6⟩ := h
  have ht : Try.prog.underlying 26 = some (.slice (Try.prog.elem 26)) := by rw [Try.underlying26]; simp [Program.elem, Try.underlying26]
  have he : Try.prog.elem 26 = 9 := by simp [Program.elem, Try.underlying26]
  have hz : (sizeOf 9).run Try.prog w = .ok 1 w := Try.sizeOf9 w
  have hr := run_slice_l (P := Try.prog) w 26 (some ⟨g, o, none⟩) (x :: xs).length cap ht .i64 1 (by omega) (by simp; omega)
  rw [he, hz] at hr
  simp only [Result.andThen, sliced] at hr
  have hl : (x :: xs).length = xs.length + 1 := rfl
  rw [hl] at h3 hr
  by_cases hc : cap = 1
  · refine ⟨_, hr, ⟨g, o, 0, cur, ?_, h1, h2, by omega, by omega, by omega, fun j y hj => ?_⟩, ?_⟩
    · have : xs.length = 0 := by omega
      simp [hc, this]
    · have : xs = [] := List.eq_nil_of_length_eq_zero (by omega)
      rw [this] at hj; simp at hj
    · simp [hc, Value.ownBlock]
  · have hadd : (⟨g, o, none⟩ : Addr).add (1 * 1) = ⟨g, o + 1, none⟩ := by unfold Addr.add; simp
    refine ⟨_, hr, ⟨g, o + 1, cap - 1, cur, ?_, h1, h2, by omega, by omega, by omega, fun j y hj => ?_⟩, ?_⟩
    · simp [hc, Addr.add]
    · have := h6 (j + 1) y (by simpa using hj)
      rwa [show o + (j + 1) = o + 1 + j by omega] at this
    · simp [hc, Value.ownBlock, Addr.add]
theorem grownBy_setAt (W : World) (b j : Nat) (v : Value) : W.grownBy (W.setCell ⟨b, j, none⟩ v) (some b) :=
  ⟨rfl, rfl, rfl, by simp [World.setCell], fun k _ hk => Below.heap_setCell _ _ _ k (fun e => hk (by rw [e]))⟩
theorem OwnQ.push (h : OwnQ w base v xs) (hb : base ≤ w.heap.size) (hl : xs.length ≤ 1000000) (x : Str) (a : Addr) (ha : w.cell? a = some (.string (bs x))) (hne : ∀ g, v.ownBlock = some g → a.block ≠ g) :
    ∃ v' w', (Builtin.append_ #[26, 26] 26 #[v, .slice (some a) 1 1]).run Try.prog w = .ok v' w' ∧ OwnQ w' base v' (xs ++ [x]) ∧ w.grownBy w' v.ownBlock ∧ (v'.ownBlock = v.ownBlock ∨ ∃ g, v'.ownBlock = some g ∧ w.heap.size ≤ g) := by
  obtain ⟨i0, hi, hz0, hz1, hz2⟩ := info_parts info9
  obtain ⟨g, o, cap, cur, rfl, h1, h2, h3, h4, h5, h6⟩ := h
  have hnews : ∀ j u, [Value.string (bs x)][j]? = some u → w.cell? (a.add j) = some u := fun j u hj => by
    rcases j with _ | j
    · simp at hj; subst hj; simpa [Addr.add] using ha
    · simp at hj
  by_cases hr : xs.length + 1 ≤ cap
  · have hcs : o + xs.length < cur.size := by omega
    have hrun := run_append_room_cells (P := Try.prog) (w := w) 26 26 9 i0 Try.underlying26 hi g o xs.length cap a 1 1 [.string (bs x)] (by simp [hz1]) hnews (by simp [Value.oneCell']) hr
      (fun j hj => by
        obtain rfl : j = 0 := by simpa using hj
        rw [hz1, cell_of_blk h2 (u := cur[o + xs.length]) (by simp [hcs])]; rfl)
      (fun j _ => by simp [World.frozen?, h2])
    rw [hz1] at hrun
    simp only [Nat.mul_one] at hrun
    have hset : w.setCells g (o + xs.length) [.string (bs x)] = w.setCell ⟨g, o + xs.length, none⟩ (.string (bs x)) := rfl
    rw [hset] at hrun
    refine ⟨_, _, hrun, ⟨g, o, cap, cur.setIfInBounds (o + xs.length) (.string (bs x)), by simp, h1, by simp [World.setCell, Array.getElem?_modify, h2], by simpa using hr, h4, by simpa using h5, fun j y hj => ?_⟩, grownBy_setAt _ _ _ _, .inl rfl⟩
    rcases Nat.lt_or_ge j xs.length with hlt | hge
    · rw [List.getElem?_append_left hlt] at hj
      rw [Array.getElem?_setIfInBounds_ne (by omega)]
      exact h6 j y hj
    · rw [List.getElem?_append_right hge] at hj
      have h0 : j = xs.length := by
        have := (List.getElem?_eq_some_iff.1 hj).1
        simp at this; omega
      subst h0
      simp at hj
      subst hj
      rw [Array.getElem?_setIfInBounds_self_of_lt hcs]
      rfl
  · obtain ⟨v', w', hrun, hown, hg⟩ := run_append_arg_grows (P := Try.prog) (w := w) 26 26 9 i0 (.string { data := #[] }) 1 16 Try.underlying26 hi hz0 hz1 hz2 rfl (by decide) ⟨g, o, none⟩ xs.length cap (xs.map sv) (by simp)
      (fun j u hj => by
        rw [List.getElem?_map] at hj
        obtain ⟨y, hy, rfl⟩ := Option.map_eq_some_iff.1 hj
        have hadd : (⟨g, o, none⟩ : Addr).add j = ⟨g, o + j, none⟩ := by unfold Addr.add; split <;> simp_all
        rw [hadd]
        exact cell_of_blk h2 (h6 j y hy))
      a 1 1 [.string (bs x)] (by simp) hnews (by omega) (by unfold maxLen; omega) (by omega)
    have hG : w.grownBy w' (Value.ownBlock (.slice (some ⟨g, o, none⟩) xs.length cap)) := ⟨hg.os, hg.tape, hg.output, hg.size, fun i hi _ => hg.block i hi (by simp)⟩
    rcases hown.2 with ⟨_, h0⟩ | ⟨g', cap', cur', rfl, hbb, hh, hnc, hcm, hsz, htk⟩
    · omega
    · refine ⟨_, w', hrun, ⟨g', 0, cap', cur', by simp, Nat.le_trans hb hbb, hh, by simpa using hnc, hcm, by omega, fun j y hj => ?_⟩, hG, .inr ⟨g', rfl, hbb⟩⟩
      have hjl : j < xs.length + 1 := by have := (List.getElem?_eq_some_iff.1 hj).1; simpa using this
      have hm : (xs.map sv ++ [.string (bs x)])[j]? = some (sv y) := by
        have : xs.map sv ++ [.string (bs x)] = (xs ++ [x]).map sv := by simp [sv]
        rw [this, List.getElem?_map, hj]; rfl
      rw [← htk, List.getElem?_take, if_pos (by omega)] at hm
      rw [Nat.zero_add, ← Array.getElem?_toList]
      exact hm
end
end Go.Proofs.Ytamdonlncfmmmaa
