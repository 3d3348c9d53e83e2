import Derived.Test.YtjmebijckcimoaaGreatDoorCg
import Derived.Test.YtjmebijckcimoaaGreatDoorRk24r


namespace Go.Proofs.YtjmebijckcimoaaGreatDoor
open Go.RowKit Go.Ap Go.Shelf Go.Proofs

section
variable (e : Int) (al : List Vg.Arc)
/-- the node behind, as the arcs of L say (-1: none) -/
def nxL (L : List Vg.Arc) : Int → Int := L.foldl (fun F a => if Vg.Simp e al a then fun k => if k = a.1.1 then a.1.2 else F k else F) fun _ => -1
/-- whether a node begins a list, as the arcs of L say -/
def beL (L : List Vg.Arc) : Int → Bool := L.foldl (fun F a => if Vg.Simp e al a then fun k => if k = a.1.2 then false else F k else F) fun _ => true
theorem nxL_nil : nxL e al [] = fun _ => -1 := rfl
theorem beL_nil : beL e al [] = fun _ => true := rfl
theorem nxL_snoc (L : List Vg.Arc) (a : Vg.Arc) : nxL e al (L ++ [a]) = if Vg.Simp e al a then fun k => if k = a.1.1 then a.1.2 else nxL e al L k else nxL e al L := by
  unfold nxL
  rw [List.foldl_append]
  rfl
theorem beL_snoc (L : List Vg.Arc) (a : Vg.Arc) : beL e al (L ++ [a]) = if Vg.Simp e al a then fun k => if k = a.1.2 then false else beL e al L k else beL e al L := by
  unfold beL
  rw [List.foldl_append]
  rfl
theorem snoc_ind {α : Type} {P : List α → Prop} (h0 : P []) (h1 : ∀ l a, P l → P (l ++ [a])) : ∀ l, P l := fun l => by
  have : ∀ n (l : List α), l.length = n → P l := fun n => by
    induction n with
    | zero => intro l hl; rw [List.eq_nil_of_length_eq_zero hl]; exact h0
    | succ n ih =>
      intro l hl
      have hne : l ≠ [] := fun h => by rw [h] at hl; cases hl
      rw [← List.dropLast_concat_getLast hne]
      exact h1 _ _ (ih _ (by rw [List.length_dropLast]; omega))
  exact this _ l rfl
theorem nxL_spec : ∀ (L : List Vg.Arc) (k : Int), (nxL e al L k = -1 ∧ ∀ a ∈ L, Vg.Simp e al a → a.1.1 ≠ k) ∨ ∃ a ∈ L, Vg.Simp e al a ∧ a.1.1 = k ∧ a.1.2 = nxL e al L k :=
  snoc_ind (P := fun L => ∀ k : Int, (nxL e al L k = -1 ∧ ∀ a ∈ L, Vg.Simp e al a → a.1.1 ≠ k) ∨ ∃ a ∈ L, Vg.Simp e al a ∧ a.1.1 = k ∧ a.1.2 = nxL e al L k)
    (fun k => .inl ⟨rfl, fun a h => by cases h⟩)
    (fun L a ih k => by
      rw [nxL_snoc]
      by_cases hs : Vg.Simp e al a
      · rw [if_pos hs]
        by_cases hk : k = a.1.1
        · exact .inr ⟨a, by simp, hs, hk.symm, by simp only [if_pos hk]⟩
        · simp only [if_neg hk]
          rcases ih k with ⟨h1, h2⟩ | ⟨b, h1, h2, h3, h4⟩
          · refine .inl ⟨h1, fun b hb hsb => ?_⟩
            rcases List.mem_append.1 hb with hb | hb
            · exact h2 b hb hsb
            · rw [List.mem_singleton] at hb
              rw [hb]
              exact fun h => hk h.symm
          · exact .inr ⟨b, List.mem_append_left _ h1, h2, h3, h4⟩
      · rw [if_neg hs]
        rcases ih k with ⟨h1, h2⟩ | ⟨b, h1, h2, h3, h4⟩
        · refine .inl ⟨h1, fun b hb hsb => ?_⟩
          rcases List.mem_append.1 hb with hb | hb
          · exact h2 b hb hsb
          · rw [List.mem_singleton] at hb
            exact absurd (hb ▸ hsb) hs
        · exact .inr ⟨b, List.mem_append_left _ h1, h2, h3, h4⟩)
theorem beL_spec : ∀ (L : List Vg.Arc) (k : Int), beL e al L k = true ↔ ∀ a ∈ L, Vg.Simp e al a → a.1.2 ≠ k :=
  snoc_ind (P := fun L => ∀ k : Int, beL e al L k = true ↔ ∀ a ∈ L, Vg.Simp e al a → a.1.2 ≠ k)
    (fun k => ⟨fun _ a h => (by cases h), fun _ => rfl⟩)
    (fun L a ih k => by
      rw [beL_snoc]
      have hm : (∀ b ∈ L ++ [a], Vg.Simp e al b → b.1.2 ≠ k) ↔ (∀ b ∈ L, Vg.Simp e al b → b.1.2 ≠ k) ∧ (Vg.Simp e al a → a.1.2 ≠ k) :=
        ⟨fun h => ⟨fun b hb => h b (List.mem_append_left _ hb), h a (by simp)⟩, fun h b hb => by
          rcases List.mem_append.1 hb with hb | hb
          · exact h.1 b hb
          · rw [List.mem_singleton] at hb
            rw [hb]
            exact h.2⟩
      rw [hm]
      by_cases hs : Vg.Simp e al a
      · rw [if_pos hs]
        by_cases hk : k = a.1.2
        · simp only [if_pos hk]
          exact ⟨fun h => (by cases h), fun h => absurd hk.symm (h.2 hs)⟩
        · simp only [if_neg hk]
          rw [ih k]
          exact ⟨fun h => ⟨h, fun _ h' => hk h'.symm⟩, fun h => h.1⟩
      · rw [if_neg hs, ih k]
        exact ⟨fun h => ⟨h, fun h' => absurd h' hs⟩, fun h => h.1⟩)
theorem beL_all (k : Int) : beL e al al k = (Vg.pre e al k).isNone := by
  rw [Bool.eq_iff_iff, beL_spec, Option.isNone_iff_eq_none, Vg.pre_none]
end
section
variable {e : Int} {al : List Vg.Arc} (V : Vg.ValidG e al)
include V
omit V in
/-- the node behind y: the walk goes on -/
theorem nx_next {y t : Int} (h : nxL e al al y = t) (ht : 0 ≤ t) : Vg.pre e al t = some y := by
  rcases nxL_spec e al al y with ⟨h1, _⟩ | ⟨a, ha, hs, h1, h2⟩
  · omega
  · rw [Vg.pre_some]
    exact ⟨a, ha, hs, by rw [← h, ← h2, ← h1]⟩
/-- no node behind y: the list is told -/
theorem nx_last {y : Int} (h : nxL e al al y < 0) : ∀ a ∈ al, Vg.Simp e al a → a.1.1 ≠ y := by
  rcases nxL_spec e al al y with ⟨_, h2⟩ | ⟨a, ha, hs, h1, h2⟩
  · exact h2
  · have := V.rng a ha
    omega
theorem nx_lt {y : Int} : nxL e al al y ≤ e := by
  rcases nxL_spec e al al y with ⟨h1, _⟩ | ⟨a, ha, hs, h1, h2⟩
  · have := V.pos
    omega
  · have := hs.2.1
    omega
/-- the numbers when the lists that begin ahead of x are told, and of x's own list the nodes as deep as d -/
def nmF (e : Int) (al : List Vg.Arc) (x : Int) (d : Nat) (k : Int) : Int := if Vg.fst e al k < x ∨ (Vg.fst e al k = x ∧ Vg.dep e al k < d) then Vg.num e al k else 0
theorem nm_zero {k : Int} (hk : 0 ≤ k) : nmF e al 0 0 k = 0 := by
  have := V.fst_nn (k := k) hk
  unfold nmF
  rw [if_neg (by omega)]
theorem nm_first {x : Int} (hx : Vg.pre e al x = none) (k : Int) : (if k = x then Vg.num e al x else nmF e al x 0 k) = nmF e al x 1 k := by
  have hf := (V.fst_none hx)
  unfold nmF
  by_cases hk : k = x
  · subst hk
    rw [if_pos rfl, if_pos (by omega)]
  · rw [if_neg hk]
    by_cases h1 : Vg.fst e al k = x ∧ Vg.dep e al k < 1
    · have h2 : Vg.dep e al k = 0 := by omega
      exact absurd ((V.fst_none (V.dep_zero.1 h2)).1.symm.trans h1.1) hk
    · by_cases h2 : Vg.fst e al k < x
      · rw [if_pos (.inl h2), if_pos (.inl h2)]
      · rw [if_neg (by omega), if_neg (by omega)]
theorem nm_next {x y t : Int} (hy : Vg.fst e al y = x) (hp : Vg.pre e al t = some y) (k : Int) : (if k = t then Vg.num e al x else nmF e al x (Vg.dep e al y + 1) k) = nmF e al x (Vg.dep e al t + 1) k := by
  obtain ⟨f1, f2⟩ := V.fst_some hp
  unfold nmF
  by_cases hk : k = t
  · subst hk
    rw [if_pos rfl, if_pos (by omega), ← V.num_fst k, f1, hy]
  · rw [if_neg hk]
    by_cases h1 : Vg.fst e al k = x ∧ Vg.dep e al k = Vg.dep e al t
    · exact absurd (V.same_dep (Vg.dep e al t) (x := k) (y := t) (by rw [h1.1, f1, hy]) h1.2 rfl) hk
    · by_cases h2 : Vg.fst e al k < x ∨ (Vg.fst e al k = x ∧ Vg.dep e al k < Vg.dep e al y + 1)
      · rw [if_pos h2, if_pos (by omega)]
      · rw [if_neg h2, if_neg (by omega)]
theorem nm_end {x y : Int} (hy : Vg.fst e al y = x) (h : ∀ a ∈ al, Vg.Simp e al a → a.1.1 ≠ y) (k : Int) : nmF e al x (Vg.dep e al y + 1) k = nmF e al (x + 1) 0 k := by
  unfold nmF
  by_cases h1 : Vg.fst e al k = x ∧ Vg.dep e al y < Vg.dep e al k
  · obtain ⟨a, ha, hs, h2⟩ := V.goes_on (Vg.dep e al k) (x := y) (y := k) (by rw [hy, h1.1]) rfl h1.2
    exact absurd h2 (h a ha hs)
  · by_cases h2 : Vg.fst e al k < x + 1
    · rw [if_pos (by omega), if_pos (.inl h2)]
    · rw [if_neg (by omega), if_neg (by omega)]
theorem nm_skip {x : Int} (hx : Vg.pre e al x ≠ none) (k : Int) : nmF e al x 0 k = nmF e al (x + 1) 0 k := by
  have hk : Vg.fst e al k ≠ x := fun h => by
    have := (V.fst_le k.toNat k rfl).2.1
    rw [h] at this
    exact hx this
  unfold nmF
  by_cases h2 : Vg.fst e al k < x
  · rw [if_pos (.inl h2), if_pos (.inl (by omega))]
  · rw [if_neg (by omega), if_neg (by omega)]
theorem nm_all {k : Int} (hk : 0 ≤ k ∧ k ≤ e) : nmF e al (e + 1) 0 k = Vg.num e al k := by
  have := (V.fst_le k.toNat k rfl).1
  unfold nmF
  rw [if_pos (.inl (by omega))]
end
/-- the arcs laid behind f whole rows, t places of the next, and i arcs looked at -/
def rowC (e : Int) (al : List Vg.Arc) (L : List Vg.Arc) (f t : Nat) : List Vg.Arc := (L.filter fun a => decide (¬Vg.Simp e al a ∧ Vg.mapE (Vg.num e al) a.1 = ((f : Int), (t : Int)))).map fun a => (((f : Int), (t : Int)), a.2)
def cellC (e : Int) (al : List Vg.Arc) (f t : Nat) : List Vg.Arc := if f < t then rowC e al al f t else []
def arcsK (e : Int) (al : List Vg.Arc) (n f t i : Nat) : List Vg.Arc := ((List.range f).flatMap fun f => (List.range n).flatMap fun t => cellC e al f t) ++ (((List.range t).flatMap fun t => cellC e al f t) ++ rowC e al (al.take i) f t)
theorem arcsK_zero (e : Int) (al : List Vg.Arc) (n f : Nat) : arcsK e al n f (f + 1) 0 = (List.range f).flatMap fun f => (List.range n).flatMap fun t => cellC e al f t := by
  unfold arcsK
  have h : ((List.range (f + 1)).flatMap fun t => cellC e al f t) = [] := by
    rw [List.flatMap_eq_nil_iff]
    intro t ht
    rw [List.mem_range] at ht
    unfold cellC
    rw [if_neg (by omega)]
  rw [h]
  simp [rowC]
theorem arcsK_miss (e : Int) (al : List Vg.Arc) (n f t i : Nat) {a : Vg.Arc} (ha : al[i]? = some a) (h : ¬(¬Vg.Simp e al a ∧ Vg.num e al a.1.1 = (f : Int) ∧ Vg.num e al a.1.2 = (t : Int))) : arcsK e al n f t (i + 1) = arcsK e al n f t i := by
  unfold arcsK rowC
  rw [List.take_add_one, ha]
  simp only [Option.toList_some, List.filter_append]
  rw [List.filter_cons_of_neg (by
    rw [decide_eq_true_iff]
    rintro ⟨h1, h2⟩
    exact h ⟨h1, congrArg Prod.fst h2, congrArg Prod.snd h2⟩)]
  simp
theorem arcsK_hit (e : Int) (al : List Vg.Arc) (n f t i : Nat) {a : Vg.Arc} (ha : al[i]? = some a) (h : ¬Vg.Simp e al a) (h1 : Vg.num e al a.1.1 = (f : Int)) (h2 : Vg.num e al a.1.2 = (t : Int)) : arcsK e al n f t (i + 1) = arcsK e al n f t i ++ [(((f : Int), (t : Int)), a.2)] := by
  unfold arcsK rowC
  rw [List.take_add_one, ha]
  simp only [Option.toList_some, List.filter_append]
  rw [List.filter_cons_of_pos (by
    rw [decide_eq_true_iff]
    exact ⟨h, Prod.ext h1 h2⟩)]
  simp
theorem arcsK_next (e : Int) (al : List Vg.Arc) (n f t : Nat) (h : f < t) : arcsK e al n f t al.length = arcsK e al n f (t + 1) 0 := by
  unfold arcsK
  rw [List.take_length, List.range_succ, List.flatMap_append]
  simp only [List.flatMap_cons, List.flatMap_nil, List.append_nil, List.take_zero]
  rw [show cellC e al f t = rowC e al al f t by unfold cellC; rw [if_pos h]]
  simp [rowC]
theorem arcsK_row (e : Int) (al : List Vg.Arc) (n f : Nat) : arcsK e al n f n 0 = (List.range (f + 1)).flatMap fun f => (List.range n).flatMap fun t => cellC e al f t := by
  unfold arcsK
  rw [List.range_succ, List.flatMap_append]
  simp [rowC]
theorem flat_len {α β : Type} (g : α → List β) (c : Nat) : ∀ l : List α, (∀ x ∈ l, (g x).length ≤ c) → (l.flatMap g).length ≤ l.length * c
  | [], _ => by simp
  | a :: r, h => by
    rw [List.flatMap_cons, List.length_append, List.length_cons, Nat.succ_mul]
    have h1 := h a (by simp)
    have h2 := flat_len g c r fun x hx => h x (List.mem_cons_of_mem _ hx)
    omega
theorem rowC_len (e : Int) (al L : List Vg.Arc) (f t : Nat) : (rowC e al L f t).length ≤ L.length := by
  unfold rowC
  rw [List.length_map]
  exact List.length_filter_le _ _
theorem arcsK_len (e : Int) (al : List Vg.Arc) {n f t i : Nat} (hn : n ≤ 4096) (hf : f ≤ 4096) (ht : t ≤ 4097) (hl : al.length ≤ 4096) : (arcsK e al n f t i).length ≤ 100000000000 := by
  have hc : ∀ f t, (cellC e al f t).length ≤ 4096 := fun f t => by
    unfold cellC
    split
    · exact Nat.le_trans (rowC_len e al al f t) hl
    · simp
  unfold arcsK
  rw [List.length_append, List.length_append]
  have h1 := flat_len (fun f => (List.range n).flatMap fun t => cellC e al f t) 16777216 (List.range f) fun x _ => by
    have := flat_len (fun t => cellC e al x t) 4096 (List.range n) fun y _ => hc x y
    rw [List.length_range] at this
    omega
  have h2 := flat_len (fun t => cellC e al f t) 4096 (List.range t) fun y _ => hc f y
  have h3 := rowC_len e al (al.take i) f t
  rw [List.length_range] at h1 h2
  rw [List.length_take] at h3
  omega
theorem arcsK_end (e : Int) (al : List Vg.Arc) (n : Nat) : ((List.range n).flatMap fun f => (List.range n).flatMap fun t => cellC e al f t) = Vg.arcsC e al n := rfl
theorem arcsC_len (e : Int) (al : List Vg.Arc) {n : Nat} (hn : n ≤ 4096) (hl : al.length ≤ 4096) : (Vg.arcsC e al n).length ≤ 100000000000 := by
  rw [← arcsK_end, ← arcsK_zero]
  exact arcsK_len e al hn hn (by omega) hl
end Go.Proofs.YtjmebijckcimoaaGreatDoor


namespace Go.Proofs.YtjmebijckcimoaaGreatDoor
open Go.RowKit Go.Ap Go.Shelf Go.Proofs

attribute [local go_sem] Oper.semAt_some bs_toList empty_toList bs_size bs_extract
theorem countP_zero {α : Type} {p : α → Bool} {l : List α} : l.countP p = 0 ↔ ∀ (k : Nat) y, l[k]? = some y → p y = false := by
 rw [List.countP_eq_zero]
 constructor
 · intro h k y hy
   have := h y (List.mem_of_getElem? hy)
   simpa using this
 · intro h y hy
   obtain ⟨k, hk⟩ := List.getElem?_of_mem hy
   simp [h k y hk]
theorem countP_one {α : Type} {p : α → Bool} {l : List α} {i : Nat} {x : α} (hx : l[i]? = some x) (hp : p x = true) : l.countP p = 1 ↔ ∀ (k : Nat) y, l[k]? = some y → k ≠ i → p y = false := by
 obtain ⟨hi, rfl⟩ := List.getElem?_eq_some_iff.1 hx
 have e : l = l.take i ++ l[i] :: l.drop (i + 1) := by rw [List.getElem_cons_drop, List.take_append_drop]
 have h1 : l.countP p = (l.take i).countP p + ((l.drop (i + 1)).countP p + 1) := by
  conv => lhs; rw [e]
  rw [List.countP_append, List.countP_cons, if_pos hp]
 constructor
 · intro h k y hy hk
   have ha : (l.take i).countP p = 0 := by omega
   have hb : (l.drop (i + 1)).countP p = 0 := by omega
   rcases Nat.lt_or_ge k i with hlt | hge
   · exact countP_zero.1 ha k y (by rw [List.getElem?_take, if_pos hlt]; exact hy)
   · exact countP_zero.1 hb (k - (i + 1)) y (by rw [List.getElem?_drop, show i + 1 + (k - (i + 1)) = k by omega]; exact hy)
 · intro h
   have ha : (l.take i).countP p = 0 := countP_zero.2 fun k y hy => by
    rw [List.getElem?_take] at hy
    split at hy
    · exact h k y hy (by omega)
    · cases hy
   have hb : (l.drop (i + 1)).countP p = 0 := countP_zero.2 fun k y hy => by
    rw [List.getElem?_drop] at hy
    exact h _ y hy (by omega)
   omega
theorem simp_at {e : Int} {al : List Vg.Arc} {i : Nat} {f t : Int} {src : List Int} (hx : al[i]? = some ((f, t), src)) (h0 : 0 ≤ f) (h1 : t ≤ e) : Vg.Simp e al ((f, t), src) ↔ f ≠ 0 ∧ t ≠ e ∧ ∀ (k : Nat) y, al[k]? = some y → k ≠ i → y.1.1 ≠ f ∧ y.1.2 ≠ t := by
 have ha : Vg.lvE al f = 1 ↔ ∀ (k : Nat) y, al[k]? = some y → k ≠ i → y.1.1 ≠ f := by
  unfold Vg.lvE
  rw [countP_one hx (by simp)]
  simp
 have hb : Vg.enE al t = 1 ↔ ∀ (k : Nat) y, al[k]? = some y → k ≠ i → y.1.2 ≠ t := by
  unfold Vg.enE
  rw [countP_one hx (by simp)]
  simp
 show (0 < f ∧ t < e ∧ Vg.lvE al f = 1 ∧ Vg.enE al t = 1) ↔ _
 rw [ha, hb]
 constructor
 · rintro ⟨g1, g2, g3, g4⟩
   exact ⟨by omega, by omega, fun k y hy hk => ⟨g3 k y hy hk, g4 k y hy hk⟩⟩
 · rintro ⟨g1, g2, g3⟩
   exact ⟨by omega, by omega, fun k y hy hk => (g3 k y hy hk).1, fun k y hy hk => (g3 k y hy hk).2⟩
set_option maxRecDepth 100000 in
set_option maxHeartbeats 4000000 in
theorem simp61 (ws : List Str) (al : List Vg.Arc) (a1 : Option Addr) (n1 c1 : Nat) (a2 : Option Addr) (n2 c2 : Nat) (i : Nat) (x : Vg.Arc) (w : World) (h : GraphM w a1 n1 a2 n2 ws al) (hn1 : n1 ≤ 4096) (hn2 : n2 ≤ 65536) (d0 : 2 ≤ n1) (hx : al[i]? = some x) (hr : 0 ≤ x.1.1 ∧ x.1.1 < x.1.2 ∧ x.1.2 < (n1 : Int)) :
 Calls Tryz.prog 61 #[graphV a1 n1 c1 a2 n2 c2, .int .i64 i] w fun e w' => e = .returned (.bool (decide (Vg.Simp ((n1 : Int) - 1) al x))) ∧ Below w.heap.size w w' := by
 have hl2 := h.arcs.len
 have hin : i < n2 := by rw [← hl2]; exact (List.getElem?_eq_some_iff.1 hx).1
 obtain ⟨⟨f, t⟩, src⟩ := x
 simp only at hr
 have hS := simp_at hx hr.1 (show t ≤ (n1 : Int) - 1 by omega)
 obtain ⟨R, hR⟩ : ∃ R, decide (Vg.Simp ((n1 : Int) - 1) al ((f, t), src)) = R := ⟨_, rfl⟩
 have HSI := Lib.hid (show R = true ↔ (f ≠ 0 ∧ t ≠ (n1 : Int) - 1 ∧ ∀ (k : Nat) y, al[k]? = some y → k ≠ i → y.1.1 ≠ f ∧ y.1.2 ≠ t) by rw [← hR, decide_eq_true_iff]; exact hS)
 rw [hR]
 obtain ⟨W4, hW4⟩ : ∃ W4, w.alloc (.cells #[.slice a1 n1 c1, .slice a2 n2 c2] 31) = W4 := ⟨_, rfl⟩
 have HB4 := Lib.hid (show Below w.heap.size w W4 by rw [← hW4]; exact balloc _ _)
 have HBX := Lib.hid (show BoxG W4 w.heap.size a1 n1 c1 a2 n2 c2 by rw [← hW4]; exact BoxG.new w a1 n1 c1 a2 n2 c2)
 have HG := Lib.hid (show Arcs W4 a2 n2 al from h.arcs.mono (Nat.le_refl _) HB4.out)
 obtain ⟨x', b, off, a5, k5, hx', rfl, p0, p1, p2, _⟩ := HG.out.at hin
 rw [hx] at hx'
 cases hx'
 simp only at p0 p1 p2
 obtain ⟨m5, hm5⟩ : ∃ m, src.length = m := ⟨_, rfl⟩
 rw [hm5] at p2
 have kb := balloc W4 (.cells #[.int .i64 f, .int .i64 t, .slice a5 m5 k5] 48)
 obtain ⟨X, hX⟩ : ∃ X, W4.heap.size = X := ⟨_, rfl⟩
 have hK : BlkK (W4.alloc (.cells #[.int .i64 f, .int .i64 t, .slice a5 m5 k5] 48)) X #[.int .i64 f, .int .i64 t, .slice a5 m5 k5] 48 := by rw [← hX]; exact BlkK.new W4 _ _
 obtain ⟨W5, hW5⟩ : ∃ W, W4.alloc (.cells #[.int .i64 f, .int .i64 t, .slice a5 m5 k5] 48) = W := ⟨_, rfl⟩
 rw [hW5] at kb hK
 have HK := Lib.hid hK
 have HX5 := Lib.hid (HBX.out.below kb)
 have HB5 := Lib.hid (bstep HB4.out kb)
 have HA5 := Lib.hid (HG.out.mono (Nat.le_refl _) kb)
 have hwn : IntKind.i64.wrap ((n1 : Int) - 1) = (n1 : Int) - 1 := IntWalk.i64_in _ (by omega)
 have x0 : W5.cell? ⟨X, 0, none⟩ = some (.int .i64 f) := hK.cell (i := 0) rfl
 have x1 : W5.cell? ⟨X, 1, none⟩ = some (.int .i64 t) := hK.cell (i := 1) rfl
 have i1 : (i : Int) < (n2 : Int) := by omega
 obtain ⟨j0, j1⟩ := HX5.out
 have HL2 := Lib.hid hl2
 clear h hl2 hx hr hS hR kb hK hm5
 unfold graphV
 go_enter Tryz.func61, Tryz.ntmps61
 obtain ⟨k0, k1⟩ := HBX.out
 by_cases hf : f = 0
 · have e1 : (f == 0) = true := beq_iff_eq.2 hf
   have HE := Lib.hid (show R = false from by cases hq : R; rfl; exact absurd hf (HSI.out.1 hq).1)
   clear hf
   go_wp2_with (fail)
   go_ret
   exact ⟨by rw [HE.out]; rfl, HB5.out⟩
 have e1 : (f == 0) = false := beq_eq_false_iff_ne.2 hf
 by_cases ht : t = (n1 : Int) - 1
 · have e2 : (t == (n1 : Int) - 1) = true := beq_iff_eq.2 ht
   have HE := Lib.hid (show R = false from by cases hq : R; rfl; exact absurd ht (HSI.out.1 hq).2.1)
   clear hf ht
   go_wp2_with (fail)
   go_ret
   exact ⟨by rw [HE.out]; rfl, HB5.out⟩
 have e2 : (t == (n1 : Int) - 1) = false := beq_eq_false_iff_ne.2 ht
 have HF := Lib.hid hf
 have HT := Lib.hid ht
 clear hf ht
 go_wp2_with (fail)
 clear k0 k1 j0 j1 x0 x1 e1 e2 hwn p0 p1 p2 i1 hX hW5 hW4
 go_loopw [6] (fun kv wr => ∃ k : Nat, k ≤ n2 ∧ kv = .int .i64 k ∧ Below W5.heap.size W5 wr ∧ ∀ j y, j < k → al[j]? = some y → j ≠ i → y.1.1 ≠ f ∧ y.1.2 ≠ t) (fun kv _ => n2 - (intOf kv).toNat)
 case atStart => exact ⟨0, Nat.zero_le _, rfl, Below.refl _ _, fun j y hj => by omega⟩
 case round =>
  obtain ⟨wk, rfl⟩ : ∃ wk : World, wk = wr := ⟨_, rfl⟩
  obtain ⟨k, hk, rfl, hb, hok⟩ := hrel
  have HB := Lib.hid hb
  have HOK := Lib.hid hok
  obtain ⟨j0, j1⟩ := HX5.out.below hb
  clear hok
  by_cases hkn : k < n2
  case neg =>
   obtain rfl : n2 = k := by omega
   have HE := Lib.hid (show R = true from HSI.out.2 ⟨HF.out, HT.out, fun j y hy hj => HOK.out j y (by rw [← HL2.out]; exact (List.getElem?_eq_some_iff.1 hy).1) hy hj⟩)
   clear hb hk hkn
   go_wp2_with (fail)
   go_ret
   exact ⟨by rw [HE.out]; rfl, bstep HB5.out HB.out⟩
  obtain ⟨y, b', off', a6, k6, hy, he, p0, p1, _, _⟩ := (HA5.out.mono (Nat.le_refl _) hb).at hkn
  cases he
  have HP0 := Lib.hid p0
  have HP1 := Lib.hid p1
  have HX0 := Lib.hid (cell_keep hb (show W5.cell? ⟨X, 0, none⟩ = some (.int .i64 f) from HK.out.cell (i := 0) rfl))
  have HX1 := Lib.hid (cell_keep hb (show W5.cell? ⟨X, 1, none⟩ = some (.int .i64 t) from HK.out.cell (i := 1) rfl))
  have HJ1 := Lib.hid j1
  have HY := Lib.hid hy
  have HKN := Lib.hid hkn
  obtain ⟨⟨f', t'⟩, src'⟩ := y
  simp only at HP0 HP1
  have i1 : (k : Int) < (n2 : Int) := by omega
  clear hb hk hkn hy p0 p1 j0
  by_cases hki : k = i
  · have z0 : ((k : Int) != (i : Int)) = false := by rw [bne_eq_false_iff_eq]; omega
    have HKI := Lib.hid hki
    clear hki
    go_wp2_with (fail)
    clear j1
    refine (wpIn_wide (n := 20)).1 ?_
    refine wpIn_region_planM (fun W' => Below wk.heap.size wk W') 25 (.take 0 <| .take 1 <| .take 2 <| .take 3 <| .take 4 <| .take 5 <| .take 6 <| .take 7 <| .take 8 <| .take 9 <| .take 10 <| .take 11 <| .take 12 <| .take 13 <| .take 14 <| .take 15 <| .take 16 <| .take 17 <| .take 18 <| .take 19 <| .take 20 <| .take 21 <| .take 22 <| .take 23 <| .take 24 <| .fin) (fun _ => trivial) (by kernel_rfl) (by kernel_rfl) (bdrewN wk 1) ?_
    iterate 4
     apply pm_take rfl rfl (by rfl)
     case hy =>
      rintro W' hb'
      clear hb'
      go_simp
      first | done | with_reducible rfl
     simp only [List.setIfInBounds_toArray, List.set_cons_zero, List.set_cons_succ]
    iterate 10
     apply pm_no (j := 3) (t := 34) (b := false) (c := true) rfl rfl rfl rfl rfl (by simp) rfl
     simp only [List.setIfInBounds_toArray, List.set_cons_zero, List.set_cons_succ]
    iterate 9
     apply pm_un (j := 13) (t := 44) rfl rfl rfl rfl rfl (by simp)
     simp only [List.setIfInBounds_toArray, List.set_cons_zero, List.set_cons_succ]
    apply pm_no (j := 3) (t := 34) (b := false) (c := true) rfl rfl rfl rfl rfl (by simp) rfl
    simp only [List.setIfInBounds_toArray, List.set_cons_zero, List.set_cons_succ]
    apply pm_take rfl rfl (by rfl)
    case hy =>
     rintro W' hb'
     clear hb'
     go_simp
     first | done | with_reducible rfl
    simp only [List.setIfInBounds_toArray, List.set_cons_zero, List.set_cons_succ]
    refine pm_fin ?_
    gi_wp2_with (fail)
    go_wp2_with (fail)
    exact ⟨⟨k + 1, by have := HKN.out; omega, by simp, below_drew' HB.out, fun j y hj hy hji => by
     by_cases hjk : j = k
     · exact absurd (hjk.trans HKI.out) hji
     · exact HOK.out j y (by omega) hy hji⟩, by have := HKN.out; simp [intOf]; omega⟩
  have z0 : ((k : Int) != (i : Int)) = true := by rw [bne_iff_ne]; omega
  have HKI := Lib.hid hki
  clear hki
  by_cases hf : f' = f
  · have z1 : (f' == f) = true := beq_iff_eq.2 hf
    have HE := Lib.hid (show R = false from by cases hq : R; rfl; exact absurd hf (((HSI.out.1 hq).2.2 k _ HY.out HKI.out).1))
    clear hf
    go_wp2_with (fail)
    clear j1
    refine (wpIn_wide (n := 20)).1 ?_
    refine wpIn_region_planM (fun W' => Below wk.heap.size wk W') 25 (.take 0 <| .take 1 <| .take 2 <| .take 3 <| .take 4 <| .take 5 <| .take 6 <| .take 7 <| .take 8 <| .take 9 <| .take 10 <| .take 11 <| .take 12 <| .take 13 <| .take 14 <| .take 15 <| .take 16 <| .take 17 <| .take 18 <| .take 19 <| .take 20 <| .take 21 <| .take 22 <| .take 23 <| .take 24 <| .fin) (fun _ => trivial) (by kernel_rfl) (by kernel_rfl) (bdrewN wk 1) ?_
    iterate 4
     apply pm_take rfl rfl (by rfl)
     case hy =>
      rintro W' hb'
      clear hb'
      go_simp
      first | done | with_reducible rfl
     simp only [List.setIfInBounds_toArray, List.set_cons_zero, List.set_cons_succ]
    apply pm_gd (j := 3) (t := 34) (b := true) (c := true) rfl rfl rfl rfl rfl (by simp) rfl
    case hy =>
     rintro W' hb'
     clear hb'
     go_simp
     first | done | with_reducible rfl
    simp only [List.setIfInBounds_toArray, List.set_cons_zero, List.set_cons_succ]
    apply pm_gd (j := 3) (t := 34) (b := true) (c := true) rfl rfl rfl rfl rfl (by simp) rfl
    case hy =>
     rintro W' hb'
     have c0 := cell_keep hb' HX0.out
     have c1 := cell_keep hb' HX1.out
     have c2 := cell_keep hb' HP0.out
     have c3 := cell_keep hb' HP1.out
     have c4 := cell_keep hb' HJ1.out
     clear hb'
     go_simp
     first | done | with_reducible rfl
    simp only [List.setIfInBounds_toArray, List.set_cons_zero, List.set_cons_succ]
    iterate 3
     apply pm_gd (j := 3) (t := 34) (b := true) (c := true) rfl rfl rfl rfl rfl (by simp) rfl
     case hy =>
      rintro W' hb'
      clear hb'
      go_simp
      first | done | with_reducible rfl
     simp only [List.setIfInBounds_toArray, List.set_cons_zero, List.set_cons_succ]
    apply pm_gd (j := 3) (t := 34) (b := true) (c := true) rfl rfl rfl rfl rfl (by simp) rfl
    case hy =>
     rintro W' hb'
     have c0 := cell_keep hb' HX0.out
     have c1 := cell_keep hb' HX1.out
     have c2 := cell_keep hb' HP0.out
     have c3 := cell_keep hb' HP1.out
     have c4 := cell_keep hb' HJ1.out
     clear hb'
     go_simp
     first | done | with_reducible rfl
    simp only [List.setIfInBounds_toArray, List.set_cons_zero, List.set_cons_succ]
    apply pm_gd (j := 3) (t := 34) (b := true) (c := true) rfl rfl rfl rfl rfl (by simp) rfl
    case hy =>
     rintro W' hb'
     clear hb'
     go_simp
     first | done | with_reducible rfl
    simp only [List.setIfInBounds_toArray, List.set_cons_zero, List.set_cons_succ]
    apply pm_gd (j := 3) (t := 34) (b := true) (c := true) rfl rfl rfl rfl rfl (by simp) rfl
    case hy =>
     rintro W' hb'
     have c0 := cell_keep hb' HX0.out
     have c1 := cell_keep hb' HX1.out
     have c2 := cell_keep hb' HP0.out
     have c3 := cell_keep hb' HP1.out
     have c4 := cell_keep hb' HJ1.out
     clear hb'
     go_simp
     first | done | with_reducible rfl
    simp only [List.setIfInBounds_toArray, List.set_cons_zero, List.set_cons_succ]
    iterate 2
     apply pm_gd (j := 3) (t := 34) (b := true) (c := true) rfl rfl rfl rfl rfl (by simp) rfl
     case hy =>
      rintro W' hb'
      clear hb'
      go_simp
      first | done | with_reducible rfl
     simp only [List.setIfInBounds_toArray, List.set_cons_zero, List.set_cons_succ]
    iterate 9
     apply pm_no (j := 13) (t := 44) (b := true) (c := false) rfl rfl rfl rfl rfl (by simp) rfl
     simp only [List.setIfInBounds_toArray, List.set_cons_zero, List.set_cons_succ]
    apply pm_gd (j := 3) (t := 34) (b := true) (c := true) rfl rfl rfl rfl rfl (by simp) rfl
    case hy =>
     rintro W' hb'
     clear hb'
     go_simp
     first | done | with_reducible rfl
    simp only [List.setIfInBounds_toArray, List.set_cons_zero, List.set_cons_succ]
    apply pm_take rfl rfl (by rfl)
    case hy =>
     rintro W' hb'
     clear hb'
     go_simp
     first | done | with_reducible rfl
    simp only [List.setIfInBounds_toArray, List.set_cons_zero, List.set_cons_succ]
    refine pm_fin ?_
    gi_wp2_with (fail)
    go_wp2_with (fail)
    go_ret
    exact ⟨by rw [HE.out]; rfl, bstep HB5.out (below_drew' HB.out)⟩
  have z1 : (f' == f) = false := beq_eq_false_iff_ne.2 hf
  by_cases ht : t' = t
  · have z2 : (t' == t) = true := beq_iff_eq.2 ht
    have HE := Lib.hid (show R = false from by cases hq : R; rfl; exact absurd ht (((HSI.out.1 hq).2.2 k _ HY.out HKI.out).2))
    clear hf ht
    go_wp2_with (fail)
    clear j1
    refine (wpIn_wide (n := 20)).1 ?_
    refine wpIn_region_planM (fun W' => Below wk.heap.size wk W') 25 (.take 0 <| .take 1 <| .take 2 <| .take 3 <| .take 4 <| .take 5 <| .take 6 <| .take 7 <| .take 8 <| .take 9 <| .take 10 <| .take 11 <| .take 12 <| .take 13 <| .take 14 <| .take 15 <| .take 16 <| .take 17 <| .take 18 <| .take 19 <| .take 20 <| .take 21 <| .take 22 <| .take 23 <| .take 24 <| .fin) (fun _ => trivial) (by kernel_rfl) (by kernel_rfl) (bdrewN wk 1) ?_
    iterate 4
     apply pm_take rfl rfl (by rfl)
     case hy =>
      rintro W' hb'
      clear hb'
      go_simp
      first | done | with_reducible rfl
     simp only [List.setIfInBounds_toArray, List.set_cons_zero, List.set_cons_succ]
    apply pm_gd (j := 3) (t := 34) (b := true) (c := true) rfl rfl rfl rfl rfl (by simp) rfl
    case hy =>
     rintro W' hb'
     clear hb'
     go_simp
     first | done | with_reducible rfl
    simp only [List.setIfInBounds_toArray, List.set_cons_zero, List.set_cons_succ]
    apply pm_gd (j := 3) (t := 34) (b := true) (c := true) rfl rfl rfl rfl rfl (by simp) rfl
    case hy =>
     rintro W' hb'
     have c0 := cell_keep hb' HX0.out
     have c1 := cell_keep hb' HX1.out
     have c2 := cell_keep hb' HP0.out
     have c3 := cell_keep hb' HP1.out
     have c4 := cell_keep hb' HJ1.out
     clear hb'
     go_simp
     first | done | with_reducible rfl
    simp only [List.setIfInBounds_toArray, List.set_cons_zero, List.set_cons_succ]
    iterate 3
     apply pm_gd (j := 3) (t := 34) (b := true) (c := true) rfl rfl rfl rfl rfl (by simp) rfl
     case hy =>
      rintro W' hb'
      clear hb'
      go_simp
      first | done | with_reducible rfl
     simp only [List.setIfInBounds_toArray, List.set_cons_zero, List.set_cons_succ]
    apply pm_gd (j := 3) (t := 34) (b := true) (c := true) rfl rfl rfl rfl rfl (by simp) rfl
    case hy =>
     rintro W' hb'
     have c0 := cell_keep hb' HX0.out
     have c1 := cell_keep hb' HX1.out
     have c2 := cell_keep hb' HP0.out
     have c3 := cell_keep hb' HP1.out
     have c4 := cell_keep hb' HJ1.out
     clear hb'
     go_simp
     first | done | with_reducible rfl
    simp only [List.setIfInBounds_toArray, List.set_cons_zero, List.set_cons_succ]
    apply pm_gd (j := 3) (t := 34) (b := true) (c := true) rfl rfl rfl rfl rfl (by simp) rfl
    case hy =>
     rintro W' hb'
     clear hb'
     go_simp
     first | done | with_reducible rfl
    simp only [List.setIfInBounds_toArray, List.set_cons_zero, List.set_cons_succ]
    apply pm_gd (j := 3) (t := 34) (b := true) (c := true) rfl rfl rfl rfl rfl (by simp) rfl
    case hy =>
     rintro W' hb'
     have c0 := cell_keep hb' HX0.out
     have c1 := cell_keep hb' HX1.out
     have c2 := cell_keep hb' HP0.out
     have c3 := cell_keep hb' HP1.out
     have c4 := cell_keep hb' HJ1.out
     clear hb'
     go_simp
     first | done | with_reducible rfl
    simp only [List.setIfInBounds_toArray, List.set_cons_zero, List.set_cons_succ]
    iterate 2
     apply pm_gd (j := 3) (t := 34) (b := true) (c := true) rfl rfl rfl rfl rfl (by simp) rfl
     case hy =>
      rintro W' hb'
      clear hb'
      go_simp
      first | done | with_reducible rfl
     simp only [List.setIfInBounds_toArray, List.set_cons_zero, List.set_cons_succ]
    apply pm_gd (j := 13) (t := 44) (b := false) (c := false) rfl rfl rfl rfl rfl (by simp) rfl
    case hy =>
     rintro W' hb'
     clear hb'
     go_simp
     first | done | with_reducible rfl
    simp only [List.setIfInBounds_toArray, List.set_cons_zero, List.set_cons_succ]
    apply pm_gd (j := 13) (t := 44) (b := false) (c := false) rfl rfl rfl rfl rfl (by simp) rfl
    case hy =>
     rintro W' hb'
     have c0 := cell_keep hb' HX0.out
     have c1 := cell_keep hb' HX1.out
     have c2 := cell_keep hb' HP0.out
     have c3 := cell_keep hb' HP1.out
     have c4 := cell_keep hb' HJ1.out
     clear hb'
     go_simp
     first | done | with_reducible rfl
    simp only [List.setIfInBounds_toArray, List.set_cons_zero, List.set_cons_succ]
    iterate 3
     apply pm_gd (j := 13) (t := 44) (b := false) (c := false) rfl rfl rfl rfl rfl (by simp) rfl
     case hy =>
      rintro W' hb'
      clear hb'
      go_simp
      first | done | with_reducible rfl
     simp only [List.setIfInBounds_toArray, List.set_cons_zero, List.set_cons_succ]
    apply pm_gd (j := 13) (t := 44) (b := false) (c := false) rfl rfl rfl rfl rfl (by simp) rfl
    case hy =>
     rintro W' hb'
     have c0 := cell_keep hb' HX0.out
     have c1 := cell_keep hb' HX1.out
     have c2 := cell_keep hb' HP0.out
     have c3 := cell_keep hb' HP1.out
     have c4 := cell_keep hb' HJ1.out
     clear hb'
     go_simp
     first | done | with_reducible rfl
    simp only [List.setIfInBounds_toArray, List.set_cons_zero, List.set_cons_succ]
    apply pm_gd (j := 13) (t := 44) (b := false) (c := false) rfl rfl rfl rfl rfl (by simp) rfl
    case hy =>
     rintro W' hb'
     clear hb'
     go_simp
     first | done | with_reducible rfl
    simp only [List.setIfInBounds_toArray, List.set_cons_zero, List.set_cons_succ]
    apply pm_gd (j := 13) (t := 44) (b := false) (c := false) rfl rfl rfl rfl rfl (by simp) rfl
    case hy =>
     rintro W' hb'
     have c0 := cell_keep hb' HX0.out
     have c1 := cell_keep hb' HX1.out
     have c2 := cell_keep hb' HP0.out
     have c3 := cell_keep hb' HP1.out
     have c4 := cell_keep hb' HJ1.out
     clear hb'
     go_simp
     first | done | with_reducible rfl
    simp only [List.setIfInBounds_toArray, List.set_cons_zero, List.set_cons_succ]
    apply pm_gd (j := 13) (t := 44) (b := false) (c := false) rfl rfl rfl rfl rfl (by simp) rfl
    case hy =>
     rintro W' hb'
     clear hb'
     go_simp
     first | done | with_reducible rfl
    simp only [List.setIfInBounds_toArray, List.set_cons_zero, List.set_cons_succ]
    apply pm_gd (j := 3) (t := 34) (b := true) (c := true) rfl rfl rfl rfl rfl (by simp) rfl
    case hy =>
     rintro W' hb'
     clear hb'
     go_simp
     first | done | with_reducible rfl
    simp only [List.setIfInBounds_toArray, List.set_cons_zero, List.set_cons_succ]
    apply pm_take rfl rfl (by rfl)
    case hy =>
     rintro W' hb'
     clear hb'
     go_simp
     first | done | with_reducible rfl
    simp only [List.setIfInBounds_toArray, List.set_cons_zero, List.set_cons_succ]
    refine pm_fin ?_
    gi_wp2_with (fail)
    go_wp2_with (fail)
    go_ret
    exact ⟨by rw [HE.out]; rfl, bstep HB5.out (below_drew' HB.out)⟩
  have z2 : (t' == t) = false := beq_eq_false_iff_ne.2 ht
  have HFT := Lib.hid (And.intro hf ht)
  clear hf ht
  go_wp2_with (fail)
  clear j1
  refine (wpIn_wide (n := 20)).1 ?_
  refine wpIn_region_planM (fun W' => Below wk.heap.size wk W') 25 (.take 0 <| .take 1 <| .take 2 <| .take 3 <| .take 4 <| .take 5 <| .take 6 <| .take 7 <| .take 8 <| .take 9 <| .take 10 <| .take 11 <| .take 12 <| .take 13 <| .take 14 <| .take 15 <| .take 16 <| .take 17 <| .take 18 <| .take 19 <| .take 20 <| .take 21 <| .take 22 <| .take 23 <| .take 24 <| .fin) (fun _ => trivial) (by kernel_rfl) (by kernel_rfl) (bdrewN wk 1) ?_
  iterate 4
   apply pm_take rfl rfl (by rfl)
   case hy =>
    rintro W' hb'
    clear hb'
    go_simp
    first | done | with_reducible rfl
   simp only [List.setIfInBounds_toArray, List.set_cons_zero, List.set_cons_succ]
  apply pm_gd (j := 3) (t := 34) (b := true) (c := true) rfl rfl rfl rfl rfl (by simp) rfl
  case hy =>
   rintro W' hb'
   clear hb'
   go_simp
   first | done | with_reducible rfl
  simp only [List.setIfInBounds_toArray, List.set_cons_zero, List.set_cons_succ]
  apply pm_gd (j := 3) (t := 34) (b := true) (c := true) rfl rfl rfl rfl rfl (by simp) rfl
  case hy =>
   rintro W' hb'
   have c0 := cell_keep hb' HX0.out
   have c1 := cell_keep hb' HX1.out
   have c2 := cell_keep hb' HP0.out
   have c3 := cell_keep hb' HP1.out
   have c4 := cell_keep hb' HJ1.out
   clear hb'
   go_simp
   first | done | with_reducible rfl
  simp only [List.setIfInBounds_toArray, List.set_cons_zero, List.set_cons_succ]
  iterate 3
   apply pm_gd (j := 3) (t := 34) (b := true) (c := true) rfl rfl rfl rfl rfl (by simp) rfl
   case hy =>
    rintro W' hb'
    clear hb'
    go_simp
    first | done | with_reducible rfl
   simp only [List.setIfInBounds_toArray, List.set_cons_zero, List.set_cons_succ]
  apply pm_gd (j := 3) (t := 34) (b := true) (c := true) rfl rfl rfl rfl rfl (by simp) rfl
  case hy =>
   rintro W' hb'
   have c0 := cell_keep hb' HX0.out
   have c1 := cell_keep hb' HX1.out
   have c2 := cell_keep hb' HP0.out
   have c3 := cell_keep hb' HP1.out
   have c4 := cell_keep hb' HJ1.out
   clear hb'
   go_simp
   first | done | with_reducible rfl
  simp only [List.setIfInBounds_toArray, List.set_cons_zero, List.set_cons_succ]
  apply pm_gd (j := 3) (t := 34) (b := true) (c := true) rfl rfl rfl rfl rfl (by simp) rfl
  case hy =>
   rintro W' hb'
   clear hb'
   go_simp
   first | done | with_reducible rfl
  simp only [List.setIfInBounds_toArray, List.set_cons_zero, List.set_cons_succ]
  apply pm_gd (j := 3) (t := 34) (b := true) (c := true) rfl rfl rfl rfl rfl (by simp) rfl
  case hy =>
   rintro W' hb'
   have c0 := cell_keep hb' HX0.out
   have c1 := cell_keep hb' HX1.out
   have c2 := cell_keep hb' HP0.out
   have c3 := cell_keep hb' HP1.out
   have c4 := cell_keep hb' HJ1.out
   clear hb'
   go_simp
   first | done | with_reducible rfl
  simp only [List.setIfInBounds_toArray, List.set_cons_zero, List.set_cons_succ]
  iterate 2
   apply pm_gd (j := 3) (t := 34) (b := true) (c := true) rfl rfl rfl rfl rfl (by simp) rfl
   case hy =>
    rintro W' hb'
    clear hb'
    go_simp
    first | done | with_reducible rfl
   simp only [List.setIfInBounds_toArray, List.set_cons_zero, List.set_cons_succ]
  apply pm_gd (j := 13) (t := 44) (b := false) (c := false) rfl rfl rfl rfl rfl (by simp) rfl
  case hy =>
   rintro W' hb'
   clear hb'
   go_simp
   first | done | with_reducible rfl
  simp only [List.setIfInBounds_toArray, List.set_cons_zero, List.set_cons_succ]
  apply pm_gd (j := 13) (t := 44) (b := false) (c := false) rfl rfl rfl rfl rfl (by simp) rfl
  case hy =>
   rintro W' hb'
   have c0 := cell_keep hb' HX0.out
   have c1 := cell_keep hb' HX1.out
   have c2 := cell_keep hb' HP0.out
   have c3 := cell_keep hb' HP1.out
   have c4 := cell_keep hb' HJ1.out
   clear hb'
   go_simp
   first | done | with_reducible rfl
  simp only [List.setIfInBounds_toArray, List.set_cons_zero, List.set_cons_succ]
  iterate 3
   apply pm_gd (j := 13) (t := 44) (b := false) (c := false) rfl rfl rfl rfl rfl (by simp) rfl
   case hy =>
    rintro W' hb'
    clear hb'
    go_simp
    first | done | with_reducible rfl
   simp only [List.setIfInBounds_toArray, List.set_cons_zero, List.set_cons_succ]
  apply pm_gd (j := 13) (t := 44) (b := false) (c := false) rfl rfl rfl rfl rfl (by simp) rfl
  case hy =>
   rintro W' hb'
   have c0 := cell_keep hb' HX0.out
   have c1 := cell_keep hb' HX1.out
   have c2 := cell_keep hb' HP0.out
   have c3 := cell_keep hb' HP1.out
   have c4 := cell_keep hb' HJ1.out
   clear hb'
   go_simp
   first | done | with_reducible rfl
  simp only [List.setIfInBounds_toArray, List.set_cons_zero, List.set_cons_succ]
  apply pm_gd (j := 13) (t := 44) (b := false) (c := false) rfl rfl rfl rfl rfl (by simp) rfl
  case hy =>
   rintro W' hb'
   clear hb'
   go_simp
   first | done | with_reducible rfl
  simp only [List.setIfInBounds_toArray, List.set_cons_zero, List.set_cons_succ]
  apply pm_gd (j := 13) (t := 44) (b := false) (c := false) rfl rfl rfl rfl rfl (by simp) rfl
  case hy =>
   rintro W' hb'
   have c0 := cell_keep hb' HX0.out
   have c1 := cell_keep hb' HX1.out
   have c2 := cell_keep hb' HP0.out
   have c3 := cell_keep hb' HP1.out
   have c4 := cell_keep hb' HJ1.out
   clear hb'
   go_simp
   first | done | with_reducible rfl
  simp only [List.setIfInBounds_toArray, List.set_cons_zero, List.set_cons_succ]
  apply pm_gd (j := 13) (t := 44) (b := false) (c := false) rfl rfl rfl rfl rfl (by simp) rfl
  case hy =>
   rintro W' hb'
   clear hb'
   go_simp
   first | done | with_reducible rfl
  simp only [List.setIfInBounds_toArray, List.set_cons_zero, List.set_cons_succ]
  apply pm_gd (j := 3) (t := 34) (b := true) (c := true) rfl rfl rfl rfl rfl (by simp) rfl
  case hy =>
   rintro W' hb'
   clear hb'
   go_simp
   first | done | with_reducible rfl
  simp only [List.setIfInBounds_toArray, List.set_cons_zero, List.set_cons_succ]
  apply pm_take rfl rfl (by rfl)
  case hy =>
   rintro W' hb'
   clear hb'
   go_simp
   first | done | with_reducible rfl
  simp only [List.setIfInBounds_toArray, List.set_cons_zero, List.set_cons_succ]
  refine pm_fin ?_
  gi_wp2_with (fail)
  go_wp2_with (fail)
  exact ⟨⟨k + 1, by have := HKN.out; omega, by simp, below_drew' HB.out, fun j y hj hy hji => by
   by_cases hjk : j = k
   · subst hjk
     rw [HY.out] at hy
     cases hy
     exact HFT.out
   · exact HOK.out j y (by omega) hy hji⟩, by have := HKN.out; simp [intOf]; omega⟩
end Go.Proofs.YtjmebijckcimoaaGreatDoor
