import Derived.Test.YtjmebijckcimoaaGreatDoorVg
import Derived.Test.YtjmebijckcimoaaGreatDoorUa
import Derived.Test.YtjmebijckcimoaaGreatDoorMk
import Derived.Maps.AppendAt
import Derived.Test.YtjmebijckcimoaaGreatDoorRows
import Derived.Test.YtjmebijckcimoaaGreatDoorNab
import Derived.RangeFuncBox
import Derived.Stop.RegionWithIn
import Derived.Deep.OwnRows
import Derived.Test.YtjmebijckcimoaaGreatDoorPlM24
import Derived.Sort.Grow



namespace Go.Ap
open Go Go.RowKit
/-- what an arc's sources are in a world -/
structure ArcS (w : World) (a : Option Addr) (x : Vg.Arc) : Prop where
  fr : I64 x.1.1
  to : I64 x.1.2
  src : Ints w a x.2.length x.2
/-- three cells that read as an arc -/
def ArcM (w : World) (b o : Nat) (x : Vg.Arc) : Prop := ∃ a k, w.cell? ⟨b, o, none⟩ = some (.int .i64 x.1.1) ∧ w.cell? ⟨b, o + 1, none⟩ = some (.int .i64 x.1.2) ∧ w.cell? ⟨b, o + 2, none⟩ = some (.slice a x.2.length k) ∧ ArcS w a x
abbrev Arcs := SlM 3 ArcM
section
variable {w w' : World} {B : Nat} {a : Option Addr} {n : Nat}
theorem ArcS.mono {x : Vg.Arc} (h : ArcS w a x) (hB : w.heap.size ≤ B) (hb : Below B w w') : ArcS w' a x := ⟨h.fr, h.to, h.src.mono hB hb⟩
theorem ArcM.mono {b o : Nat} {x : Vg.Arc} (h : ArcM w b o x) (hB : w.heap.size ≤ B) (hb : Below B w w') : ArcM w' b o x := by
  obtain ⟨a, k, h1, h2, h3, h4⟩ := h
  exact ⟨a, k, cell_kept hB hb h1, cell_kept hB hb h2, cell_kept hB hb h3, h4.mono hB hb⟩
theorem Arcs.mono {l : List Vg.Arc} (h : Arcs w a n l) (hB : w.heap.size ≤ B) (hb : Below B w w') : Arcs w' a n l := SlM.mono h fun _ _ _ hr => hr.mono hB hb
theorem Arcs.at {l : List Vg.Arc} (h : Arcs w a n l) {k : Nat} (hk : k < n) : ∃ x b off a1 k1, l[k]? = some x ∧ a = some ⟨b, off, none⟩ ∧ w.cell? ⟨b, off + k * 3, none⟩ = some (.int .i64 x.1.1) ∧ w.cell? ⟨b, off + k * 3 + 1, none⟩ = some (.int .i64 x.1.2) ∧ w.cell? ⟨b, off + k * 3 + 2, none⟩ = some (.slice a1 x.2.length k1) ∧ ArcS w a1 x := by
  obtain ⟨x, b, off, hx, ha, a1, k1, h1, h2, h3, h4⟩ := SlM.at h hk
  exact ⟨x, b, off, a1, k1, hx, ha, h1, h2, h3, h4⟩
end
/-- a graph's two slices -/
structure GraphM (w : World) (a1 : Option Addr) (n1 : Nat) (a2 : Option Addr) (n2 : Nat) (ws : List Str) (al : List Vg.Arc) : Prop where
  words : StrsL w a1 n1 ws
  arcs : Arcs w a2 n2 al
theorem GraphM.mono {w w' : World} {B : Nat} {a1 a2 : Option Addr} {n1 n2 : Nat} {ws : List Str} {al : List Vg.Arc} (h : GraphM w a1 n1 a2 n2 ws al) (hB : w.heap.size ≤ B) (hb : Below B w w') : GraphM w' a1 n1 a2 n2 ws al := ⟨h.words.mono hB hb, h.arcs.mono hB hb⟩
/-- an arc with the slice of its sources -/
abbrev AIt := Vg.Arc × Value
def aiC (p : AIt) : List Value := [.int .i64 p.1.1.1, .int .i64 p.1.1.2, p.2]
theorem aiC_len (p : AIt) : (aiC p).length = 3 := rfl
theorem flatAt {α : Type} {f : α → List Value} {m : Nat} (hf : ∀ x, (f x).length = m) : ∀ {xs : List α} {k : Nat} {x : α} {i : Nat} {u : Value}, xs[k]? = some x → (f x)[i]? = some u → (xs.flatMap f)[k * m + i]? = some u
  | [], k, x, i, u, h, _ => by simp at h
  | y :: xs, 0, x, i, u, h, hu => by
    simp only [List.getElem?_cons_zero, Option.some.injEq] at h
    subst h
    rw [List.flatMap_cons, Nat.zero_mul, Nat.zero_add, List.getElem?_append_left (List.getElem?_eq_some_iff.1 hu).1]
    exact hu
  | y :: xs, k + 1, x, i, u, h, hu => by
    rw [List.flatMap_cons, List.getElem?_append_right (by rw [hf, Nat.succ_mul]; omega), hf, Nat.succ_mul, show k * m + m + i - m = k * m + i by omega]
    exact flatAt hf (by simpa using h) hu
/-- a row of arcs of the call's own, whose sources lie in an elder world -/
def OwnAs (e : TypeId) (w0 w : World) (base : Nat) (v : Value) (l : List Vg.Arc) : Prop :=
  ∃ ps : List AIt, ps.map (·.1) = l ∧ w.ownsRow base e 3 v ps.length (ps.flatMap aiC) ∧ ∀ p ∈ ps, ∃ a k, p.2 = .slice a p.1.2.length k ∧ ArcS w0 a p.1
section
variable {e : TypeId} {w0 w w' w1 : World} {base : Nat} {v : Value} {l : List Vg.Arc}
theorem OwnAs.nil (e : TypeId) (w0 w : World) (base : Nat) : OwnAs e w0 w base (.slice none 0 0) [] := ⟨[], rfl, World.ownsRow_nil _ _ _ _, fun _ h => absurd h List.not_mem_nil⟩
theorem OwnAs.below (h : OwnAs e w0 w base v l) (hb : Below w.heap.size w w') : OwnAs e w0 w' base v l := by
  obtain ⟨ps, h1, h2, h3⟩ := h
  exact ⟨ps, h1, owns_below h2 hb, h3⟩
theorem OwnAs.elder (h : OwnAs e w0 w base v l) (hb : Below w0.heap.size w0 w1) : OwnAs e w1 w base v l := by
  obtain ⟨ps, h1, h2, h3⟩ := h
  exact ⟨ps, h1, h2, fun p hp => by obtain ⟨a, k, h4, h5⟩ := h3 p hp; exact ⟨a, k, h4, h5.mono (Nat.le_refl _) hb⟩⟩
theorem OwnAs.kept {row : Option Nat} (h : OwnAs e w0 w base v l) (hg : w.grownBy w' row) (hne : v.ownBlock = none ∨ v.ownBlock ≠ row) : OwnAs e w0 w' base v l := by
  obtain ⟨ps, h1, h2, h3⟩ := h
  exact ⟨ps, h1, h2.kept hg hne, h3⟩
theorem OwnAs.empty (e : TypeId) (w0 w : World) {base : Nat} (hw : base ≤ w.heap.size) : OwnAs e w0 (w.alloc (.cells #[] e)) base (.slice (some ⟨w.heap.size, 0, none⟩) 0 0) [] :=
  ⟨[], rfl, World.ownsRow_made w #[] 0 hw (by simp [maxLen]) rfl, fun _ h => absurd h List.not_mem_nil⟩
/-- ready for more -/
theorem OwnAs.ready (h : OwnAs e w0 w base v l) : ∃ xs : List Value, w.ownsRow base e 3 v l.length xs ∧ ∀ (w1 : World) (v' : Value) (qs : List AIt) (n' : Nat), w1.ownsRow base e 3 v' n' (xs ++ qs.flatMap aiC) → n' = l.length + qs.length → (∀ p ∈ qs, ∃ a k, p.2 = .slice a p.1.2.length k ∧ ArcS w0 a p.1) → OwnAs e w0 w1 base v' (l ++ qs.map (·.1)) := by
  obtain ⟨ps, h1, h2, h3⟩ := h
  have hl : ps.length = l.length := by rw [← h1, List.length_map]
  refine ⟨ps.flatMap aiC, by rw [← hl]; exact h2, fun w1 v' qs n' ho hn hq => ⟨ps ++ qs, by rw [List.map_append, h1], ?_, fun p hp => ?_⟩⟩
  · rw [List.length_append, List.flatMap_append, hl, ← hn]
    exact ho
  · rcases List.mem_append.1 hp with hp | hp
    · exact h3 p hp
    · exact hq p hp
/-- .. read -/
theorem OwnAs.gives (h : OwnAs e w0 w base v l) (hn : l.length ≤ 4611686018427387903) (hb : Below w0.heap.size w0 w) : ∃ a c, v = .slice a l.length c ∧ Arcs w a l.length l ∧ l.length ≤ c := by
  obtain ⟨ps, h1, h2, h3⟩ := h
  have hl : ps.length = l.length := by rw [← h1, List.length_map]
  rw [hl] at h2
  rcases h2.2 with ⟨rfl, h0⟩ | ⟨g, cap, cur, rfl, _, _, hc, _, _, _⟩
  · have : l = [] := List.eq_nil_of_length_eq_zero h0
    subst this
    exact ⟨none, 0, rfl, SlM.nil _ _, Nat.le_refl _⟩
  · refine ⟨_, cap, rfl, ⟨rfl, hn, fun k x hk => ⟨g, 0, rfl, ?_⟩⟩, hc⟩
    rw [← h1, List.getElem?_map, Option.map_eq_some_iff] at hk
    obtain ⟨p, hpk, rfl⟩ := hk
    obtain ⟨a, c, h4, h5⟩ := h3 p (List.mem_of_getElem? hpk)
    have hkl : k < l.length := by rw [← hl]; exact (List.getElem?_eq_some_iff.1 hpk).1
    have cl : ∀ i u, (aiC p)[i]? = some u → i < 3 → w.cell? ⟨g, k * 3 + i, none⟩ = some u := fun i u hu hi => by
      rw [h2.cellAt (k * 3 + i) (by omega)]
      exact flatAt aiC_len hpk hu
    rw [Nat.zero_add]
    exact ⟨a, c, cl 0 _ rfl (by omega), cl 1 _ rfl (by omega), by rw [← h4]; exact cl 2 _ rfl (by omega), h5.mono (Nat.le_refl _) hb⟩
end
section
variable {e : TypeId} {w : World} {base b c m n sz : Nat} {vs : List Value}
end
end Go.Ap




namespace Go.Ap
open Go Go.RowKit
/-- rows of different element types lie in different blocks -/
theorem own_type {w : World} {base n size base' n' size' : Nat} {e e' : TypeId} {v v' : Value} {xs xs' : List Value} (h : w.ownsRow base e size v n xs) (h' : w.ownsRow base' e' size' v' n' xs') (hne : e ≠ e') : v.ownBlock = none ∨ v.ownBlock ≠ v'.ownBlock := by
  rcases h.2 with ⟨rfl, _⟩ | ⟨g, cap, cur, rfl, _, hg, _⟩
  · exact .inl rfl
  · refine .inr fun he => ?_
    rcases h'.2 with ⟨rfl, _⟩ | ⟨g', cap', cur', rfl, _, hg', _⟩
    · cases he
    · have hgg : g = g' := by simpa [Value.ownBlock] using he
      subst hgg
      rw [hg] at hg'
      cases hg'
      exact hne rfl
/-- the ends of an arc with the slice of its sources: three cells -/
abbrev EIt := Vg.En × Value
def eiC (p : EIt) : List Value := [.int .i64 p.1.1, .int .i64 p.1.2, p.2]
theorem eiC_len (p : EIt) : (eiC p).length = 3 := rfl
section
variable {P : Program} {t k e : TypeId} (T : MapV P t k e (Vg.En))
/-- what a round of arcs keeps: the map under way, the items that are done, the head that is being done -/
structure RndA (pe ie : TypeId) (w : World) (b r base n : Nat) (f : Vg.En → Option Value) (g : Vg.En → List Int) (left : Vg.En → Bool) (cnt : Nat) (out : Value) (I : List EIt) (cur : Option (Vg.En)) : Prop where
  map : MapW T w b r n f left cnt
  types : pe ≠ ie
  todo : ∀ s v, left s = true → f s = some v → OwnI ie w base v (g s)
  row : w.ownsRow base pe 3 out I.length (I.flatMap eiC)
  lines : ∀ p ∈ I, OwnI ie w base p.2 (Lib.compact (sortI (g p.1)))
  done : ∀ p ∈ I, left p.1 = false ∧ ∃ v, f p.1 = some v ∧ p.2.ownBlock = v.ownBlock
  once : (I.map (·.1)).Nodup
  all : ∀ s, f s ≠ none → left s = true ∨ s ∈ I.map (·.1) ∨ cur = some s
  now : ∀ s, cur = some s → left s = false ∧ s ∉ I.map (·.1)
  apart : ∀ s s' v v', f s = some v → f s' = some v' → s ≠ s' → Apart v v'
variable {T}
variable {pe ie : TypeId} {w w' : World} {b r base n cnt : Nat} {f : Vg.En → Option Value} {g : Vg.En → List Int} {left : Vg.En → Bool} {out : Value} {I : List EIt} {cur : Option (Vg.En)}
theorem MapW.below {κ : Type} {T : MapV P t k e κ} {f : κ → Option Value} {left : κ → Bool} (h : MapW T w b r n f left cnt) (hb : Below w.heap.size w w') : MapW T w' b r n f left cnt := by
  have hg : w.grownBy w' none := ⟨hb.os, hb.tape, hb.output, hb.size, fun k hk _ => hb.block k hk⟩
  exact h.kept hg (by simp) (by simp)
theorem MapW.iter {κ : Type} {T : MapV P t k e κ} {f : κ → Option Value} {left : κ → Bool} (h : MapW T w b r n f left cnt) {base' n' size : Nat} {e' : TypeId} {v : Value} {xs : List Value} (ho : w.ownsRow base' e' size v n' xs) : some r ≠ v.ownBlock := by
  obtain ⟨D, lf, h1, _⟩ := h
  exact Go.row_ne_iter ho h1
/-- new blocks and draws change nothing -/
theorem RndA.below (h : RndA T pe ie w b r base n f g left cnt out I cur) (hb : Below w.heap.size w w') : RndA T pe ie w' b r base n f g left cnt out I cur :=
  { h with
    map := h.map.below hb
    todo := fun s v hs hv => (h.todo s v hs hv).below hb
    row := owns_below h.row hb
    lines := fun p hp => (h.lines p hp).below hb }
/-- the next head is taken -/
theorem RndA.next {s : Vg.En} {cnt' : Nat} (h : RndA T pe ie w b r base n f g left cnt out I none) (hl : left s = true) (hm : MapW T w' b r n f (fun x => left x && !decide (x = s)) cnt') (hg : w.grownBy w' (some r)) :
    RndA T pe ie w' b r base n f g (fun x => left x && !decide (x = s)) cnt' out I (some s) where
  map := hm
  types := h.types
  todo x v hx hv := by
    simp only [Bool.and_eq_true] at hx
    have h1 := h.todo x v hx.1 hv
    exact h1.kept hg (.inr fun he => h.map.iter h1.1 he.symm)
  row := h.row.kept hg (.inr fun he => h.map.iter h.row he.symm)
  lines p hp := (h.lines p hp).kept hg (.inr fun he => h.map.iter (h.lines p hp).1 he.symm)
  done p hp := ⟨by rw [(h.done p hp).1]; rfl, (h.done p hp).2⟩
  once := h.once
  all x hx := by
    by_cases hxs : x = s
    · exact .inr (.inr (by rw [hxs]))
    · rcases h.all x hx with h1 | h1 | h1
      · exact .inl (by rw [h1]; simp [hxs])
      · exact .inr (.inl h1)
      · cases h1
  now x hx := by
    cases hx
    refine ⟨by simp, fun hm => ?_⟩
    obtain ⟨p, hp, rfl⟩ := List.mem_map.1 hm
    have := (h.done p hp).1
    rw [hl] at this
    cases this
  apart := h.apart
/-- the slice of the head that is being done is worked on -/
theorem RndA.touch {s : Vg.En} {v : Value} {xs : List Int} (h : RndA T pe ie w b r base n f g left cnt out I (some s)) (hf : f s = some v) (hv : OwnI ie w base v xs) (hg : w.grownBy w' v.ownBlock) : RndA T pe ie w' b r base n f g left cnt out I (some s) := by
  obtain ⟨o, ho, hoc⟩ := h.map.map.obj
  have hbv : some b ≠ v.ownBlock := by
    rcases own_not hv.1 ho hoc with h1 | h1
    · rw [h1]; simp
    · exact fun e => h1 e.symm
  have far : ∀ x u, x ≠ s → f x = some u → u.ownBlock = none ∨ u.ownBlock ≠ v.ownBlock := fun x u hx hu => h.apart x s u v hu hf hx
  exact { h with
    map := h.map.kept hg hbv (h.map.iter hv.1)
    todo := fun x u hx hu => (h.todo x u hx hu).kept hg (far x u (fun e => by rw [e, ((h.now s rfl).1)] at hx; cases hx) hu)
    row := h.row.kept hg (own_type h.row hv.1 h.types)
    lines := fun p hp => (h.lines p hp).kept hg (by
      obtain ⟨_, u, hu, hue⟩ := h.done p hp
      rw [hue]
      exact far p.1 u (fun e => (h.now s rfl).2 (List.mem_map.2 ⟨p, hp, e⟩)) hu) }
/-- the head is done: its item is appended -/
theorem RndA.push {s : Vg.En} {v u out' : Value} (h : RndA T pe ie w b r base n f g left cnt out I (some s)) (hf : f s = some v) (hu : OwnI ie w base u (Lib.compact (sortI (g s)))) (hub : u.ownBlock = v.ownBlock)
    (hrow : w'.ownsRow base pe 3 out' (I.length + 1) (I.flatMap eiC ++ eiC (s, u))) (hg : w.grownBy w' out.ownBlock) : RndA T pe ie w' b r base n f g left cnt out' (I ++ [(s, u)]) none := by
  obtain ⟨o, ho, hoc⟩ := h.map.map.obj
  have hbo : some b ≠ out.ownBlock := by
    rcases own_not h.row ho hoc with h1 | h1
    · rw [h1]; simp
    · exact fun e => h1 e.symm
  have keep : ∀ {z : Value} {xs : List Int}, OwnI ie w base z xs → OwnI ie w' base z xs := fun hz => hz.kept hg (own_type hz.1 h.row (Ne.symm h.types))
  exact {
    map := h.map.kept hg hbo (h.map.iter h.row)
    types := h.types
    todo := fun x z hx hz => keep (h.todo x z hx hz)
    row := by
      rw [List.length_append, List.flatMap_append]
      simpa using hrow
    lines := fun p hp => by
      rcases List.mem_append.1 hp with hp | hp
      · exact keep (h.lines p hp)
      · rw [List.mem_singleton] at hp
        subst hp
        exact keep hu
    done := fun p hp => by
      rcases List.mem_append.1 hp with hp | hp
      · exact h.done p hp
      · rw [List.mem_singleton] at hp
        subst hp
        exact ⟨(h.now s rfl).1, v, hf, hub⟩
    once := by
      rw [List.map_append, List.nodup_append]
      refine ⟨h.once, by simp, fun a ha c hc hac => ?_⟩
      simp only [List.map_cons, List.map_nil, List.mem_singleton] at hc
      subst hc
      subst hac
      exact (h.now _ rfl).2 ha
    all := fun x hx => by
      rw [List.map_append, List.mem_append]
      rcases h.all x hx with h1 | h1 | h1
      · exact .inl h1
      · exact .inr (.inl (.inl h1))
      · cases h1
        exact .inr (.inl (.inr (by simp)))
    now := fun _ hx => by cases hx
    apart := h.apart }
end
end Go.Ap










namespace Go.Ap
open Go Go.RowKit
def graphV (a1 : Option Addr) (n1 c1 : Nat) (a2 : Option Addr) (n2 c2 : Nat) : Value := .agg #[.slice a1 n1 c1, .slice a2 n2 c2]
def arrN (n : Nat) (F : Nat → Nat) : List Int := (List.range n).map fun k => ((F k : Nat) : Int)
theorem arrN_len (n : Nat) (F : Nat → Nat) : (arrN n F).length = n := by simp [arrN]
theorem arrN_get {n k : Nat} (F : Nat → Nat) (hk : k < n) : (arrN n F)[k]? = some ((F k : Nat) : Int) := by
  unfold arrN
  rw [List.getElem?_map, List.getElem?_range hk]
  rfl
theorem arrN_at {n k : Nat} (F : Nat → Nat) (hk : k < n) : nth (arrN n F) k = ((F k : Nat) : Int) := by
  unfold nth
  rw [List.getD_eq_getElem?_getD, arrN_get F hk]
  rfl
theorem arrN_ext {n : Nat} {F G : Nat → Nat} (h : ∀ k, k < n → F k = G k) : arrN n F = arrN n G := List.map_congr_left fun k hk => by rw [h k (List.mem_range.1 hk)]
theorem arrN_set {n : Nat} (F : Nat → Nat) (k z : Nat) : (arrN n F).set k ((z : Nat) : Int) = arrN n (Vg.upd F k z) := by
  apply List.ext_getElem?
  intro i
  by_cases hi : i < n
  · rw [arrN_get _ hi]
    by_cases hk : k = i
    · subst hk
      rw [List.getElem?_set_self (by rw [arrN_len]; exact hi)]
      simp [Vg.upd]
    · rw [List.getElem?_set_ne hk, arrN_get F hi]
      simp [Vg.upd, show ¬i = k from fun e => hk e.symm]
  · rw [List.getElem?_eq_none (by rw [List.length_set, arrN_len]; omega), List.getElem?_eq_none (by rw [arrN_len]; omega)]
theorem arrN_zero (n : Nat) : arrN n (fun _ => 0) = List.replicate n 0 := by
  apply List.ext_getElem?
  intro i
  by_cases hi : i < n
  · rw [arrN_get _ hi]; simp [hi]
  · rw [List.getElem?_eq_none (by rw [arrN_len]; omega)]; simp [hi]
theorem Arr.zero {w : World} {n S : Nat} {T : TypeId} (hS : w.heap.size = S) : Arr (w.alloc (.cells (Array.replicate n (.int .i64 0)) T)) S T (arrN n fun _ => 0) := by
  rw [arrN_zero, Arr, show ((List.replicate n (0 : Int)).map (Value.int .i64)).toArray = Array.replicate n (.int .i64 0) by simp]
  exact heap_fresh hS.symm
theorem Arr.first {w : World} {n S : Nat} {T : TypeId} (hS : w.heap.size = S) : Arr (w.alloc (.cells ((Array.replicate n (.int .i64 0)).setIfInBounds 0 (.int .i64 1)) T)) S T (arrN n (Vg.one 0)) := by
  have e : (Array.replicate n (Value.int .i64 0)).setIfInBounds 0 (.int .i64 1) = ((arrN n (Vg.one 0)).map (Value.int .i64)).toArray := by
    rw [arrN_ext (G := Vg.upd (fun _ => 0) 0 1) (fun k _ => by simp [Vg.one, Vg.upd]), ← arrN_set, arrN_zero, List.map_set, ← List.setIfInBounds_toArray, List.map_replicate, List.toArray_replicate]
    rfl
  rw [e]
  exact heap_fresh hS.symm
theorem Arr.getN {w : World} {n S k : Nat} {T : TypeId} {F : Nat → Nat} (h : Arr w S T (arrN n F)) (hk : k < n) : w.cell? ⟨S, k, none⟩ = some (.int .i64 ((F k : Nat) : Int)) := by
  rw [h.cell (by rw [arrN_len]; exact hk), arrN_at F hk]
theorem Arr.setN {w : World} {n S : Nat} {T : TypeId} {F : Nat → Nat} (h : Arr w S T (arrN n F)) (k z : Nat) : Arr (w.setCell ⟨S, k, none⟩ (.int .i64 ((z : Nat) : Int))) S T (arrN n (Vg.upd F k z)) := by
  rw [← arrN_set]
  exact h.set k _
/-- an array lies apart from a block that is written -/
theorem Arr.keptE {w w' : World} {S : Nat} {T : TypeId} {xs : List Int} {row : Option Nat} (h : Arr w S T xs) (hg : w.grownBy w' row) (hne : some S ≠ row) : Arr w' S T xs := (hg.block S h.lt hne).trans h
theorem Arr.drew {w : World} {S : Nat} {T : TypeId} {xs : List Int} (h : Arr w S T xs) : Arr w.drew S T xs := h.kept (bdrewN w 1)
theorem BlkK.drew {w : World} {b : Nat} {cs : Array Value} {t : TypeId} (h : BlkK w b cs t) : BlkK w.drew b cs t := h.below (bdrewN w 1)
theorem below_drew' {B : Nat} {w w' : World} (h : Below B w w') : Below B w w'.drew := ⟨h.os, h.tape, h.output, h.size, h.block⟩
theorem run_min2 {P : Program} (a b r : Int) (h : r = min a b) (ts : Array TypeId) (t : TypeId) (W : World) : (Builtin.min_ ts t #[.int .i64 a, .int .i64 b]).run P W = .ok (.int .i64 r) W := by
  subst h
  simp [Builtin.min_, Builtin.min2]
  omega
def Lw (w w' : World) : Prop := ∃ q os, w' = Sort.grow (w.drewN q) os
section
variable {w w' w'' : World}
theorem Lw.refl (w : World) : Lw w w := ⟨0, #[], by rw [Sort.grow_empty]; rfl⟩
theorem Lw.trans (h : Lw w w') (k : Lw w' w'') : Lw w w'' := by
  obtain ⟨q, os, rfl⟩ := h
  obtain ⟨r, os', rfl⟩ := k
  refine ⟨q + r, os ++ os', ?_⟩
  rw [← Sort.grow_grow]
  unfold Sort.grow World.drewN
  simp only [Nat.add_assoc]
theorem Lw.below (h : Lw w w') : Below w.heap.size w w' := by
  obtain ⟨q, os, rfl⟩ := h
  refine ⟨rfl, rfl, rfl, by rw [Sort.size_grow]; exact Nat.le_add_right _ _, fun k hk => ?_⟩
  rw [Sort.heap_grow_old _ _ (by exact hk)]
  rfl
end
theorem Lw.alloc {w w' : World} (h : Lw w w') (o : Obj) : Lw w (w'.alloc o) := h.trans ⟨0, #[o], by rw [Sort.alloc_eq_grow]; rfl⟩
theorem Lw.drew {w w' : World} (h : Lw w w') : Lw w w'.drew := h.trans ⟨1, #[], by rw [Sort.grow_empty]; rfl⟩
theorem BlkK.lw {W W' : World} {b : Nat} {cs : Array Value} {t : TypeId} (h : BlkK W b cs t) (hl : Lw W W') : BlkK W' b cs t := h.below hl.below
theorem BlkK.allocK {W : World} {b : Nat} {cs : Array Value} {t : TypeId} (h : BlkK W b cs t) (o : Obj) : BlkK (W.alloc o) b cs t := h.lw ((Lw.refl W).alloc o)
end Go.Ap
namespace Go.Proofs.YtjmebijckcimoaaGreatDoor
open Go.RowKit Go.Ap Go.Shelf Go.Proofs
theorem infoI24 : (Tryz.prog.info? 3).map (fun i => (i.zero, i.size, i.bytes)) = some (some (.int .i64 0), 1, 8) := by kernel_rfl
theorem make_nums (n : Nat) (hn : n ≤ 1048576) (w : World) : (Instr.makeSlice 44 (.int .i64 n) (.int .i64 n)).run Tryz.prog w = .ok (.slice (some ⟨w.heap.size, 0, none⟩) n n) (w.alloc (.cells (Array.replicate n (.int .i64 0)) 3)) := by
  obtain ⟨i9, hi9, hy0, hy1, hy2⟩ := info_parts infoI24
  have h := run_make_row (P := Tryz.prog) 44 3 i9 (.int .i64 0) Tryz.underlying44 hi9 hy0 hy1 rfl .i64 .i64 n (by rw [hy2]; omega) (by omega) w
  rw [made_ints, show ((List.replicate n (0 : Int)).map (Value.int .i64)).toArray = Array.replicate n (.int .i64 0) by simp] at h
  exact h
end Go.Proofs.YtjmebijckcimoaaGreatDoor


namespace Go.Ap
open Go Go.RowKit
def tabN (n m : Nat) (F : Nat → Nat → Nat) : List Value := (List.range n).flatMap fun f => (List.range m).map fun s => Value.int .i64 ((F f s : Nat) : Int)
theorem tabN_len (n m : Nat) (F : Nat → Nat → Nat) : (tabN n m F).length = n * m := by
  unfold tabN
  induction n with
  | zero => simp
  | succ n ih =>
    rw [List.range_succ, List.flatMap_append, List.length_append, ih, Nat.succ_mul]
    simp
theorem tabN_at {n m f s : Nat} (F : Nat → Nat → Nat) (hf : f < n) (hs : s < m) : (tabN n m F)[f * m + s]? = some (.int .i64 ((F f s : Nat) : Int)) := by
  unfold tabN
  refine flatAt (f := fun f => (List.range m).map fun s => Value.int .i64 ((F f s : Nat) : Int)) (m := m) (fun f => by simp) (List.getElem?_range hf) ?_
  rw [List.getElem?_map, List.getElem?_range hs]
  rfl
theorem tabN_set {n m f s z : Nat} (F : Nat → Nat → Nat) (_ : f < n) (hs : s < m) : (tabN n m F).set (f * m + s) (.int .i64 ((z : Nat) : Int)) = tabN n m fun a b => if a = f ∧ b = s then z else F a b := by
  apply List.ext_getElem?
  intro i
  rw [List.getElem?_set, tabN_len]
  have hm : 0 < m := by omega
  by_cases hi : i < n * m
  · have h1 : i / m < n := Nat.div_lt_of_lt_mul (by rwa [Nat.mul_comm] at hi)
    have h2 : i % m < m := Nat.mod_lt _ hm
    have h3 : i / m * m + i % m = i := by rw [Nat.mul_comm]; exact Nat.div_add_mod i m
    have a1 := tabN_at F h1 h2
    have a2 := tabN_at (fun a b => if a = f ∧ b = s then z else F a b) h1 h2
    rw [h3] at a1 a2
    rw [a1, a2]
    by_cases hx : f * m + s = i
    · have e1 : i / m = f := by
        rw [← hx, Nat.mul_comm, Nat.mul_add_div hm, Nat.div_eq_of_lt hs, Nat.add_zero]
      have e2 : i % m = s := by
        rw [← hx, Nat.mul_comm, Nat.mul_add_mod, Nat.mod_eq_of_lt hs]
      rw [if_pos hx, if_pos (by rw [hx]; exact hi)]
      simp [e1, e2]
    · have : ¬(i / m = f ∧ i % m = s) := fun h => hx (by rw [← h.1, ← h.2]; exact h3)
      rw [if_neg hx]
      simp [this]
  · rw [if_neg (fun h => by
      have : f * m + s < n * m := by
        have h4 : (f + 1) * m ≤ n * m := Nat.mul_le_mul_right _ (by omega)
        rw [Nat.succ_mul] at h4
        omega
      omega), List.getElem?_eq_none (by rw [tabN_len]; omega), List.getElem?_eq_none (by rw [tabN_len]; omega)]
theorem tabN_zero (n m : Nat) : tabN n m (fun _ _ => 0) = List.replicate (n * m) (Value.int .i64 0) := by
  rw [List.eq_replicate_iff]
  refine ⟨tabN_len _ _ _, fun v hv => ?_⟩
  unfold tabN at hv
  obtain ⟨f, _, hv⟩ := List.mem_flatMap.1 hv
  obtain ⟨s, _, rfl⟩ := List.mem_map.1 hv
  rfl
end Go.Ap
