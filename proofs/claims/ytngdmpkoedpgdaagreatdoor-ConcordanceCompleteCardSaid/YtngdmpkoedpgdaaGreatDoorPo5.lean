/-
  The rows of postings under way: what a round of postings keeps.
-/
import Derived.Test.YtngdmpkoedpgdaaGreatDoorSc
import Derived.Test.YtngdmpkoedpgdaaGreatDoorIp
namespace Go.Ap
open Go Go.RowKit
/-- rows of different element types lie in different blocks -/
theorem own_type {w : World} {base n size base' n' size' : Nat} {e e' : TypeId} {v v' : Value} {xs xs' : List Value} (h : w.ownsRow base e size v n xs) (h' : w.ownsRow base' e' size' v' n' xs') (hne : e ≠ e') : v.ownBlock = none ∨ v.ownBlock ≠ v'.ownBlock := by
  rcases h.2 with ⟨rfl, _⟩ | ⟨g, cap, cur, rfl, _, hg, _⟩
  · exact .inl rfl
  · refine .inr fun he => ?_
    rcases h'.2 with ⟨rfl, _⟩ | ⟨g', cap', cur', rfl, _, hg', _⟩
    · cases he
    · have hgg : g = g' := by simpa [Value.ownBlock] using he
      subst hgg
      rw [hg] at hg'
      cases hg'
      exact hne rfl
/-- a head with the slice of its lines: three cells -/
abbrev Item := (Str × Str) × Value
def itC (p : Item) : List Value := [.string (bs p.1.1), .string (bs p.1.2), p.2]
theorem itC_len (p : Item) : (itC p).length = 3 := rfl
section
variable {P : Program} {t k e : TypeId} (T : MapV P t k e (Str × Str))
/-- what a round of postings keeps: the map under way, the items that are done, the head that is being done -/
structure RndP (pe ie : TypeId) (w : World) (b r base n : Nat) (f : Str × Str → Option Value) (g : Str × Str → List Int) (left : Str × Str → Bool) (cnt : Nat) (out : Value) (I : List Item) (cur : Option (Str × Str)) : Prop where
  map : MapW T w b r n f left cnt
  types : pe ≠ ie
  todo : ∀ s v, left s = true → f s = some v → OwnI ie w base v (g s)
  row : w.ownsRow base pe 3 out I.length (I.flatMap itC)
  lines : ∀ p ∈ I, OwnI ie w base p.2 (Lib.compact (sortI (g p.1)))
  done : ∀ p ∈ I, left p.1 = false ∧ ∃ v, f p.1 = some v ∧ p.2.ownBlock = v.ownBlock
  once : (I.map (·.1)).Nodup
  all : ∀ s, f s ≠ none → left s = true ∨ s ∈ I.map (·.1) ∨ cur = some s
  now : ∀ s, cur = some s → left s = false ∧ s ∉ I.map (·.1)
  apart : ∀ s s' v v', f s = some v → f s' = some v' → s ≠ s' → Apart v v'
variable {T}
variable {pe ie : TypeId} {w w' : World} {b r base n cnt : Nat} {f : Str × Str → Option Value} {g : Str × Str → List Int} {left : Str × Str → Bool} {out : Value} {I : List Item} {cur : Option (Str × Str)}
theorem MapW.below {κ : Type} {T : MapV P t k e κ} {f : κ → Option Value} {left : κ → Bool} (h : MapW T w b r n f left cnt) (hb : Below w.heap.size w w') : MapW T w' b r n f left cnt := by
  have hg : w.grownBy w' none := ⟨hb.os, hb.tape, hb.output, hb.size, fun k hk _ => hb.block k hk⟩
  exact h.kept hg (by simp) (by simp)
theorem MapW.iter {κ : Type} {T : MapV P t k e κ} {f : κ → Option Value} {left : κ → Bool} (h : MapW T w b r n f left cnt) {base' n' size : Nat} {e' : TypeId} {v : Value} {xs : List Value} (ho : w.ownsRow base' e' size v n' xs) : some r ≠ v.ownBlock := by
  obtain ⟨D, lf, h1, _⟩ := h
  exact Go.row_ne_iter ho h1
/-- new blocks and draws change nothing -/
theorem RndP.below (h : RndP T pe ie w b r base n f g left cnt out I cur) (hb : Below w.heap.size w w') : RndP T pe ie w' b r base n f g left cnt out I cur :=
  { h with
    map := h.map.below hb
    todo := fun s v hs hv => (h.todo s v hs hv).below hb
    row := owns_below h.row hb
    lines := fun p hp => (h.lines p hp).below hb }
/-- the next head is taken -/
theorem RndP.next {s : Str × Str} {cnt' : Nat} (h : RndP T pe ie w b r base n f g left cnt out I none) (hl : left s = true) (hm : MapW T w' b r n f (fun x => left x && !decide (x = s)) cnt') (hg : w.grownBy w' (some r)) :
    RndP T pe ie w' b r base n f g (fun x => left x && !decide (x = s)) cnt' out I (some s) where
  map := hm
  types := h.types
  todo x v hx hv := by
    simp only [Bool.and_eq_true] at hx
    have h1 := h.todo x v hx.1 hv
    exact h1.kept hg (.inr fun he => h.map.iter h1.1 he.symm)
  row := h.row.kept hg (.inr fun he => h.map.iter h.row he.symm)
  lines p hp := (h.lines p hp).kept hg (.inr fun he => h.map.iter (h.lines p hp).1 he.symm)
  done p hp := ⟨by rw [(h.done p hp).1]; rfl, (h.done p hp).2⟩
  once := h.once
  all x hx := by
    by_cases hxs : x = s
    · exact .inr (.inr (by rw [hxs]))
    · rcases h.all x hx with h1 | h1 | h1
      · exact .inl (by rw [h1]; simp [hxs])
      · exact .inr (.inl h1)
      · cases h1
  now x hx := by
    cases hx
    refine ⟨by simp, fun hm => ?_⟩
    obtain ⟨p, hp, rfl⟩ := List.mem_map.1 hm
    have := (h.done p hp).1
    rw [hl] at this
    cases this
  apart := h.apart
/-- the slice of the head that is being done is worked on -/
theorem RndP.touch {s : Str × Str} {v : Value} {xs : List Int} (h : RndP T pe ie w b r base n f g left cnt out I (some s)) (hf : f s = some v) (hv : OwnI ie w base v xs) (hg : w.grownBy w' v.ownBlock) : RndP T pe ie w' b r base n f g left cnt out I (some s) := by
  obtain ⟨o, ho, hoc⟩ := h.map.map.obj
  have hbv : some b ≠ v.ownBlock := by
    rcases own_not hv.1 ho hoc with h1 | h1
    · rw [h1]; simp
    · exact fun e => h1 e.symm
  have far : ∀ x u, x ≠ s → f x = some u → u.ownBlock = none ∨ u.ownBlock ≠ v.ownBlock := fun x u hx hu => h.apart x s u v hu hf hx
  exact { h with
    map := h.map.kept hg hbv (h.map.iter hv.1)
    todo := fun x u hx hu => (h.todo x u hx hu).kept hg (far x u (fun e => by rw [e, ((h.now s rfl).1)] at hx; cases hx) hu)
    row := h.row.kept hg (own_type h.row hv.1 h.types)
    lines := fun p hp => (h.lines p hp).kept hg (by
      obtain ⟨_, u, hu, hue⟩ := h.done p hp
      rw [hue]
      exact far p.1 u (fun e => (h.now s rfl).2 (List.mem_map.2 ⟨p, hp, e⟩)) hu) }
/-- the head is done: its item is appended -/
theorem RndP.push {s : Str × Str} {v u out' : Value} (h : RndP T pe ie w b r base n f g left cnt out I (some s)) (hf : f s = some v) (hu : OwnI ie w base u (Lib.compact (sortI (g s)))) (hub : u.ownBlock = v.ownBlock)
    (hrow : w'.ownsRow base pe 3 out' (I.length + 1) (I.flatMap itC ++ itC (s, u))) (hg : w.grownBy w' out.ownBlock) : RndP T pe ie w' b r base n f g left cnt out' (I ++ [(s, u)]) none := by
  obtain ⟨o, ho, hoc⟩ := h.map.map.obj
  have hbo : some b ≠ out.ownBlock := by
    rcases own_not h.row ho hoc with h1 | h1
    · rw [h1]; simp
    · exact fun e => h1 e.symm
  have keep : ∀ {z : Value} {xs : List Int}, OwnI ie w base z xs → OwnI ie w' base z xs := fun hz => hz.kept hg (own_type hz.1 h.row (Ne.symm h.types))
  exact {
    map := h.map.kept hg hbo (h.map.iter h.row)
    types := h.types
    todo := fun x z hx hz => keep (h.todo x z hx hz)
    row := by
      rw [List.length_append, List.flatMap_append]
      simpa using hrow
    lines := fun p hp => by
      rcases List.mem_append.1 hp with hp | hp
      · exact keep (h.lines p hp)
      · rw [List.mem_singleton] at hp
        subst hp
        exact keep hu
    done := fun p hp => by
      rcases List.mem_append.1 hp with hp | hp
      · exact h.done p hp
      · rw [List.mem_singleton] at hp
        subst hp
        exact ⟨(h.now s rfl).1, v, hf, hub⟩
    once := by
      rw [List.map_append, List.nodup_append]
      refine ⟨h.once, by simp, fun a ha c hc hac => ?_⟩
      simp only [List.map_cons, List.map_nil, List.mem_singleton] at hc
      subst hc
      subst hac
      exact (h.now _ rfl).2 ha
    all := fun x hx => by
      rw [List.map_append, List.mem_append]
      rcases h.all x hx with h1 | h1 | h1
      · exact .inl h1
      · exact .inr (.inl (.inl h1))
      · cases h1
        exact .inr (.inl (.inr (by simp)))
    now := fun _ hx => by cases hx
    apart := h.apart }
end
end Go.Ap
