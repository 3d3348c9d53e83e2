/-
  Groups: a map of slices of ints of the call's own, no two of which share a block.
-/
import Derived.Test.YtngdmpkoedpgdaaGreatDoorHk
namespace Go.Ap
open Go Go.RowKit
/-- a row of the call's own lies in no block that is no cells -/
theorem own_not {w : World} {base n size : Nat} {e : TypeId} {v : Value} {xs : List Value} {b : Nat} {o : Obj} (h : w.ownsRow base e size v n xs) (hb : w.heap[b]? = some o) (ho : o.isCells = false) : v.ownBlock = none ∨ v.ownBlock ≠ some b := by
  rcases h.2 with ⟨rfl, _⟩ | ⟨g, cap, cur, rfl, _, hg, _⟩
  · exact .inl rfl
  · refine .inr fun he => ?_
    have hgb : g = b := by simpa [Value.ownBlock] using he
    subst hgb
    rw [hg] at hb
    cases hb
    cases ho
theorem own_lt {w : World} {base n size : Nat} {e : TypeId} {v : Value} {xs : List Value} {k : Nat} (h : w.ownsRow base e size v n xs) (hk : v.ownBlock = some k) : k < w.heap.size := (h.lt k hk).2
section
variable {P : Program} {t k e : TypeId} {κ : Type} (T : MapV P t k e κ)
/-- block b is a map of at most n groups, each of the call's own -/
def Grp (ie : TypeId) (w : World) (b base n : Nat) (g : κ → List Int) : Prop :=
  ∃ f, MapH T w b n f ∧ (∀ s, f s = none → g s = []) ∧ (∀ s v, f s = some v → OwnI ie w base v (g s) ∧ g s ≠ []) ∧ ∀ s s' v v', f s = some v → f s' = some v' → s ≠ s' → Apart v v'
variable {T}
variable {ie : TypeId} {w w' : World} {b base n : Nat} {g : κ → List Int} {s : κ}
theorem MapH.obj {f : κ → Option Value} (h : MapH T w b n f) : ∃ o, w.heap[b]? = some o ∧ o.isCells = false := by
  obtain ⟨D, ⟨es, clock, h1, _⟩, _⟩ := h
  exact ⟨_, h1, rfl⟩
theorem Grp.made (w : World) : Grp T ie (w.alloc (.map #[] 0)) w.heap.size base 0 fun _ => [] :=
  ⟨_, MapH.made w, fun _ _ => rfl, fun _ _ h => (by cases h), fun _ _ _ _ h => (by cases h)⟩
theorem Grp.lt (h : Grp T ie w b base n g) : b < w.heap.size := by
  obtain ⟨f, h1, _⟩ := h
  exact h1.lt
theorem Grp.below (h : Grp T ie w b base n g) (hb : Below w.heap.size w w') : Grp T ie w' b base n g := by
  obtain ⟨f, h1, h2, h3, h4⟩ := h
  exact ⟨f, h1.below hb, h2, fun s v hv => ⟨(h3 s v hv).1.below hb, (h3 s v hv).2⟩, h4⟩
def updG [DecidableEq κ] (g : κ → List Int) (s : κ) (xs : List Int) : κ → List Int := fun x => if x = s then xs else g x
/-- 'm[k] = append(m[k], ..)' -/
theorem Grp.entry [DecidableEq κ] (hz : T.zero = .slice none 0 0) (h : Grp T ie w b base n g) (hn : n < maxLen) (hs : T.fit s) :
    ∃ u w1 st o1, (Instr.mapEntry t (.map (some b)) (T.kv s)).run P w = .ok (.tuple #[u, st]) w1 ∧ OwnI ie w1 base u (g s) ∧ w.grownBy w1 (some b) ∧ w1.heap[b]? = some o1 ∧ o1.isCells = false ∧ b < w.heap.size ∧
      ∀ w2 v xs, w2.heap[b]? = some o1 → w1.grownBy w2 u.ownBlock → OwnI ie w2 base v xs → xs ≠ [] → (v.ownBlock = u.ownBlock ∨ ∃ k, w1.heap.size ≤ k ∧ v.ownBlock = some k) →
        ∃ w3, (Instr.entryStore t (.map (some b)) st v).run P w2 = .ok () w3 ∧ Grp T ie w3 b base (n + 1) (updG g s xs) ∧ w2.grownBy w3 (some b) := by
  obtain ⟨f, h1, h2, h3, h4⟩ := h
  obtain ⟨o0, ho0, hoc⟩ := h1.obj
  obtain ⟨w1, st, o1, r1, r2, r3, r4, r5⟩ := h1.entry hn hs
  have keep1 : ∀ x v, f x = some v → OwnI ie w1 base v (g x) := fun x v hv => (h3 x v hv).1.kept r2 (own_not (h3 x v hv).1.1 ho0 hoc)
  refine ⟨(f s).getD T.zero, w1, st, o1, r1, ?_, r2, r3, r4, h1.lt, fun w2 v xs q1 q2 q3 q4 q5 => ?_⟩
  · cases hf : f s with
    | none => rw [h2 s hf, hz]; exact OwnI.nil _ _ _
    | some u => exact keep1 s u hf
  · obtain ⟨w3, p1, p2, p3⟩ := r5 w2 v q1
    refine ⟨w3, p1, ⟨_, p2, fun x hx => ?_, fun x u hx => ?_, fun x y u u' hx hy hxy => ?_⟩, p3⟩
    · unfold updV at hx
      unfold updG
      by_cases hxs : x = s
      · rw [if_pos hxs] at hx; cases hx
      · rw [if_neg hxs] at hx ⊢
        exact h2 x hx
    · unfold updV at hx
      unfold updG
      by_cases hxs : x = s
      · rw [if_pos hxs] at hx ⊢
        cases hx
        exact ⟨q3.kept p3 (own_not q3.1 q1 r4), q4⟩
      · rw [if_neg hxs] at hx ⊢
        refine ⟨?_, (h3 x u hx).2⟩
        have k1 := keep1 x u hx
        have k2 : OwnI ie w2 base u (g x) := k1.kept q2 (by
          cases hf : f s with
          | none =>
            simp only [Option.getD_none, hz]
            by_cases he : u.ownBlock = none
            · exact .inl he
            · exact .inr he
          | some y =>
            simp only [Option.getD_some]
            exact h4 x s u y hx hf hxs)
        exact k2.kept p3 (own_not k2.1 q1 r4)
    · have key : ∀ x u, x ≠ s → f x = some u → u.ownBlock = none ∨ u.ownBlock ≠ v.ownBlock := fun x u hxs hx => by
        by_cases he : u.ownBlock = none
        · exact .inl he
        refine .inr fun heq => ?_
        rcases q5 with q5 | ⟨k, hk, q5⟩
        · cases hf : f s with
          | none =>
            rw [hf, Option.getD_none, hz] at q5
            rw [heq, q5] at he
            exact he rfl
          | some y =>
            rw [hf, Option.getD_some] at q5
            rcases h4 x s u y hx hf hxs with h5 | h5
            · exact he h5
            · exact h5 (heq.trans q5)
        · have := own_lt (keep1 x u hx).1 (heq.trans q5)
          omega
      unfold updV at hx hy
      by_cases hxs : x = s
      · rw [if_pos hxs] at hx
        cases hx
        rw [if_neg (fun e => hxy (hxs.trans e.symm))] at hy
        exact apart_symm (key y u' (fun e => hxy (hxs.trans e.symm)) hy)
      · rw [if_neg hxs] at hx
        by_cases hys : y = s
        · rw [if_pos hys] at hy
          cases hy
          exact key x u hxs hx
        · rw [if_neg hys] at hy
          exact h4 x y u u' hx hy hxy
end
end Go.Ap
