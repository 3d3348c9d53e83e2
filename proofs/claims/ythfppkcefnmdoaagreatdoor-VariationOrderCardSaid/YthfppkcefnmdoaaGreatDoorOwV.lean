/-
  A row of the call's own whose elements are values of which something holds; the iterator value over columns.
-/
import Derived.Test.YthfppkcefnmdoaaGreatDoorCi
import Derived.Test.YthfppkcefnmdoaaGreatDoorRegT
import Derived.Test.YthfppkcefnmdoaaGreatDoorUn
namespace Go.Ap
open Go Go.RowKit
section
variable {α : Type} {e : TypeId} {P P' : Value → α → Prop} {w w' : World} {base : Nat} {v : Value} {xs : List α}
def OwnV (e : TypeId) (P : Value → α → Prop) (w : World) (base : Nat) (v : Value) (xs : List α) : Prop :=
  ∃ vs : List Value, w.ownsRow base e 1 v xs.length vs ∧ ∀ (k : Nat) (x : α), xs[k]? = some x → ∃ u, vs[k]? = some u ∧ P u x
theorem OwnV.nil (w : World) (base : Nat) : OwnV e P w base (.slice none 0 0) [] := ⟨[], World.ownsRow_nil _ _ _ _, fun k x hk => by simp at hk⟩
theorem OwnV.below (h : OwnV e P w base v xs) (hb : Below w.heap.size w w') : OwnV e P w' base v xs := by
  obtain ⟨vs, h1, h2⟩ := h
  exact ⟨vs, owns_below h1 hb, h2⟩
theorem OwnV.kept {row : Option Nat} (h : OwnV e P w base v xs) (hg : w.grownBy w' row) (hne : v.ownBlock = none ∨ v.ownBlock ≠ row) : OwnV e P w' base v xs := by
  obtain ⟨vs, h1, h2⟩ := h
  exact ⟨vs, h1.kept hg hne, h2⟩
theorem OwnV.imp (h : OwnV e P w base v xs) (hP : ∀ u x, P u x → P' u x) : OwnV e P' w base v xs := by
  obtain ⟨vs, h1, h2⟩ := h
  exact ⟨vs, h1, fun k x hk => by obtain ⟨u, hu, hp⟩ := h2 k x hk; exact ⟨u, hu, hP u x hp⟩⟩
/-- ready for one more -/
theorem OwnV.ready (h : OwnV e P w base v xs) : ∃ vs, w.ownsRow base e 1 v xs.length vs ∧ ∀ (w1 : World) (v' u : Value) (x : α), w1.ownsRow base e 1 v' (xs.length + 1) (vs ++ [u]) → P u x → OwnV e P w1 base v' (xs ++ [x]) := by
  obtain ⟨vs, h1, h2⟩ := h
  have hl : vs.length = xs.length := by have := h1.1; omega
  refine ⟨vs, h1, fun w1 v' u x ho hp => ⟨vs ++ [u], by simpa using ho, fun k y hk => ?_⟩⟩
  rw [List.getElem?_append] at hk ⊢
  rw [hl]
  split at hk
  · rename_i hlt
    rw [if_pos hlt]
    exact h2 k y hk
  · rename_i hlt
    rw [if_neg hlt]
    have hk0 : k - xs.length = 0 := by
      have := (List.getElem?_eq_some_iff.1 hk).1
      simp at this
      omega
    rw [hk0] at hk ⊢
    simp at hk
    subst hk
    exact ⟨u, rfl, hp⟩
theorem OwnV.sl {R : World → Value → α → Prop} (h : OwnV e P w base v xs) (hn : xs.length ≤ 4611686018427387903) (hR : ∀ u x, P u x → R w u x) : ∃ a c, v = .slice a xs.length c ∧ Sl R w a xs.length xs := by
  obtain ⟨vs, h1, h2⟩ := h
  rcases h1.2 with ⟨rfl, h0⟩ | ⟨g, cap, cur, rfl, _⟩
  · have : xs = [] := List.eq_nil_of_length_eq_zero h0
    subst this
    exact ⟨none, 0, rfl, Sl.nil _ _⟩
  · refine ⟨_, cap, rfl, rfl, hn, fun k x hk => ?_⟩
    obtain ⟨u, hu, hp⟩ := h2 k x hk
    have hkl : k < xs.length := (List.getElem?_eq_some_iff.1 hk).1
    exact ⟨g, 0, u, rfl, by rw [Nat.zero_add, h1.cellAt _ (by omega)]; exact hu, hR u x hp⟩
/-- a row of strings of the call's own: the slice's shape -/
theorem OwnS.cap {xs : List Str} (h : OwnS w base v xs) (hn : xs.length ≤ 4611686018427387903) : ∃ a c, v = .slice a xs.length c ∧ StrsL w a xs.length xs ∧ xs.length ≤ c := by
  obtain ⟨a, c, rfl, hs⟩ := h.strs hn
  refine ⟨a, c, rfl, hs, ?_⟩
  rcases h.2 with ⟨he, h0⟩ | ⟨g, cap, cur, he, _, _, hr⟩
  · omega
  · cases he
    have := hr.1
    omega
end
end Go.Ap
namespace Go.Proofs.YthfppkcefnmdoaaGreatDoor
open Go.RowKit Go.Ap Go.Shelf Go.Proofs

attribute [local go_sem] Oper.semAt_some bs_toList empty_toList bs_size bs_extract
theorem columnsP (x : Coll) (a1 : Option Addr) (n1 c1 : Nat) (a2 : Option Addr) (n2 c2 : Nat) (a3 : Option Addr) (n3 c3 : Nat) (ao : Option Addr) (no co : Nat) (w : World) :
    Calls Tryz.prog 93 #[collV x.sec a1 n1 c1 a2 n2 c2 a3 n3 c3, .slice ao no co] w fun e w' => e = .returned (.func (.func 122) #[] #[.pointer (some ⟨w.heap.size, 0, none⟩), .pointer (some ⟨w.heap.size + 1, 0, none⟩)]) ∧
      BlkK w' w.heap.size #[.string (bs x.sec), .slice a1 n1 c1, .slice a2 n2 c2, .slice a3 n3 c3] 26 ∧ BlkK w' (w.heap.size + 1) #[.slice ao no co] 37 ∧ Below w.heap.size w w' := by
  unfold collV
  go_enter Tryz.func93, Tryz.ntmps93
  go_wp2_with (fail)
  go_ret
  have h1 := balloc w (.cells #[.string (bs x.sec), .slice a1 n1 c1, .slice a2 n2 c2, .slice a3 n3 c3] 26)
  have h2 := balloc (w.alloc (.cells #[.string (bs x.sec), .slice a1 n1 c1, .slice a2 n2 c2, .slice a3 n3 c3] 26)) (.cells #[.slice ao no co] 37)
  refine ⟨by simp, (BlkK.new w _ _).below h2, ?_, bstep h1 h2⟩
  have := BlkK.new (w.alloc (.cells #[.string (bs x.sec), .slice a1 n1 c1, .slice a2 n2 c2, .slice a3 n3 c3] 26)) #[.slice ao no co] 37
  rwa [World.size_alloc] at this
end Go.Proofs.YthfppkcefnmdoaaGreatDoor
