/-
  strings.Join of a row of strings; how long the texts of a valid collation are.
-/
import Derived.Test.YtjmebijckcimoaaGreatDoorShc
import Derived.Test.YtjmebijckcimoaaGreatDoorEq
import Derived.Test.YtjmebijckcimoaaGreatDoorGl24
namespace Go.Ap
open Go Go.RowKit
theorem joinTail_len {m : Nat} (sep : Str) : ∀ (r : List Str), (∀ u ∈ r, u.length ≤ m) → (Lib.joinTail sep r).length ≤ r.length * (m + sep.length)
  | [], _ => by simp [Lib.joinTail]
  | u :: r, h => by
    have ih := joinTail_len (m := m) sep r fun v hv => h v (List.mem_cons_of_mem _ hv)
    have h1 := h u List.mem_cons_self
    unfold Lib.joinTail at ih ⊢
    rw [List.map_cons, List.flatten_cons, List.length_append, List.length_append, List.length_cons, Nat.succ_mul]
    omega
theorem join_len {m : Nat} (sep : Str) {us : List Str} (h : ∀ u ∈ us, u.length ≤ m) : (Lib.join us sep).length ≤ us.length * (m + sep.length) := by
  cases us with
  | nil => simp [Lib.join_nil]
  | cons u r =>
    rw [Lib.join_cons, List.length_append, List.length_cons, Nat.succ_mul]
    have h1 := h u List.mem_cons_self
    have h2 := joinTail_len (m := m) sep r fun v hv => h v (List.mem_cons_of_mem _ hv)
    omega
end Go.Ap
namespace Go.Proofs.YtjmebijckcimoaaGreatDoor
open Go.RowKit Go.Ap Go.Shelf Go.Proofs
theorem joinC (a : Option Addr) (n c : Nat) (us : List Str) (sep : Str) (w : World) (h : StrsL w a n us) (hc : n ≤ c) (hlen : (Lib.join us sep).length ≤ 140737488355328) (hn : n ≤ 140737488355328) :
    Calls Tryz.prog 36 #[.slice a n c, .string (bs sep)] w fun e w' => e = .returned (.string (bs (Lib.join us sep))) ∧ Below w.heap.size w w' := by
  have hl := h.len
  rcases Nat.eq_zero_or_pos n with h0 | h0
  · subst h0
    have e1 : us = [] := List.eq_nil_of_length_eq_zero hl
    subst e1
    exact (Tryz.strings_Join_none a c (bs sep) w).mono fun e w' ⟨he, hw⟩ => ⟨he, by rw [hw]; exact Below.refl _ _⟩
  · obtain ⟨b, off, rfl, hcell⟩ := h.at h0
    have hd : (us.map bs).map (·.data.toList) = us := by
      rw [List.map_map]
      exact (List.map_congr_left fun u _ => by simp [bs]).trans (List.map_id us)
    have h9 : b < w.heap.size := by
      obtain ⟨u, hu⟩ : ∃ u, us[0]? = some u := ⟨_, List.getElem?_eq_getElem (by omega)⟩
      exact World.block_lt_of_cell? w _ (hcell 0 u hu)
    have := Tryz.strings_Join b off c (us.map bs) (bs sep) w (fun j x hx => by
      rw [List.getElem?_map] at hx
      obtain ⟨u, hu, rfl⟩ := Option.map_eq_some_iff.1 hx
      exact hcell j u hu) h9 (by rw [List.length_map, hl]; exact hn) (by rw [List.length_map, hl]; exact hc) (by rw [hd]; exact hlen)
    rw [List.length_map, hl, hd] at this
    exact this
end Go.Proofs.YtjmebijckcimoaaGreatDoor
