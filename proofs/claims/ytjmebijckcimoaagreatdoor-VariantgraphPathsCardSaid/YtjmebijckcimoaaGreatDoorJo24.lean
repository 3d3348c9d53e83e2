/-
  strings.Join of a row of strings; how long the texts of a valid collation are.
-/
import Derived.Test.YtjmebijckcimoaaGreatDoorShc
import Derived.Test.YtjmebijckcimoaaGreatDoorEq
import Derived.Test.YtjmebijckcimoaaGreatDoorGl24
namespace Go.Ap
open Go Go.RowKit
theorem form_len {t : Tok} (h : tokC t = 0) : t.text.length ≤ 64 := by
  have hf : formB t = true := by
    cases hf : formB t with
    | true => rfl
    | false =>
      exfalso
      unfold tokC at h
      rw [hf] at h
      split at h
      · cases h
      · split at h
        · cases h
        · cases h
  unfold formB at hf
  split at hf
  · unfold markB at hf
    split at hf
    · rename_i c hc
      rw [hc]
      simp
    · cases hf
  · split at hf
    · rw [gapB, List.any_eq_true] at hf
      obtain ⟨n, _, hn⟩ := hf
      have hn := of_decide_eq_true hn
      rw [hn]
      unfold gapS dig2
      split <;> simp
    · unfold isWordB at hf
      simp only [Bool.and_eq_true, decide_eq_true_eq] at hf
      exact hf.1.1.1.2
theorem cell_len {x : Coll} (hv : Val x) {k s : Nat} {u : Str} (h : cellO x k s = some u) : u.length ≤ 64 := by
  unfold cellO at h
  split at h
  · split at h
    · cases h
    · obtain ⟨t, ht, rfl⟩ := Option.map_eq_some_iff.1 h
      obtain ⟨l, hl, hl2⟩ := Option.bind_eq_some_iff.1 ht
      exact form_len ((hv.rows l (List.mem_of_getElem? hl)).2 t (List.mem_of_getElem? hl2))
  · cases h
theorem read_len {x : Coll} (hv : Val x) {s lo hi : Nat} : ∀ u ∈ readL x s lo hi, u.length ≤ 64 := fun u hu => by
  unfold readL at hu
  obtain ⟨k, _, hk⟩ := List.mem_filterMap.1 hu
  exact cell_len hv hk
theorem joinTail_len {m : Nat} (sep : Str) : ∀ (r : List Str), (∀ u ∈ r, u.length ≤ m) → (Lib.joinTail sep r).length ≤ r.length * (m + sep.length)
  | [], _ => by simp [Lib.joinTail]
  | u :: r, h => by
    have ih := joinTail_len (m := m) sep r fun v hv => h v (List.mem_cons_of_mem _ hv)
    have h1 := h u List.mem_cons_self
    unfold Lib.joinTail at ih ⊢
    rw [List.map_cons, List.flatten_cons, List.length_append, List.length_append, List.length_cons, Nat.succ_mul]
    omega
theorem join_len {m : Nat} (sep : Str) {us : List Str} (h : ∀ u ∈ us, u.length ≤ m) : (Lib.join us sep).length ≤ us.length * (m + sep.length) := by
  cases us with
  | nil => simp [Lib.join_nil]
  | cons u r =>
    rw [Lib.join_cons, List.length_append, List.length_cons, Nat.succ_mul]
    have h1 := h u List.mem_cons_self
    have h2 := joinTail_len (m := m) sep r fun v hv => h v (List.mem_cons_of_mem _ hv)
    omega
end Go.Ap
namespace Go.Proofs.YtjmebijckcimoaaGreatDoor
open Go.RowKit Go.Ap Go.Shelf Go.Proofs
theorem joinC (a : Option Addr) (n c : Nat) (us : List Str) (sep : Str) (w : World) (h : StrsL w a n us) (hc : n ≤ c) (hlen : (Lib.join us sep).length ≤ 140737488355328) (hn : n ≤ 140737488355328) :
    Calls Tryz.prog 36 #[.slice a n c, .string (bs sep)] w fun e w' => e = .returned (.string (bs (Lib.join us sep))) ∧ Below w.heap.size w w' := by
  have hl := h.len
  rcases Nat.eq_zero_or_pos n with h0 | h0
  · subst h0
    have e1 : us = [] := List.eq_nil_of_length_eq_zero hl
    subst e1
    exact (Tryz.strings_Join_none a c (bs sep) w).mono fun e w' ⟨he, hw⟩ => ⟨he, by rw [hw]; exact Below.refl _ _⟩
  · obtain ⟨b, off, rfl, hcell⟩ := h.at h0
    have hd : (us.map bs).map (·.data.toList) = us := by
      rw [List.map_map]
      exact (List.map_congr_left fun u _ => by simp [bs]).trans (List.map_id us)
    have h9 : b < w.heap.size := by
      obtain ⟨u, hu⟩ : ∃ u, us[0]? = some u := ⟨_, List.getElem?_eq_getElem (by omega)⟩
      exact World.block_lt_of_cell? w _ (hcell 0 u hu)
    have := Tryz.strings_Join b off c (us.map bs) (bs sep) w (fun j x hx => by
      rw [List.getElem?_map] at hx
      obtain ⟨u, hu, rfl⟩ := Option.map_eq_some_iff.1 hx
      exact hcell j u hu) h9 (by rw [List.length_map, hl]; exact hn) (by rw [List.length_map, hl]; exact hc) (by rw [hd]; exact hlen)
    rw [List.length_map, hl, hd] at this
    exact this
end Go.Proofs.YtjmebijckcimoaaGreatDoor
