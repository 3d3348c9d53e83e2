import Derived.Test.YtjmebijckcimoaaGreatDoorShelf
import Derived.Test.YtjmebijckcimoaaGreatDoorShb
import Derived.Test.YtjmebijckcimoaaGreatDoorUa
import Derived.Test.YtjmebijckcimoaaGreatDoorCn24
import Derived.Test.YtjmebijckcimoaaGreatDoorGx24




namespace Go.Proofs.YtjmebijckcimoaaGreatDoor
open Go.RowKit Go.Ap Go.Shelf Go.Proofs

attribute [local go_sem] Oper.semAt_some bs_toList empty_toList bs_size bs_extract
theorem map_bs_inj : ∀ {xs ys : List Str}, xs.map bs = ys.map bs → xs = ys
  | [], [], _ => rfl
  | [], _ :: _, h => by simp at h
  | _ :: _, [], h => by simp at h
  | x :: xs, y :: ys, h => by
    rw [List.map_cons, List.map_cons] at h
    injection h with h1 h2
    have h3 : x = y := by first | exact bs_inj h1 | exact bs_inj.1 h1
    rw [h3, map_bs_inj h2]
theorem eqStrs (a a' : Option Addr) (c c' n n' : Nat) (xs ys : List Str) (w : World) (h : StrsL w a n xs) (h' : StrsL w a' n' ys) : Calls Tryz.prog 20 #[.slice a n c, .slice a' n' c'] w fun e w' => e = .returned (.bool (decide (xs = ys))) ∧ ∃ q, w' = w.drewN q := by
  have hl := h.len
  have hl' := h'.len
  have hs := h.small
  have hs' := h'.small
  by_cases hn : n = n'
  · subst hn
    rcases Nat.eq_zero_or_pos n with h0 | h0
    · subst h0
      have e1 : xs = [] := List.eq_nil_of_length_eq_zero hl
      have e2 : ys = [] := List.eq_nil_of_length_eq_zero hl'
      subst e1 e2
      exact (Tryz.slices_Equal_string_empty a a' c 0 c' w (by omega)).mono fun e w' ⟨he, hw⟩ => ⟨by rw [he]; rfl, 0, hw⟩
    · obtain ⟨b, off, rfl, hc⟩ := h.at h0
      obtain ⟨b', off', rfl, hc'⟩ := h'.at h0
      have get : ∀ (zs : List Str) (j : Nat), j < (zs.map bs).length → ∃ z, zs[j]? = some z ∧ (zs.map bs).getD j ByteArray.empty = bs z := fun zs j hj => by
        have hj' : j < zs.length := by simpa using hj
        exact ⟨zs[j], List.getElem?_eq_getElem hj', by simp [List.getD, hj']⟩
      refine (Tryz.slices_Equal_string b off n c b' off' n c' (xs.map bs) (ys.map bs) w (by simp [hl]) (by simp [hl']) (by omega) (by omega) (fun j hj => ?_) (fun j hj => ?_)).mono fun e w' ⟨he, hw⟩ => ⟨?_, hw⟩
      · obtain ⟨z, hz, he⟩ := get xs j hj
        rw [he]; exact hc j z hz
      · obtain ⟨z, hz, he⟩ := get ys j hj
        rw [he]; exact hc' j z hz
      · rw [he, List.take_of_length_le (by simp [hl]), List.take_of_length_le (by simp [hl'])]
        exact ret_b (by
          rw [decide_eq_decide]
          exact ⟨fun h => map_bs_inj h, fun h => by rw [h]⟩)
  · exact (Tryz.slices_Equal_string_lens a a' n c n' c' w hn).mono fun e w' ⟨he, hw⟩ => ⟨by
      rw [he]
      exact ret_b (by rw [eq_comm, decide_eq_false_iff_not]; intro h; exact hn (by rw [← hl, ← hl', h])), 0, hw⟩
end Go.Proofs.YtjmebijckcimoaaGreatDoor



namespace Go.Proofs.YtjmebijckcimoaaGreatDoor
open Go.RowKit Go.Ap Go.Shelf Go.Proofs
theorem push_str {u : Str} {ops : Array Oper} {rest : List Oper} {o : Oper} {a : Act} {Q : Exit → Act → World → Prop} {w0 : World} (hgd : o.guard = none) (s x : Operand)
    (ho : o.op = .call { callee := .builtin .append, args := #[s, x], argTypes := #[22, 22] })
    (base : Nat) (v : Value) (us : List Str) (hs : a.eval s = v) (hown : OwnS w0 base v us) (hx : a.eval x = .slice (some ⟨w0.heap.size, 0, none⟩) 1 1) (hl : us.length ≤ 1000000) (hbase : base ≤ w0.heap.size)
    (h : ∀ v' w', OwnS w' base v' (us ++ [u]) → Below base w0 w' → (w0.alloc (.cells #[.string (bs u)] 9)).grownBy w' v.ownBlock → wpList Tryz.prog ops Q rest (a.put o.dst v') w') :
    wpList Tryz.prog ops Q (o :: rest) a (w0.alloc (.cells #[.string (bs u)] 9)) := by
  obtain ⟨i0, hi0, hz0, hz1, hz2⟩ := info_parts infoStr24
  refine wpList_append_own _ hgd s x 22 ho base 9 i0 (.string { data := #[] }) 1 16 Tryz.underlying22 hi0 hz0 hz1 hz2 rfl (by decide) v us.length (us.map sv) hs (World.ownsRow.alloc hown _) ⟨w0.heap.size, 0, none⟩ 1 1 [.string (bs u)] hx rfl (cell_one_new _ _ _) (by simp [Value.oneCell']) (by unfold maxLen; omega) (by omega) (by simp; omega) ?_
  intro v' w' h1 h2 _
  obtain ⟨h3, h4⟩ := OwnS.pushed hown hbase h1 h2
  exact h v' w' h3 h4 h2
end Go.Proofs.YtjmebijckcimoaaGreatDoor
