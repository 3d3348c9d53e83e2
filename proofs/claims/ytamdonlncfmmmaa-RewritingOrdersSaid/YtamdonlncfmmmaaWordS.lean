/-
  Slices of strings: a piece of one; what append leaves, whatever the source.
-/
import Derived.Test.YtamdonlncfmmmaaW11
namespace Go.Proofs.Ytamdonlncfmmmaa
open Go.RowKit Go.Ap Go.Shelf Go.Proofs

theorem elem26 : Try.prog.elem 26 = 9 := by simp [Program.elem, Try.underlying26]
theorem under26 : Try.prog.underlying 26 = some (.slice (Try.prog.elem 26)) := by rw [elem26]; exact Try.underlying26
theorem strs_take {w : World} {a : Option Addr} {n c k : Nat} {xs : List Str} (h : StrsL w a n xs) (hk : k ≤ n) (hc : n ≤ c) :
    ∃ a', (∀ w', (Instr.slice 26 (.slice a n c) none (some (.int .i64 (k : Int))) none).run Try.prog w' = .ok (.slice a' k c) w') ∧ StrsL w a' k (xs.take k) := by
  refine ⟨if c = 0 then a else a.map (·.add (0 * 1)), fun w' => ?_, ?_⟩
  · rw [run_slice_h w' 26 a n c under26 .i64 (k : Int) (by omega) (by omega), elem26, Try.sizeOf9]
    simp [Result.andThen, sliced]
  · by_cases hz : k = 0
    · subst hz
      rw [List.take_zero]
      exact Sl.nil _ _
    · have ha : (if c = 0 then a else a.map (·.add (0 * 1))) = a := by
        split
        · rfl
        · cases a <;> simp [Addr.add]
      rw [ha]
      refine ⟨by rw [List.length_take, h.len]; omega, by have := h.small; omega, fun j x hx => ?_⟩
      rw [List.getElem?_take] at hx
      split at hx
      · exact h.cells j x hx
      · cases hx
theorem strs_drop {w : World} {a : Option Addr} {n c k : Nat} {xs : List Str} (h : StrsL w a n xs) (hk : k ≤ n) (hc : n ≤ c) :
    ∃ a', (∀ w', (Instr.slice 26 (.slice a n c) (some (.int .i64 (k : Int))) none none).run Try.prog w' = .ok (.slice a' (n - k) (c - k)) w') ∧ StrsL w a' (n - k) (xs.drop k) := by
  refine ⟨if c = k then a else a.map (·.add (k * 1)), fun w' => ?_, ?_⟩
  · rw [run_slice_l w' 26 a n c under26 .i64 (k : Int) (by omega) (by omega), elem26, Try.sizeOf9]
    simp [Result.andThen, sliced]
  · by_cases hz : n = k
    · have hx : xs.drop k = [] := List.drop_eq_nil_of_le (by rw [h.len]; omega)
      rw [hx, show n - k = 0 by omega]
      exact Sl.nil _ _
    · obtain ⟨b, o, rfl, _⟩ := StrsL.at h (by omega)
      have hadd : (⟨b, o, none⟩ : Addr).add (k * 1) = ⟨b, o + k, none⟩ := by unfold Addr.add; split <;> simp_all
      rw [if_neg (by omega), Option.map_some, hadd]
      refine ⟨by rw [List.length_drop, h.len], by have := h.small; omega, fun j x hx => ?_⟩
      rw [List.getElem?_drop] at hx
      obtain ⟨b', off, v, ha, hcell, hr⟩ := h.cells _ x hx
      cases ha
      exact ⟨b, o + k, v, rfl, by rw [Nat.add_assoc]; exact hcell, hr⟩
theorem OwnS_append {w : World} {base : Nat} {v : Value} {xs ys : List Str} {A : Option Addr} {m : Nat} (h : OwnS w base v xs) (hy : StrsL w A m ys) (c : Nat) (hb : base ≤ w.heap.size) (hl : xs.length + m ≤ 1000000) :
    ∃ v' w', (Builtin.append_ #[26, 26] 26 #[v, .slice A m c]).run Try.prog w = .ok v' w' ∧ OwnS w' base v' (xs ++ ys) ∧ w.grownBy w' v.ownBlock ∧ (v'.ownBlock = v.ownBlock ∨ v'.ownBlock = some w.heap.size) := by
  obtain ⟨i0, hi, hz0, hz1, hz2⟩ := info_parts info9
  have hlen := hy.len
  cases A with
  | none =>
    have hm : m = 0 := by
      rcases Nat.eq_zero_or_pos m with h0 | h0
      · exact h0
      · obtain ⟨b, o, hh, _⟩ := StrsL.at hy h0
        cases hh
    subst hm
    have : ys = [] := List.eq_nil_of_length_eq_zero hlen
    subst this
    refine ⟨v, w, ?_, by simpa using h, World.grownBy.refl w _, .inl rfl⟩
    rcases h.2 with ⟨rfl, _⟩ | ⟨g, cap, cur, rfl, _, _, hnc, _⟩
    · simp [Builtin.append_, run_underlying Try.underlying26, sizeOf, typeInfo, hi, Builtin.lenOf, Builtin.firstCells]
    · simp [Builtin.append_, run_underlying Try.underlying26, sizeOf, typeInfo, hi, Builtin.lenOf, Builtin.firstCells, hnc, storeCells]
  | some ad =>
    have hcells : ∀ j u, (ys.map sv)[j]? = some u → w.cell? (ad.add j) = some u := fun j u hu => by
      rw [List.getElem?_map] at hu
      obtain ⟨y, hy', rfl⟩ := Option.map_eq_some_iff.1 hu
      obtain ⟨b, o, v', ha, hc, rfl⟩ := hy.cells j y hy'
      cases ha
      have hadd : (⟨b, o, none⟩ : Addr).add j = ⟨b, o + j, none⟩ := by unfold Addr.add; split <;> simp_all
      rw [hadd]; exact hc
    obtain ⟨v', w', hrun, h2, h3, _, h5⟩ := run_append_own_at (P := Try.prog) (w := w) base 26 26 9 i0 (.string { data := #[] }) 1 16 Try.underlying26 hi hz0 hz1 hz2 rfl (by decide) v xs.length (xs.map sv) h ad m c (ys.map sv) (by simp [hlen]) hcells (fun u hu => by obtain ⟨y, _, rfl⟩ := List.mem_map.1 hu; rfl) (by unfold maxLen; omega) (by omega) hb
    exact ⟨v', w', hrun, by unfold OwnS; rw [List.length_append, List.map_append, hlen]; exact h2, h3, h5⟩
/-- 'append(s, x)' whose run is known -/
theorem wpList_append_known {P : Program} {w : World} {ops : Array Oper} {rest : List Oper} {o : Oper} {a : Act} {Q : Exit → Act → World → Prop}
    (hg : o.guard = none) (s x : Operand) (t : TypeId) (hop : o.op = Op.call { callee := Callee.builtin Builtin.append, args := #[s, x], argTypes := #[t, t] })
    (v u v' : Value) (w' : World) (hs : a.eval s = v) (hx : a.eval x = u) (hrun : (Builtin.append_ #[t, t] o.type #[v, u]).run P w = .ok v' w')
    (hK : wpList P ops Q rest (a.put o.dst v') w') : wpList P ops Q (o :: rest) a w := by
  refine wpList_plain hg fun K hK' => ?_
  unfold Oper.wp
  simp [execOp, hop, resolve, invoke, builtin, hs, hx, hrun, Result.andThen]
  exact hK' _ _ hK
end Go.Proofs.Ytamdonlncfmmmaa
