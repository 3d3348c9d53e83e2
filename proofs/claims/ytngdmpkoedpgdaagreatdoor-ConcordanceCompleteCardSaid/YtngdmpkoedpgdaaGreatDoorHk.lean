/-
  The key of the index: a word and its section.
-/
import Derived.Test.YtngdmpkoedpgdaaGreatDoorMv
import Derived.Test.YtngdmpkoedpgdaaGreatDoorNa
namespace Go.Proofs.YtngdmpkoedpgdaaGreatDoor
open Go.RowKit Go.Ap Go.Shelf Go.Proofs Go.Maps

theorem keyedHd : Keyed Tryz.prog 92 := Keyed.of_law (deep_law_laid (by kernel_rfl) (m := 2) (by omega) (of_decide_eq_true (by kernel_rfl)) (by kernel_rfl) (by kernel_rfl))
theorem sizeHd : ∃ m, Tryz.prog.types.size = m + 1 := ⟨Tryz.prog.types.size - 1, by
  have : decide (0 < Tryz.prog.types.size) = true := by kernel_rfl
  have := of_decide_eq_true this
  omega⟩
def kvHd (p : Str × Str) : Value := .agg #[.string (bs p.1), .string (bs p.2)]
theorem keyHd {p : Str × Str} (h1 : p.1.length ≤ maxLen) (h2 : p.2.length ≤ maxLen) : ∃ x, keyOf Tryz.prog 92 (kvHd p) = some (.string x) := by
  obtain ⟨m, hm⟩ := sizeHd
  have hkt : Tryz.prog.keyType 92 = true := by kernel_rfl
  have hcs : Tryz.prog.cellsOf 92 = 2 := by kernel_rfl
  have hc9 : Tryz.prog.cellsOf 9 = 1 := by kernel_rfl
  have hb1 : (bs p.1).size ≤ maxLen := by rw [bs_size]; exact h1
  have hb2 : (bs p.2).size ≤ maxLen := by rw [bs_size]; exact h2
  refine ⟨keyBytes [.string (bs p.1).data.toList, .string (bs p.2).data.toList], ?_⟩
  unfold keyOf kvHd
  simp only [Tryz.underlying92]
  rw [if_pos (by simp [hkt, Value.formed, Tryz.underlying92, hcs]), hm]
  unfold Program.keyLits
  simp only [Tryz.underlying92, Value.cells]
  rw [if_pos (by simp [hcs])]
  simp [hc9, Program.keyLits, Tryz.underlying9, hb1, hb2]
theorem strLits {m : Nat} {c : Value} {ls : List Lit} (h : Tryz.prog.keyLits (m + 1) 9 [c] = some ls) : ∃ s : ByteArray, c = .string s ∧ s.size ≤ maxLen := by
  unfold Program.keyLits at h
  simp only [Tryz.underlying9] at h
  cases c with
  | string s =>
    simp only [] at h
    split at h
    · rename_i hs
      exact ⟨s, rfl, hs⟩
    · cases h
  | _ => cases h
set_option maxRecDepth 100000 in
theorem keyInvHd {v : Value} {l : Lit} (h : keyOf Tryz.prog 92 v = some l) : ∃ p : Str × Str, (p.1.length ≤ maxLen ∧ p.2.length ≤ maxLen) ∧ v = kvHd p := by
  obtain ⟨m, hm⟩ := sizeHd
  have hcs : Tryz.prog.cellsOf 92 = 2 := by kernel_rfl
  have hc9 : Tryz.prog.cellsOf 9 = 1 := by kernel_rfl
  unfold keyOf at h
  simp only [Tryz.underlying92] at h
  split at h
  · rename_i hf
    rw [Bool.and_eq_true] at hf
    obtain ⟨_, hf⟩ := hf
    cases v with
    | agg cs =>
      obtain ⟨cl⟩ := cs
      simp [Value.formed, Tryz.underlying92, hcs] at hf
      match cl, hf with
      | [c0, c1], _ =>
        rw [hm] at h
        unfold Program.keyLits at h
        simp [Tryz.underlying92, hc9, hcs, Value.cells] at h
        rw [Option.bind_eq_some_iff] at h
        obtain ⟨l0, h0, h⟩ := h
        simp only [Function.comp] at h
        cases h1 : Tryz.prog.keyLits (m + 1) 9 [c1] with
        | none => rw [h1] at h; simp at h
        | some l1 =>
          obtain ⟨s0, rfl, g0⟩ := strLits h0
          obtain ⟨s1, rfl, g1⟩ := strLits h1
          refine ⟨(s0.data.toList, s1.data.toList), ⟨by simpa using g0, by simpa using g1⟩, ?_⟩
          unfold kvHd
          simp [bs]
    | _ => simp [Value.formed, Tryz.underlying92] at hf
  · cases h
theorem bs_inj {a b : Str} (h : bs a = bs b) : a = b := by
  have := congrArg (fun x : ByteArray => x.data.toList) h
  simpa [bs] using this
/-- the index of an index's making: heads to slices of lines -/
def tHd : MapV Tryz.prog 90 92 26 (Str × Str) where
  kv := kvHd
  fit p := p.1.length ≤ maxLen ∧ p.2.length ≤ maxLen
  keyed := keyedHd
  und := Tryz.underlying90
  key h := keyHd h.1 h.2
  keyI h := keyInvHd h
  kinj {s s'} h := by
    unfold kvHd at h
    simp only [Value.agg.injEq, Array.mk.injEq, List.cons.injEq, Value.string.injEq, and_true] at h
    exact Prod.ext (bs_inj h.1) (bs_inj h.2)
  zero := .slice none 0 0
  zeroV w := Tryz.zeroValue26 w
end Go.Proofs.YtngdmpkoedpgdaaGreatDoor
