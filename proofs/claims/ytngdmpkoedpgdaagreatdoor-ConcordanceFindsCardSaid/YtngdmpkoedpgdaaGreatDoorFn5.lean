/-
  A word is found by its writings: the plain part.
-/
import Derived.Test.YtngdmpkoedpgdaaGreatDoorFd
import Derived.Lib.Fold
import Derived.Lib.Case
namespace Go.Ap
open Go Go.RowKit
theorem u8_all {p : UInt8 → Prop} (h : ∀ i : Fin 256, p (UInt8.ofNat i.val)) (c : UInt8) : p c := by
  have := h ⟨c.toNat, c.toNat_lt⟩
  simpa using this
theorem lowC_fold (x y : UInt8) : Lib.foldEq x y = decide (lowC x = lowC y) := by
  unfold Lib.foldEq
  rw [decide_eq_decide]
  have hx := x.toNat_lt
  have hy := y.toNat_lt
  have e : ∀ c : UInt8, (lowC c).toNat = if 65 ≤ c.toNat ∧ c.toNat ≤ 90 then c.toNat + 32 else c.toNat := fun c => by
    unfold lowC
    split
    · rename_i h
      rw [UInt8.toNat_add]
      have : (32 : UInt8).toNat = 32 := rfl
      omega
    · rfl
  rw [← UInt8.toNat_inj, e, e]
  split <;> split <;> omega
theorem fold_eq : ∀ x y : Str, Lib.equalFold x y = decide (foldS x = foldS y)
  | [], [] => by simp [Lib.equalFold, foldS]
  | [], _ :: _ => by simp [Lib.equalFold, foldS]
  | _ :: _, [] => by simp [Lib.equalFold, foldS]
  | x :: s, y :: t => by
    have ih := fold_eq s t
    unfold Lib.equalFold
    rw [lowC_fold, ih]
    unfold foldS
    rw [List.map_cons, List.map_cons, ← Bool.decide_and, decide_eq_decide, List.cons.injEq]
theorem lowC_up (c : UInt8) : lowC (Lib.upperB c) = lowC c := u8_all (p := fun c => lowC (Lib.upperB c) = lowC c) (by decide +kernel) c
theorem mk_up (c : UInt8) : mkB (Lib.upperB c) = mkB c := u8_all (p := fun c => mkB (Lib.upperB c) = mkB c) (by decide +kernel) c
theorem wk_ascii (c : UInt8) (h : wk c ≠ 0) : c.toNat < 128 := u8_all (p := fun c => wk c ≠ 0 → c.toNat < 128) (by decide +kernel) c h
theorem form_up (s : Str) : formS (Lib.toUpperA s) = formS s := by
  unfold formS plainM foldS Lib.toUpperA
  rw [List.filter_map, List.map_map]
  have e1 : ((fun c => !mkB c) ∘ Lib.upperB) = fun c => !mkB c := funext fun c => by simp [mk_up]
  have e2 : (lowC ∘ Lib.upperB) = lowC := funext lowC_up
  rw [e1, e2]
theorem marks_ascii : ∀ (s : Str) (a : Bool), marksB a s = true → ∀ c ∈ s, c.toNat < 128
  | [], _, _, _, hc => by cases hc
  | x :: s, a, h, c, hc => by
    unfold marksB at h
    simp only [Bool.and_eq_true, decide_eq_true_eq] at h
    rcases List.mem_cons.1 hc with rfl | hc
    · exact wk_ascii c h.1.1
    · exact marks_ascii s _ h.2 c hc
theorem word_ascii {s : Str} (h : isWordB s = true) : ∀ c ∈ s, c.toNat < 128 := by
  unfold isWordB at h
  simp only [Bool.and_eq_true] at h
  exact marks_ascii s false h.1.1.2
def asciiS (s : Str) : Bool := s.all fun c => decide (c.toNat < 128)
theorem asciiS_iff {s : Str} : asciiS s = true ↔ ∀ c ∈ s, c.toNat < 128 := by
  unfold asciiS
  rw [List.all_eq_true]
  exact ⟨fun h c hc => by simpa using h c hc, fun h c hc => by simpa using h c hc⟩
theorem ascii_plain {s : Str} (h : ∀ c ∈ s, c.toNat < 128) : ∀ c ∈ plainM mkB s, c.toNat < 128 := fun c hc => h c (List.mem_filter.1 hc).1
theorem fold_form (x y : Str) : Lib.equalFold (plainM mkB x) (plainM mkB y) = decide (formS x = formS y) := fold_eq _ _
theorem find_up (l : List Post) (s : Str) : findS l (Lib.toUpperA s) = findS l s := by unfold findS; rw [form_up]
/-- some byte is no ASCII -/
theorem not_ascii {s : Str} : asciiS s = false ↔ (s.any fun c => decide (127 < c.toNat)) = true := by
  unfold asciiS
  rw [List.all_eq_false, List.any_eq_true]
  refine ⟨fun ⟨c, hc, h⟩ => ⟨c, hc, ?_⟩, fun ⟨c, hc, h⟩ => ⟨c, hc, ?_⟩⟩
  · simp only [decide_eq_true_eq] at h ⊢; omega
  · simp only [decide_eq_true_eq] at h ⊢; omega
end Go.Ap
