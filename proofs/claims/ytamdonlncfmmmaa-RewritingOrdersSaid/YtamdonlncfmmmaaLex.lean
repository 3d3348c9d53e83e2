/-
  That a region may be walked in the order of its text, by a cheap look.
-/
import Derived.Test.YtamdonlncfmmmaaBase
namespace Go.Ap
open Go Go.RowKit

/-- each operation waits for none that stands behind it, and each two that may change places have nothing in common -/
def lexOk (md : Region.Mode) (ops : Array Oper) : Nat → List Oper → Bool
  | _, [] => true
  | k, o :: rest => (o.after.all fun e => !Region.binds md e || Nat.blt e.on k) && (rest.all fun oj => (oj.after.any fun e => Region.binds md e && e.on == k) || o.apart ops oj) && lexOk md ops (k + 1) rest

theorem lexFrom_of {md : Region.Mode} {ops : Array Oper} : ∀ (l : List Oper) (k : Nat) (listed : Array Bool), (∀ j, l[j]? = ops[k + j]?) → k + l.length = ops.size → listed.size = ops.size → (∀ j, j < ops.size → ∀ b, listed.getD j b = decide (j < k)) →
    lexOk md ops k l = true → Region.lexFrom md ops l.length k listed = true
  | [], k, listed, _, hk, _, hj, _ => by
    simp only [List.length_nil, Nat.add_zero] at hk
    simp only [List.length_nil, Region.lexFrom, Region.ready, List.isEmpty_iff, List.filter_eq_nil_iff, List.mem_range]
    intro i hi
    rw [hj i hi]
    simp
    intro h
    omega
  | o :: l, k, listed, hl, hk, hs, hj, h => by
    simp only [lexOk, Bool.and_eq_true] at h
    obtain ⟨⟨h1, h2⟩, h3⟩ := h
    have ho : ops[k]? = some o := by have := hl 0; simpa using this.symm
    have hks : k < ops.size := by simp only [List.length_cons] at hk; omega
    simp only [List.length_cons, Region.lexFrom, Bool.and_eq_true]
    refine ⟨⟨?_, ?_⟩, ?_⟩
    · simp only [Region.ready, List.contains_iff_mem, List.mem_filter, List.mem_range, Bool.and_eq_true]
      refine ⟨hks, by rw [hj k hks]; simp, ?_⟩
      rw [ho]
      simp only [Option.map_some, Option.getD_some]
      rw [Array.all_eq_true_iff_forall_mem] at h1 ⊢
      intro e he
      have := h1 e he
      simp only [Bool.or_eq_true] at this ⊢
      rcases this with hb | hb
      · exact .inl hb
      · have hlt : e.on < k := Nat.le_of_ble_eq_true hb
        right
        rw [hj e.on (by omega)]
        simpa using hlt
    · simp only [Region.free, ho, List.all_eq_true, List.mem_range]
      intro j hjs
      rw [hj j hjs]
      by_cases hlt : j < k
      · simp [hlt]
      · by_cases he : j = k
        · simp [he]
        · have hr : l[j - k - 1]? = ops[j]? := by
            have := hl (j - k)
            rw [show k + (j - k) = j by omega] at this
            rw [← this, show j - k = (j - k - 1) + 1 by omega]
            simp
          have hjo : ops[j]? = some ops[j] := Array.getElem?_eq_getElem hjs
          rw [hjo] at hr ⊢
          have := (List.all_eq_true.1 h2) _ (List.mem_of_getElem? hr)
          simp only [Bool.or_eq_true] at this ⊢
          exact .inr this
    · refine lexFrom_of l (k + 1) _ (fun j => ?_) (by simp only [List.length_cons] at hk; omega) (by simp [hs]) (fun j hjs b => ?_) h3
      · have := hl (j + 1)
        rw [List.getElem?_cons_succ] at this
        rw [this, show k + 1 + j = k + (j + 1) by omega]
      · have hg : ∀ (A : Array Bool), A.size = ops.size → A.getD j b = (A[j]?).getD b := fun A hA => by
          simp [Array.getD, hA, hjs]
        rw [hg _ (by simp [hs]), Array.getElem?_setIfInBounds]
        by_cases he : k = j
        · subst he
          simp [hs, hjs]
        · rw [if_neg he, ← hg _ hs, hj j hjs b]
          rw [decide_eq_decide]; omega
theorem lexB_of {md : Region.Mode} {l : List Oper} (hs : Region.noSelect l.toArray = true) (h : lexOk md l.toArray 0 l = true) : Region.lexB md l.toArray = true := by
  simp only [Region.lexB, Bool.and_eq_true]
  refine ⟨hs, ?_⟩
  have := lexFrom_of (md := md) (ops := l.toArray) l 0 (Array.replicate l.toArray.size false) (fun j => by simp) (by simp) (by simp) (fun j hj b => by simp [Array.getD]; intro hh; simp at hj; omega) h
  simpa using this
end Go.Ap
