/-
  What the laws of the chapter ask, in plain words.
-/
import Derived.Test.YtamdonlncfmmmaaW25
import Derived.Test.YtamdonlncfmmmaaPLoc
import Derived.Test.YtamdonlncfmmmaaW24
namespace Go.Proofs.Ytamdonlncfmmmaa
open Go.RowKit Go.Ap Go.Shelf Go.Proofs

theorem fine_ok {rs : List Rule} {l : List Str} (h : fineB rs l = true) : chkR rs = 0 ∧ (∀ s ∈ l, s.length ≤ 10 ∧ chkW rs s = 0) ∧ greatB rs = false := by
  unfold fineB at h
  simp only [Bool.and_eq_true, Bool.not_eq_true', Bool.or_eq_false_iff, bne_eq_false_iff_eq, decide_eq_false_iff_not, List.any_eq_false, offB, Bool.not_eq_true] at h
  obtain ⟨⟨⟨h1, h2⟩, _⟩, h4⟩ := h
  exact ⟨h2, fun s hs => ⟨by have := (h4 s hs).1; omega, (h4 s hs).2⟩, h1⟩
/-- short rules -/
theorem great_short {rs : List Rule} (h : greatB rs = false) (hc : chkR rs = 0) : ∀ r ∈ rs, r.1.length ≤ 5 ∧ r.2.length ≤ 5 := by
  intro r hr
  unfold greatB at h
  simp only [Bool.or_eq_false_iff, List.any_eq_false] at h
  have h1 := h.2 r hr
  obtain ⟨_, _, l1, l2, _⟩ := right_ok (chk_all hc r hr)
  unfold greatR at h1
  simp only [Bool.or_eq_true, not_or, longB, Bool.and_eq_true, decide_eq_true_eq] at h1
  omega
theorem noE_ok {rs : List Rule} {s : Str} (h : chkW rs s = 0) : NoE rs s = (!(stepL rs s).2, 0) := by rw [NoE, if_pos h]
theorem chkW_nil {rs : List Rule} {s : Str} (h : chkW rs s = 0) : chkW [] s = 0 := by
  obtain ⟨_, h2, h3⟩ := chkW_ok h
  exact chkW_of (by decide) h2 h3
theorem step_normal {rs : List Rule} {s : Str} : (!(stepL rs s).2) = true ↔ resL rs s = [] := by
  constructor
  · intro h
    exact (stepL_nf (by simpa using h)).1
  · intro h
    rw [stepL_of h]; rfl
theorem parts_law {rs : List Rule} {u v : Str} (h : fineB rs [u, v] = true) :
    ∃ a b c, NoE rs u = (a, 0) ∧ NoE rs v = (b, 0) ∧ NoE rs (u ++ v) = (c, 0) ∧ NoE [] (u ++ v) = (true, 0) ∧ (!c || a && b) = true := by
  obtain ⟨h1, h2, _⟩ := fine_ok h
  obtain ⟨lu, cu⟩ := h2 u (by simp)
  obtain ⟨lv, cv⟩ := h2 v (by simp)
  have cuv : chkW rs (u ++ v) = 0 := chkW_of h1 (by rw [List.length_append]; omega) (by rw [word_append, (chkW_ok cu).2.2, (chkW_ok cv).2.2]; rfl)
  refine ⟨_, _, _, noE_ok cu, noE_ok cv, noE_ok cuv, ?_, ?_⟩
  · rw [noE_ok (chkW_nil cuv), step_normal.2]
    unfold resL resAt
    simp
  · cases hc : !(stepL rs (u ++ v)).2
    · rfl
    · have hn := step_normal.1 hc
      have hu : resL rs u = [] := List.eq_nil_iff_forall_not_mem.2 fun y hy => by
        have := res_ctx (ne_chk h1) [] v hy
        simp only [List.nil_append] at this
        rw [hn] at this; cases this
      have hv : resL rs v = [] := List.eq_nil_iff_forall_not_mem.2 fun y hy => by
        have := res_ctx (ne_chk h1) u [] hy
        simp only [List.append_nil] at this
        rw [hn] at this; cases this
      rw [step_normal.2 hu, step_normal.2 hv]; rfl
end Go.Proofs.Ytamdonlncfmmmaa
