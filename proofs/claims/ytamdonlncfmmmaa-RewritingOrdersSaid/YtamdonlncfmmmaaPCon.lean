/-
  Critical words are short.
-/
import Derived.Test.YtamdonlncfmmmaaOwnT
namespace Go.Ap
open Go Go.RowKit

theorem short_bad : ∀ {rs : List Rule}, badR rs = 0 → ∀ r ∈ rs, r.1.length ≤ 64 ∧ r.2.length ≤ 64
  | [], _ => fun r hr => by cases hr
  | x :: rs, h => by
    rw [badR] at h
    split at h
    · rename_i hx
      intro r hr
      rcases List.mem_cons.1 hr with rfl | hr
      · unfold rightB at hx
        split at hx
        · cases hx
        · split at hx
          · cases hx
          · rename_i h1
            rw [not_or] at h1
            omega
      · exact short_bad h r hr
    · rename_i hx; exact absurd h hx
theorem short_chk {rs : List Rule} (h : chkR rs = 0) : ∀ r ∈ rs, r.1.length ≤ 64 ∧ r.2.length ≤ 64 := by
  unfold chkR at h
  split at h
  · cases h
  · exact short_bad h
theorem nthR_mem {rs : List Rule} {i : Nat} (h : i < rs.length) : nthR rs i ∈ rs := by
  rw [nthR_of (List.getElem?_eq_getElem h)]; exact List.getElem_mem h
theorem crit_mem {rs : List Rule} {z : Trip} (h : z ∈ critL rs) : ∃ x y b, x ∈ rs ∧ y ∈ rs ∧ z ∈ pairL x y b := by
  obtain ⟨i, hi, hz⟩ := List.mem_flatMap.1 (show z ∈ (List.range rs.length).flatMap fun i => rowL rs i rs.length from h)
  obtain ⟨j, hj, hz⟩ := List.mem_flatMap.1 (show z ∈ (List.range rs.length).flatMap fun j => pairL (nthR rs i) (nthR rs j) (decide (i = j)) from hz)
  exact ⟨_, _, _, nthR_mem (List.mem_range.1 hi), nthR_mem (List.mem_range.1 hj), hz⟩
theorem crit_short {rs : List Rule} (h : ∀ r ∈ rs, r.1.length ≤ 64 ∧ r.2.length ≤ 64) {z : Trip} (hz : z ∈ critL rs) : z.1.length ≤ 128 := by
  obtain ⟨x, y, b, hx, hy, hz⟩ := crit_mem hz
  have h1 := (h x hx).1
  have h2 := (h y hy).1
  unfold pairL at hz
  rcases List.mem_append.1 hz with hz | hz
  · obtain ⟨t, _, ht⟩ := List.mem_filterMap.1 (show z ∈ (List.range (min x.1.length y.1.length - 1)).filterMap (fun t => ovl x y (t + 1)) from hz)
    unfold ovl at ht
    split at ht
    · injection ht with ht
      subst ht
      simp only [List.length_append, List.length_take]
      omega
    · cases ht
  · unfold incs at hz
    split at hz
    · cases hz
    · obtain ⟨t, _, ht⟩ := List.mem_filterMap.1 hz
      unfold inc at ht
      split at ht
      · injection ht with ht
        subst ht
        simp only
        omega
      · cases ht
/-- one element of a slice of slices that a call owns -/
theorem OwnSS.at {w : World} {base : Nat} {v : Value} {xss : List (List Str)} {k : Nat} {xs : List Str} (h : OwnSS w base v xss) (hk : xss[k]? = some xs) :
    ∃ b c u, v = .slice (some ⟨b, 0, none⟩) xss.length c ∧ w.cell? ⟨b, k, none⟩ = some u ∧ OwnS w base u xs := by
  obtain ⟨vs, h1, h2⟩ := h
  obtain ⟨u, hu, ho⟩ := h2 k xs hk
  have hkl := (List.getElem?_eq_some_iff.1 hk).1
  rcases h1.2 with ⟨rfl, h0⟩ | ⟨g, cap, cur, rfl, hbb, hgg, hnc, hcm, hcs, htk⟩
  · omega
  · refine ⟨g, cap, u, rfl, ?_, ho⟩
    have h3 : cur.toList[k]? = some u := by
      have := hu
      rw [← htk, List.getElem?_take] at this
      rwa [if_pos (by omega)] at this
    simp [World.cell?, hgg]
    rw [← Array.getElem?_toList]
    exact h3
end Go.Ap
