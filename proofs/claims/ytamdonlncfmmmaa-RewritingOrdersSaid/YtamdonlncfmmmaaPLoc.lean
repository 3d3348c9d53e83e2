/-
  Steps that part come together again where critical words' results do. Plain words.
-/
import Derived.Test.YtamdonlncfmmmaaPRed
import Derived.Test.YtamdonlncfmmmaaPCrit
namespace Go.Ap

section
variable {rs : List Rule} {r1 r2 : Rule} {i j : Nat}
theorem crit_in {z : Trip} (h1 : rs[i]? = some r1) (h2 : rs[j]? = some r2) (hz : z ∈ pairL r1 r2 (decide (i = j))) : z ∈ critL rs := by
  have := head_pre h1 h2 (List.prefix_refl _)
  exact this.subset (List.mem_append_right _ hz)
theorem ovl_in {c m n : Str} (h1 : r1.1 = c ++ m) (h2 : r2.1 = m ++ n) (hc : c ≠ []) (hm : m ≠ []) (hn : n ≠ []) (same : Bool) : (c ++ r2.1, r1.2 ++ n, c ++ r2.2) ∈ pairL r1 r2 same := by
  have lc := List.length_pos_iff.2 hc
  have lm := List.length_pos_iff.2 hm
  have ln := List.length_pos_iff.2 hn
  have e1 : r1.1.length = c.length + m.length := by rw [h1, List.length_append]
  have e2 : r2.1.length = m.length + n.length := by rw [h2, List.length_append]
  refine List.mem_append_left _ (List.mem_filterMap.2 ⟨m.length - 1, List.mem_range.2 (by omega), ?_⟩)
  rw [show m.length - 1 + 1 = m.length by omega, ovl, show r1.1.length - m.length = c.length by omega]
  have e3 : r1.1.drop c.length = m := by rw [h1, List.drop_left]
  have e4 : r1.1.take c.length = c := by rw [h1, List.take_left]
  have e5 : r2.1.drop m.length = n := by rw [h2, List.drop_left]
  rw [e3, e4, e5, if_pos (by rw [h2, List.isPrefixOf_iff_prefix]; exact List.prefix_append _ _)]
theorem inc_in {c e : Str} (h1 : r1.1 = c ++ (r2.1 ++ e)) (hn : r2.1 ≠ []) : (r1.1, r1.2, c ++ (r2.2 ++ e)) ∈ pairL r1 r2 false := by
  have l2 := List.length_pos_iff.2 hn
  have e1 : r1.1.length = c.length + (r2.1.length + e.length) := by rw [h1, List.length_append, List.length_append]
  refine List.mem_append_right _ ?_
  unfold incs
  rw [if_neg (by simp)]
  refine List.mem_filterMap.2 ⟨c.length, List.mem_range.2 (by omega), ?_⟩
  have e3 : r1.1.drop c.length = r2.1 ++ e := by rw [h1, List.drop_left]
  have e4 : r1.1.take c.length = c := by rw [h1, List.take_left]
  rw [inc, ← List.drop_drop, e3, e4, List.drop_left, if_pos (by rw [List.isPrefixOf_iff_prefix]; exact List.prefix_append _ _)]
/-- the results of critical words come together again -/
def Joins (rs : List Rule) : Prop := ∀ z ∈ critL rs, ∃ t, Red rs z.2.1 t ∧ Red rs z.2.2 t
theorem join_side (hn : Ne rs) (hj : Joins rs) {a b c d : Str} (h1 : rs[i]? = some r1) (h2 : rs[j]? = some r2) (he : a ++ (r1.1 ++ b) = a ++ (c ++ (r2.1 ++ d))) :
    ∃ t, Red rs (a ++ (r1.2 ++ b)) t ∧ Red rs (a ++ (c ++ (r2.2 ++ d))) t := by
  have m1 := List.mem_of_getElem? h1
  have m2 := List.mem_of_getElem? h2
  have he := List.append_cancel_left he
  rcases List.append_eq_append_iff.1 he with ⟨e, rfl, rfl⟩ | ⟨m, hm, hd⟩
  · refine ⟨a ++ (r1.2 ++ (e ++ (r2.2 ++ d))), .one ((mem_res' hn).2 ⟨a ++ (r1.2 ++ e), d, r2, m2, by simp, by simp⟩), .one ((mem_res' hn).2 ⟨a, e ++ (r2.2 ++ d), r1, m1, by simp, by simp⟩)⟩
  · by_cases hm0 : m = []
    · subst hm0
      rw [List.append_nil] at hm
      rw [List.nil_append] at hd
      subst hd
      rw [← hm]
      exact ⟨a ++ (r1.2 ++ (r2.2 ++ d)), .one ((mem_res' hn).2 ⟨a ++ r1.2, d, r2, m2, by simp, by simp⟩), .one ((mem_res' hn).2 ⟨a, r2.2 ++ d, r1, m1, by simp, by simp⟩)⟩
    · have hcase : (∃ e, m = r2.1 ++ e ∧ d = e ++ b) ∨ (∃ n, r2.1 = m ++ n ∧ b = n ++ d) := by
        rcases List.append_eq_append_iff.1 hd with ⟨e, h, k⟩ | ⟨n, h, k⟩
        · exact .inl ⟨e, h, k⟩
        · exact .inr ⟨n, h, k⟩
      rcases hcase with ⟨e, rfl, rfl⟩ | ⟨n, h2n, rfl⟩
      · by_cases hij : i = j
        · subst hij
          rw [h1] at h2
          injection h2 with h2
          subst h2
          have hl := congrArg List.length hm
          simp only [List.length_append] at hl
          obtain rfl : c = [] := List.eq_nil_of_length_eq_zero (by omega)
          obtain rfl : e = [] := List.eq_nil_of_length_eq_zero (by omega)
          exact ⟨_, .refl _, .refl _⟩
        · obtain ⟨t, t1, t2⟩ := hj _ (crit_in h1 h2 (by rw [decide_eq_false hij]; exact inc_in hm (hn r2 m2)))
          refine ⟨a ++ (t ++ b), t1.ctx hn a b, ?_⟩
          have := t2.ctx hn a b
          simpa using this
      · by_cases hn0 : n = []
        · subst hn0
          rw [List.append_nil] at h2n
          rw [List.nil_append]
          by_cases hij : i = j
          · subst hij
            rw [h1] at h2
            injection h2 with h2
            subst h2
            have hl := congrArg List.length hm
            rw [← h2n, List.length_append] at hl
            obtain rfl : c = [] := List.eq_nil_of_length_eq_zero (by omega)
            exact ⟨_, .refl _, .refl _⟩
          · obtain ⟨t, t1, t2⟩ := hj _ (crit_in h1 h2 (by rw [decide_eq_false hij]; exact inc_in (e := []) (by rw [hm, h2n, List.append_nil]) (hn r2 m2)))
            refine ⟨a ++ (t ++ d), t1.ctx hn a d, ?_⟩
            have := t2.ctx hn a d
            simpa using this
        · by_cases hc : c = []
          · subst hc
            rw [List.nil_append] at hm
            subst hm
            have hij : ¬ j = i := fun h => by
              subst h
              rw [h1] at h2
              injection h2 with h2
              subst h2
              have hl := congrArg List.length h2n
              rw [List.length_append] at hl
              exact hn0 (List.eq_nil_of_length_eq_zero (by omega))
            obtain ⟨t, t1, t2⟩ := hj _ (crit_in h2 h1 (by rw [decide_eq_false hij]; exact inc_in (c := []) (e := n) (by rw [h2n]; rfl) (hn r1 m1)))
            refine ⟨a ++ (t ++ d), ?_, by have := t1.ctx hn a d; simpa using this⟩
            have := t2.ctx hn a d
            simpa using this
          · obtain ⟨t, t1, t2⟩ := hj _ (crit_in h1 h2 (ovl_in hm h2n hc hm0 hn0 _))
            refine ⟨a ++ (t ++ d), ?_, ?_⟩
            · have := t1.ctx hn a d
              simpa using this
            · have := t2.ctx hn a d
              simpa using this
theorem loc_joins (hn : Ne rs) (hj : Joins rs) : LocC rs := by
  intro x y z hy hz
  obtain ⟨a, b, r1, m1, h1, rfl⟩ := (mem_res' hn).1 hy
  obtain ⟨c, d, r2, m2, h2, rfl⟩ := (mem_res' hn).1 hz
  obtain ⟨i, hi⟩ := List.getElem?_of_mem m1
  obtain ⟨j, hj'⟩ := List.getElem?_of_mem m2
  rw [h1] at h2
  rcases List.append_eq_append_iff.1 h2 with ⟨e, rfl, _⟩ | ⟨e, rfl, _⟩
  · rw [List.append_assoc] at h2
    obtain ⟨t, t1, t2⟩ := join_side hn hj hi hj' h2
    exact ⟨t, t1, by rw [List.append_assoc]; exact t2⟩
  · rw [List.append_assoc] at h2
    obtain ⟨t, t1, t2⟩ := join_side hn hj hj' hi h2.symm
    exact ⟨t, by rw [List.append_assoc]; exact t2, t1⟩
/-- both results of a critical word are results of one step -/
theorem pair_res (hn : Ne rs) (m1 : r1 ∈ rs) (m2 : r2 ∈ rs) {z : Trip} {same : Bool} (hz : z ∈ pairL r1 r2 same) : z.2.1 ∈ resL rs z.1 ∧ z.2.2 ∈ resL rs z.1 := by
  rcases List.mem_append.1 hz with hz | hz
  · obtain ⟨t, ht, h⟩ := List.mem_filterMap.1 hz
    rw [List.mem_range] at ht
    unfold ovl at h
    split at h
    · rename_i hp
      injection h with h
      subst h
      rw [List.isPrefixOf_iff_prefix] at hp
      obtain ⟨n, hn'⟩ := hp
      have hl : (r1.1.drop (r1.1.length - (t + 1))).length = t + 1 := by rw [List.length_drop]; omega
      have hd : r2.1.drop (t + 1) = n := by
        have := List.drop_left (l₁ := r1.1.drop (r1.1.length - (t + 1))) (l₂ := n)
        rwa [hl, hn'] at this
      have h1 := (List.take_append_drop (r1.1.length - (t + 1)) r1.1).symm
      refine ⟨(mem_res' hn).2 ⟨[], n, r1, m1, ?_, ?_⟩, (mem_res' hn).2 ⟨_, [], r2, m2, by rw [List.append_nil], by rw [List.append_nil]⟩⟩
      · show r1.1.take (r1.1.length - (t + 1)) ++ r2.1 = _
        rw [← hn', ← List.append_assoc, List.take_append_drop]; rfl
      · show r1.2 ++ r2.1.drop (t + 1) = _
        rw [hd]; rfl
    · cases h
  · unfold incs at hz
    split at hz
    · cases hz
    · obtain ⟨t, ht, h⟩ := List.mem_filterMap.1 hz
      unfold inc at h
      split at h
      · rename_i hp
        injection h with h
        subst h
        rw [List.isPrefixOf_iff_prefix] at hp
        obtain ⟨n, hn'⟩ := hp
        refine ⟨(mem_res' hn).2 ⟨[], [], r1, m1, by simp, by simp⟩, (mem_res' hn).2 ⟨r1.1.take t, n, r2, m2, ?_, ?_⟩⟩
        · show r1.1 = _
          rw [hn', List.take_append_drop]
        · show r1.1.take t ++ (r2.2 ++ r1.1.drop (t + r2.1.length)) = _
          rw [← List.drop_drop, ← hn', List.drop_left]
      · cases h
end
end Go.Ap
