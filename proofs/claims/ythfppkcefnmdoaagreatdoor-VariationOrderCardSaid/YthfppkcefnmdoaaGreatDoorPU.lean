/-
  The places of a collation and the joined places are right: plain laws.
-/
import Derived.Test.YthfppkcefnmdoaaGreatDoorPl
namespace Go.Ap
theorem okUs_mk {n : Nat} {g : Plc → Bool} : ∀ {l : List Plc} {b : Int}, (∀ u ∈ l, b < u.lo) → l.Pairwise (fun u v => u.hi < v.lo) → (∀ u ∈ l, 0 ≤ u.lo ∧ u.lo < u.hi ∧ u.hi ≤ n ∧ g u = true) → okUs n g b l = true
  | [], _, _, _, _ => rfl
  | u :: r, b, hb, ha, hr => by
    obtain ⟨h1, h2⟩ := List.pairwise_cons.1 ha
    obtain ⟨g1, g2, g3, g4⟩ := hr u List.mem_cons_self
    rw [okUs, okUs_mk h1 h2 fun v hv => hr v (List.mem_cons_of_mem _ hv), g4]
    have := hb u List.mem_cons_self
    simp [this, g1, g2, g3]
theorem right_units (x : Coll) : rightB x (unitsL x) = true := by
  unfold rightB
  rw [Bool.and_eq_true]
  constructor
  · refine okUs_mk ?_ ?_ ?_
    · intro u hu
      obtain ⟨r, _, rfl⟩ := List.mem_map.1 hu
      simp only; omega
    · unfold unitsL
      rw [List.pairwise_map]
      refine (runsF_asc (comB x) x.columns.length x.columns.length 0 (by omega)).imp fun h => ?_
      simp only; omega
    · intro u hu
      obtain ⟨⟨a, b⟩, hr, rfl⟩ := List.mem_map.1 hu
      obtain ⟨_, h1, h2, _⟩ := runsF_mem (comB x) x.columns.length x.columns.length 0 (by omega) a b hr
      refine ⟨by simp only; omega, by simp only; omega, by simp only; omega, ?_⟩
      simp [hasR]
  · unfold covP
    rw [List.all_eq_true]
    rintro ⟨a, b⟩ hr
    rw [List.any_eq_true]
    exact ⟨_, List.mem_map.2 ⟨_, hr, rfl⟩, by simp⟩
/-- a column lies in a place exactly if it is not common -/
theorem inU_units {x : Coll} {k : Nat} (hk : k < x.columns.length) : inU (unitsL x) k = !comB x k := by
  unfold inU
  cases hc : comB x k
  · obtain ⟨a, b, hr, h1, h2⟩ := runsF_all (comB x) x.columns.length x.columns.length 0 (by omega) k (by omega) hk hc
    rw [Bool.not_false, List.any_eq_true]
    exact ⟨_, List.mem_map.2 ⟨_, hr, rfl⟩, by simp [h1, h2]⟩
  · rw [Bool.not_true, List.any_eq_false]
    intro u hu
    obtain ⟨⟨a, b⟩, hr, rfl⟩ := List.mem_map.1 hu
    obtain ⟨_, _, _, h3, _⟩ := runsF_mem (comB x) x.columns.length x.columns.length 0 (by omega) a b hr
    simp only [Bool.and_eq_true, decide_eq_true_eq, not_and]
    intro h1 h2
    have := h3 k (by omega) (by omega)
    rw [hc] at this
    cases this
/-- the places that joining makes -/
def plcJ (x : Coll) (q : Int × Int) : Plc := ⟨q.1, q.2, rdsL x q.1.toNat q.2.toNat⟩
def joinL (d : Int) (x : Coll) (l : List Plc) : List Plc := (joinF d [] l).map (plcJ x)
theorem join_at {d : Int} {x : Coll} {l : List Plc} (h : rightB x l = true) : JoinAt d x.columns.length l (joinF d [] l) := by
  unfold rightB at h
  rw [Bool.and_eq_true] at h
  have hlo := okUs_lo h.1
  have hasc := okUs_asc h.1
  have := joinF_at (d := d) (n := x.columns.length) l [] [] (.start _ _) (fun u hu => by obtain ⟨_, h1, h2, h3, _⟩ := hlo u hu; exact ⟨h1, h2, h3⟩) (by simpa using hasc)
  simpa using this
theorem right_join {d : Int} {x : Coll} {l : List Plc} (h : rightB x l = true) : rightB x (joinL d x l) = true := by
  have hj := join_at (d := d) h
  unfold rightB at h ⊢
  rw [Bool.and_eq_true] at h ⊢
  constructor
  · refine okUs_mk ?_ ?_ ?_
    · intro u hu
      obtain ⟨q, hq, rfl⟩ := List.mem_map.1 hu
      have := hj.rng q hq
      simp only [plcJ]; omega
    · unfold joinL
      rw [List.pairwise_map]
      exact hj.asc.imp fun h => h.2
    · intro u hu
      obtain ⟨q, hq, rfl⟩ := List.mem_map.1 hu
      obtain ⟨h1, h2, h3⟩ := hj.rng q hq
      refine ⟨h1, h2, h3, ?_⟩
      simp [hasR, plcJ]
  · unfold covP
    rw [List.all_eq_true]
    rintro ⟨a, b⟩ hr
    have h2 := h.2
    unfold covP at h2
    rw [List.all_eq_true] at h2
    have h3 := h2 _ hr
    rw [List.any_eq_true] at h3 ⊢
    obtain ⟨u, hu, h4⟩ := h3
    simp only [Bool.and_eq_true, decide_eq_true_eq] at h4
    obtain ⟨q, hq, h5, h6⟩ := hj.cov u hu
    refine ⟨_, List.mem_map.2 ⟨q, hq, rfl⟩, ?_⟩
    rw [Bool.and_eq_true]
    exact ⟨decide_eq_true (Int.le_trans h5 h4.1), decide_eq_true (Int.le_trans h4.2 h6)⟩
theorem joinL_len (d : Int) (x : Coll) (l : List Plc) : (joinL d x l).length ≤ l.length := by
  unfold joinL
  rw [List.length_map]
  simpa using joinF_len d l []
theorem joinL_mono {d d' : Int} (hd : d ≤ d') (x : Coll) (l : List Plc) : (joinL d' x l).length ≤ (joinL d x l).length := by
  unfold joinL
  rw [List.length_map, List.length_map]
  exact joinF_mono hd l [] [] (Nat.le_refl _) rfl
/-- joining with the distance 0 changes nothing -/
theorem joinL_zero {x : Coll} {l : List Plc} (h : rightB x l = true) : joinL 0 x l = l := by
  unfold rightB at h
  rw [Bool.and_eq_true] at h
  have hlo := okUs_lo h.1
  unfold joinL
  rw [joinF_zero l [] (-1) (fun q hq => by simp at hq) (fun u hu => (hlo u hu).1) (okUs_asc h.1), List.nil_append]
  unfold endsL
  rw [List.map_map]
  refine (List.map_congr_left fun u hu => ?_).trans (List.map_id _)
  have := (hlo u hu).2.2.2.2
  unfold hasR at this
  have h2 := of_decide_eq_true this
  obtain ⟨a, b, c⟩ := u
  simp only at h2
  simp only [Function.comp_apply, plcJ, id_eq]
  rw [h2]
/-- the columns that lie in the places so far -/
def inA (m : Nat) (us : List Plc) (lo q : Nat) : List Bool := (List.range m).map fun j => inU us j || (decide (lo ≤ j) && decide (j < q))
theorem inA_off (t j : Nat) : (decide (t ≤ j) && decide (j < t)) = false := by
  by_cases h : t ≤ j
  · have : ¬ j < t := by omega
    simp [this]
  · simp [h]
theorem inA_len (m : Nat) (us : List Plc) (lo q : Nat) : (inA m us lo q).length = m := by simp [inA]
theorem inA_zero (m lo : Nat) : inA m [] lo lo = List.replicate m false := by
  apply List.ext_getElem?
  intro i
  by_cases h : i < m
  · simp only [inA, List.getElem?_map, List.getElem?_range h, Option.map_some, List.getElem?_replicate, if_pos h, inU, List.any_nil, Bool.false_or]
    rw [inA_off]
  · simp [inA, h]
theorem inA_set {m : Nat} {us : List Plc} {lo q : Nat} (h : lo ≤ q) : (inA m us lo q).set q true = inA m us lo (q + 1) := by
  apply List.ext_getElem?
  intro i
  by_cases hi : i < m
  · by_cases he : q = i
    · subst he
      rw [List.getElem?_set_self (by rw [inA_len]; exact hi)]
      simp [inA, hi, h]
    · rw [List.getElem?_set_ne he]
      simp only [inA, List.getElem?_map, List.getElem?_range hi, Option.map_some]
      have : decide (i < q) = decide (i < q + 1) := by rw [decide_eq_decide]; omega
      rw [this]
  · rw [List.getElem?_eq_none (by rw [List.length_set, inA_len]; omega), List.getElem?_eq_none (by rw [inA_len]; omega)]
theorem inA_next {m : Nat} {us : List Plc} {k lo hi : Nat} {u : Plc} (hu : us[k]? = some u) (h1 : u.lo = lo) (h2 : u.hi = hi) (t : Nat) : inA m (us.take k) lo hi = inA m (us.take (k + 1)) t t := by
  apply List.map_congr_left
  intro j _
  rw [inA_off, Bool.or_false, show inU (us.take (k + 1)) j = (inU (us.take k) j || (decide (lo ≤ j) && decide (j < hi))) from ?_]
  unfold inU
  rw [List.take_add_one, hu]
  simp [List.any_append, h1, h2]
theorem inA_at {m : Nat} {us : List Plc} {j t : Nat} (h : j < m) : (inA m us t t)[j]? = some (inU us j) := by
  simp only [inA, List.getElem?_map, List.getElem?_range h, Option.map_some]
  rw [inA_off, Bool.or_false]
end Go.Ap
namespace Go.Ap
/-- a place without readings -/
def bareJ (q : Int × Int) : Plc := ⟨q.1, q.2, []⟩
theorem joinF_take {d : Int} {us : List Plc} {k : Nat} {u : Plc} (h : us[k]? = some u) : joinF d [] (us.take (k + 1)) = jstep d (joinF d [] (us.take k)) u.lo u.hi := by
  unfold joinF
  rw [List.take_add_one, h, List.foldl_append]
  rfl
theorem jstep_none {d lo hi : Int} {out : List (Int × Int)} (h : out = []) : jstep d out lo hi = out ++ [(lo, hi)] := by subst h; rfl
theorem last_at2 {α : Type} {l : List α} {m : Nat} (h : l.length = m + 1) : ∃ q, l[m]? = some q ∧ l.getLast? = some q := by
  obtain ⟨q, hq⟩ : ∃ q, l[m]? = some q := ⟨_, List.getElem?_eq_getElem (by omega)⟩
  exact ⟨q, hq, by rw [List.getLast?_eq_getElem?, show l.length - 1 = m by omega, hq]⟩
theorem set_last {α : Type} {l : List α} {m : Nat} (h : l.length = m + 1) (y : α) : l.set m y = l.dropLast ++ [y] := by
  rcases List.eq_nil_or_concat l with rfl | ⟨o, q, rfl⟩
  · simp at h
  · rw [List.concat_eq_append, List.length_append, List.length_singleton] at h
    obtain rfl : m = o.length := by omega
    rw [List.concat_eq_append, List.dropLast_concat]
    simp
/-- each end of a joined place is an end of a place -/
theorem joinF_ends {d : Int} (P : Int → Prop) : ∀ (l : List Plc) (out : List (Int × Int)), (∀ u ∈ l, P u.lo ∧ P u.hi) → (∀ q ∈ out, P q.1 ∧ P q.2) → ∀ q ∈ joinF d out l, P q.1 ∧ P q.2
  | [], _, _, h, q, hq => h q hq
  | u :: r, out, h1, h2, q, hq => by
    unfold joinF at hq
    rw [List.foldl_cons] at hq
    refine joinF_ends P r (jstep d out u.lo u.hi) (fun v hv => h1 v (List.mem_cons_of_mem _ hv)) (fun p hp => ?_) q hq
    have hu := h1 u List.mem_cons_self
    unfold jstep at hp
    split at hp
    · rcases List.mem_append.1 hp with hp | hp
      · exact h2 p hp
      · rw [List.mem_singleton] at hp; subst hp; exact hu
    · rename_i q' hq'
      have hm := List.mem_of_getLast? hq'
      split at hp
      · rcases List.mem_append.1 hp with hp | hp
        · exact h2 p hp
        · rw [List.mem_singleton] at hp; subst hp; exact hu
      · rcases List.mem_append.1 hp with hp | hp
        · exact h2 p (List.dropLast_subset _ hp)
        · rw [List.mem_singleton] at hp; subst hp; exact ⟨(h2 _ hm).1, hu.2⟩
/-- why a list of places is not right -/
def chkU (x : Coll) (us : List Plc) : Int := if collC x ≠ 0 then 1 else if rightB x us = true then 0 else 20
theorem chkU_zero {x : Coll} {us : List Plc} (h : chkU x us = 0) : collC x = 0 ∧ rightB x us = true := by
  unfold chkU at h
  by_cases h1 : collC x = 0
  · rw [if_neg (by rw [h1]; simp)] at h
    by_cases h2 : rightB x us = true
    · exact ⟨h1, h2⟩
    · rw [if_neg h2] at h; cases h
  · rw [if_pos h1] at h; cases h
/-- the joined places, and the error -/
def joinE (x : Coll) (us : List Plc) (d : Int) : List Plc × Int := if chkU x us ≠ 0 then ([], chkU x us) else if d < 0 ∨ 1024 < d then ([], 2) else (joinL d x us, 0)
theorem joinE_bad {x : Coll} {us : List Plc} {d : Int} (h : chkU x us ≠ 0) : joinE x us d = ([], chkU x us) := if_pos h
theorem joinE_out {x : Coll} {us : List Plc} {d : Int} (h : chkU x us = 0) (h2 : d < 0 ∨ 1024 < d) : joinE x us d = ([], 2) := by rw [joinE, if_neg (by rw [h]; simp), if_pos h2]
theorem joinE_in {x : Coll} {us : List Plc} {d : Int} (h : chkU x us = 0) (h2 : ¬ (d < 0 ∨ 1024 < d)) : joinE x us d = (joinL d x us, 0) := by rw [joinE, if_neg (by rw [h]; simp), if_neg h2]
end Go.Ap
