/-
  Check of blocks, in plain words: what is still to come; the maps that the program keeps.
-/
import Derived.Test.YtbahddjbncinbaaGreatDoorPt
namespace Go.Ap
section
variable {na nb e c : Int} {all : List (Int × Int)} {ins tk : List Int} {x : Blk} {r : List Blk}
/-- the answer that is still to come -/
def chkG (na nb : Int) (all : List (Int × Int)) (ins tk : List Int) (e : Int) (r : List Blk) : Int :=
  if (blksE na nb all ins tk e r).1 = 0 then ordE (blksE na nb all ins tk e r).2 (-1) all else (blksE na nb all ins tk e r).1
theorem chkG_start (l : List Blk) : chkB na nb all l = chkG na nb all [] [] 0 l := rfl
theorem chkG_nil : chkG na nb all ins tk e [] = ordE ins (-1) all := by
  simp [chkG, blksE]
theorem chkG_ok (h : blkE na nb all tk e x = 0) : chkG na nb all ins tk e (x :: r) = chkG na nb all (ins ++ fstsB x) (tk ++ sndsB x) (x.fst + x.len) r := by
  simp only [chkG, blksE, if_pos h]
theorem chkG_bad (h : blkE na nb all tk e x = c) (hc : c ≠ 0) : chkG na nb all ins tk e (x :: r) = c := by
  subst h
  simp only [chkG, blksE, if_neg hc]
theorem blkE_two (h : badR na nb x = true) : blkE na nb all tk e x = 2 := by simp [blkE, h]
theorem blkE_ten (h : badR na nb x = false) (h2 : x.fst < e) : blkE na nb all tk e x = 10 := by simp [blkE, h, h2]
theorem blkE_seven (h : badR na nb x = false) (h2 : ¬ x.fst < e) (t : Nat) (ht : (t : Int) < x.len) (h3 : x.snd + t ∈ tk) : blkE na nb all tk e x = 7 := by
  have : ((sndsB x).any fun s => tk.contains s) = true := List.any_eq_true.2 ⟨x.snd + t, List.mem_map.2 ⟨t, List.mem_range.2 (by omega), rfl⟩, List.contains_iff_mem.2 h3⟩
  simp only [blkE, h, h2, this, if_true, if_false, Bool.false_eq_true]
theorem none_taken (h3 : ∀ t : Nat, (t : Int) < x.len → x.snd + t ∉ tk) : ((sndsB x).any fun s => tk.contains s) = false := by
  rw [List.any_eq_false]
  intro s hs
  obtain ⟨t, ht, rfl⟩ := List.mem_map.1 hs
  rw [List.mem_range] at ht
  rw [List.contains_iff_mem]
  exact h3 t (by omega)
theorem blkE_nine (h : badR na nb x = false) (h2 : ¬ x.fst < e) (h3 : ∀ t : Nat, (t : Int) < x.len → x.snd + t ∉ tk) (t : Nat) (ht : (t : Int) < x.len) (h4 : (x.fst + t, x.snd + t) ∉ all) : blkE na nb all tk e x = 9 := by
  have h5 : ((expB x).all fun p => all.contains p) = false := by
    rw [List.all_eq_false]
    exact ⟨_, mem_expB.2 ⟨t, ht, rfl⟩, by rw [List.contains_iff_mem]; exact h4⟩
  simp only [blkE, h, h2, none_taken h3, h5, if_false, Bool.false_eq_true]
theorem blkE_none (h : badR na nb x = false) (h2 : ¬ x.fst < e) (h3 : ∀ t : Nat, (t : Int) < x.len → x.snd + t ∉ tk) (h4 : ∀ t : Nat, (t : Int) < x.len → (x.fst + t, x.snd + t) ∈ all) : blkE na nb all tk e x = 0 := by
  have h5 : ((expB x).all fun p => all.contains p) = true := by
    rw [List.all_eq_true]
    intro p hp
    obtain ⟨t, ht, rfl⟩ := mem_expB.1 hp
    exact List.contains_iff_mem.2 (h4 t ht)
  simp only [blkE, h, h2, none_taken h3, h5, if_true, if_false, Bool.false_eq_true]
end
/-- what a map of marks has -/
def insF (ins : List Int) (k : Int) : Option Bool := if k ∈ ins then some true else none
theorem insF_nil (k : Int) : insF [] k = none := by simp [insF]
theorem insF_get (ins : List Int) (k : Int) : (insF ins k).getD false = decide (k ∈ ins) := by
  unfold insF
  by_cases h : k ∈ ins <;> simp [h]
theorem insF_push (ins : List Int) (v k : Int) : insF (ins ++ [v]) k = if k = v then some true else insF ins k := by
  unfold insF
  by_cases h : k = v <;> simp [h]
/-- the first t firsts and seconds of a block -/
def fstsT (x : Blk) (t : Nat) : List Int := (List.range t).map fun i : Nat => x.fst + (i : Int)
def sndsT (x : Blk) (t : Nat) : List Int := (List.range t).map fun i : Nat => x.snd + (i : Int)
theorem fstsT_succ (x : Blk) (t : Nat) : fstsT x (t + 1) = fstsT x t ++ [x.fst + t] := by simp [fstsT, List.range_succ]
theorem sndsT_succ (x : Blk) (t : Nat) : sndsT x (t + 1) = sndsT x t ++ [x.snd + t] := by simp [sndsT, List.range_succ]
theorem fstsT_zero (x : Blk) : fstsT x 0 = [] := rfl
theorem sndsT_zero (x : Blk) : sndsT x 0 = [] := rfl
theorem fstsT_all {x : Blk} {t : Nat} (h : x.len = t) : fstsT x t = fstsB x := by simp [fstsT, fstsB, h]
theorem sndsT_all {x : Blk} {t : Nat} (h : x.len = t) : sndsT x t = sndsB x := by simp [sndsT, sndsB, h]
/-- the seconds of the first j pairs, at their firsts -/
def secF (l : List (Nat × Nat)) : Int → Option Int
  | k => match l with
    | [] => none
    | p :: r => if k = p.1 then some (p.2 : Int) else secF r k
theorem secF_none {l : List (Nat × Nat)} {k : Int} : (∀ p ∈ l, k ≠ p.1) → secF l k = none := by
  induction l with
  | nil => intro _; rfl
  | cons p r ih =>
    intro h
    rw [secF, if_neg (h p (List.mem_cons_self ..))]
    exact ih fun q hq => h q (List.mem_cons_of_mem _ hq)
/-- a new pair with a new first -/
theorem secF_push {l : List (Nat × Nat)} {p : Nat × Nat} (h : ∀ q ∈ l, q.1 ≠ p.1) (k : Int) : secF (l ++ [p]) k = if k = p.1 then some (p.2 : Int) else secF l k := by
  induction l with
  | nil => rfl
  | cons q r ih =>
    have hq := h q (List.mem_cons_self ..)
    rw [List.cons_append, secF, secF, ih fun q hq => h q (List.mem_cons_of_mem _ hq)]
    by_cases h1 : k = q.1
    · rw [if_pos h1, if_pos h1, if_neg (by omega)]
    · rw [if_neg h1, if_neg h1]
theorem secF_iff {l : List (Nat × Nat)} (hn : l.Pairwise fun p q => p.1 < q.1) {k v : Int} : secF l k = some v ↔ (k, v) ∈ allI l := by
  induction l with
  | nil => simp [secF, allI]
  | cons q r ih =>
    rw [List.pairwise_cons] at hn
    rw [secF]
    by_cases h : k = q.1
    · rw [if_pos h]
      constructor
      · intro h2
        cases h2
        rw [h]
        exact List.mem_cons_self ..
      · intro h2
        rcases List.mem_cons.1 h2 with h2 | h2
        · simp only [pairI, Prod.mk.injEq] at h2
          rw [h2.2]
        · obtain ⟨p, hp, h3⟩ := List.mem_map.1 h2
          simp only [pairI, Prod.mk.injEq] at h3
          have := hn.1 p hp
          omega
    · rw [if_neg h, ih hn.2]
      constructor
      · exact fun h2 => List.mem_cons_of_mem _ h2
      · intro h2
        rcases List.mem_cons.1 h2 with h2 | h2
        · simp only [pairI, Prod.mk.injEq] at h2
          exact absurd h2.1 h
        · exact h2
section
variable {ins : List Int} {last : Int}
/-- the rest of the last loop -/
theorem ordE_nil : ordE ins last [] = 0 := rfl
theorem ordE_skip {p : Int × Int} {r : List (Int × Int)} (h : p.1 ∈ ins) : ordE ins last (p :: r) = ordE ins last r := by
  rw [ordE, if_pos (List.contains_iff_mem.2 h)]
theorem ordE_bad {p : Int × Int} {r : List (Int × Int)} (h : p.1 ∉ ins) (h2 : p.2 < last) : ordE ins last (p :: r) = 17 := by
  rw [ordE, if_neg (fun h' => h (List.contains_iff_mem.1 h')), if_pos h2]
theorem ordE_next {p : Int × Int} {r : List (Int × Int)} (h : p.1 ∉ ins) (h2 : ¬ p.2 < last) : ordE ins last (p :: r) = ordE ins p.2 r := by
  rw [ordE, if_neg (fun h' => h (List.contains_iff_mem.1 h')), if_neg h2]
end
theorem badR_false {na nb : Int} {x : Blk} : badR na nb x = false ↔ 1 ≤ x.len ∧ 0 ≤ x.fst ∧ 0 ≤ x.snd ∧ x.fst ≤ na ∧ x.snd ≤ nb ∧ x.len ≤ na - x.fst ∧ x.len ≤ nb - x.snd := by
  unfold badR
  rw [decide_eq_false_iff_not]
  omega
theorem badR_true {na nb : Int} {x : Blk} (h : x.len < 1 ∨ x.fst < 0 ∨ x.snd < 0 ∨ na < x.fst ∨ nb < x.snd ∨ na - x.fst < x.len ∨ nb - x.snd < x.len) : badR na nb x = true := by
  unfold badR
  rw [decide_eq_true_eq]
  exact h
/-- marks in a row of bools -/
def mkdB (ins : List Int) (n : Nat) : List Bool := (List.range n).map fun i : Nat => decide ((i : Int) ∈ ins)
theorem mkdB_len (ins : List Int) (n : Nat) : (mkdB ins n).length = n := by simp [mkdB]
theorem mkdB_nil (n : Nat) : mkdB [] n = List.replicate n false := by
  apply List.ext_getElem <;> simp [mkdB]
theorem mkdB_at {ins : List Int} {n i : Nat} (h : i < n) : (mkdB ins n).getD i false = decide ((i : Int) ∈ ins) := by simp [mkdB, h]
theorem mkdB_push (ins : List Int) (n k : Nat) : (mkdB ins n).set k true = mkdB (ins ++ [(k : Int)]) n := by
  apply List.ext_getElem
  · simp [mkdB]
  · intro i h1 h2
    simp only [List.getElem_set, mkdB, List.getElem_map, List.getElem_range]
    by_cases hki : k = i
    · subst hki; simp
    · rw [if_neg hki]
      rw [Bool.eq_iff_iff, decide_eq_true_eq, decide_eq_true_eq, List.mem_append, List.mem_singleton]
      constructor
      · exact .inl
      · rintro (h | h)
        · exact h
        · omega
theorem allI_take {l : List (Nat × Nat)} {k : Nat} {p : Nat × Nat} (h : l[k]? = some p) : allI (l.take (k + 1)) = allI (l.take k) ++ [pairI p] := by
  rw [List.take_add_one, h]
  simp [allI]
end Go.Ap
