/-
  A collation with its sources in another order: plain laws.
-/
import Derived.Test.YtjmebijckcimoaaGreatDoorPl
namespace Go.Ap
/-- an order that is its own inverse -/
structure Inv (n : Nat) (f : Nat → Nat) : Prop where
  lt : ∀ k, k < n → f k < n
  inv : ∀ k, f (f k) = k
def sw (a b k : Nat) : Nat := if k = b then a else if k = a then b else k
theorem sw_inv {n a b : Nat} (ha : a < n) (hb : b < n) : Inv n (sw a b) :=
  ⟨fun k hk => by unfold sw; repeat' split
                  all_goals omega, fun k => by unfold sw; repeat' split
                                               all_goals first | omega | contradiction⟩
/-- a list in another order -/
def perL {α : Type} (f : Nat → Nat) (l : List α) (n : Nat) : List α := (List.range n).filterMap fun k => l[f k]?
theorem perL_map {α : Type} {f : Nat → Nat} {l : List α} {n : Nat} (d : α) (hf : ∀ k, k < n → f k < l.length) : perL f l n = (List.range n).map fun k => l.getD (f k) d := by
  unfold perL
  induction n with
  | zero => rfl
  | succ n ih =>
    rw [List.range_succ, List.filterMap_append, List.map_append, ih fun k hk => hf k (by omega)]
    have := hf n (by omega)
    simp [this]
theorem perL_len {α : Type} {f : Nat → Nat} {l : List α} {n : Nat} (hf : ∀ k, k < n → f k < l.length) : (perL f l n).length = n := by
  cases l with
  | nil =>
    cases n with
    | zero => rfl
    | succ n => have := hf 0 (by omega); simp at this
  | cons d r => rw [perL_map d hf]; simp
theorem perL_at {α : Type} {f : Nat → Nat} {l : List α} {n k : Nat} (hf : ∀ k, k < n → f k < l.length) (hk : k < n) : (perL f l n)[k]? = l[f k]? := by
  cases l with
  | nil => have := hf k hk; simp at this
  | cons d r =>
    rw [perL_map d hf]
    have := hf k hk
    rw [List.getElem?_map, List.getElem?_range hk, Option.map_some, List.getD_eq_getElem?_getD, List.getElem?_eq_getElem this]
    rfl
theorem perL_mem {α : Type} {f : Nat → Nat} {l : List α} {n : Nat} {x : α} (h : x ∈ perL f l n) : x ∈ l := by
  unfold perL at h
  obtain ⟨k, _, hk⟩ := List.mem_filterMap.1 h
  exact List.mem_of_getElem? hk
theorem perL_succ {α : Type} {f : Nat → Nat} {l : List α} {n : Nat} {x : α} (h : l[f n]? = some x) : perL f l (n + 1) = perL f l n ++ [x] := by
  unfold perL
  rw [List.range_succ, List.filterMap_append]
  simp [h]
theorem perL_nth {f : Nat → Nat} {l : List Int} {n k : Nat} (hf : ∀ k, k < n → f k < l.length) (hk : k < n) : nth (perL f l n) k = nth l (f k) := by
  unfold nth
  rw [List.getD_eq_getElem?_getD, List.getD_eq_getElem?_getD, perL_at hf hk]
/-- the collation with its sources in another order -/
def reoC (x : Coll) (f : Nat → Nat) : Coll :=
  ⟨x.sec, perL f x.sigla x.sigla.length, perL f x.tokens x.sigla.length, x.columns.map fun c => perL f c x.sigla.length⟩

def StepA (L c nx nx' : List Int) (j : Nat) : Prop := (nth c j = -1 ∧ nth nx' j = nth nx j) ∨ (nth c j ≠ -1 ∧ nth c j = nth nx j ∧ nth c j < nth L j ∧ nth nx' j = nth nx j + 1)
structure ColA1 (L c nx nx' : List Int) (k : Nat) (sm : Bool) : Prop where
  len : nx'.length = nx.length
  step : ∀ j, j < k → StepA L c nx nx' j
  rest : ∀ j, k ≤ j → nth nx' j = nth nx j
  ex : sm = true ↔ ∃ j, j < k ∧ nth c j ≠ -1
theorem ColA1.zero (L c nx : List Int) : ColA1 L c nx nx 0 false := ⟨rfl, fun j hj => by omega, fun _ _ => rfl, by simp⟩
theorem ColA1.next {L c nx n1 n2 : List Int} {k : Nat} {s1 s2 : Bool} (h : ColA1 L c nx n1 k s1) (hk : k < nx.length) (he : eltA L n1 k (nth c k) s1 = some (n2, s2)) : ColA1 L c nx n2 (k + 1) s2 := by
  have hr := h.rest k (Nat.le_refl _)
  have hl := h.len
  unfold eltA at he
  split at he
  · rename_i h1
    cases he
    refine ⟨hl, fun j hj => ?_, fun j hj => h.rest j (by omega), h.ex.trans ⟨fun ⟨j, g1, g2⟩ => ⟨j, by omega, g2⟩, fun ⟨j, g1, g2⟩ => ⟨j, ?_, g2⟩⟩⟩
    · by_cases hjk : j = k
      · subst hjk; exact .inl ⟨h1, hr⟩
      · exact h.step j (by omega)
    · by_cases hjk : j = k
      · subst hjk; exact absurd h1 g2
      · omega
  · split at he
    · cases he
    · split at he
      · cases he
      · rename_i h1 h2 h3
        cases he
        simp only [ne_eq, Decidable.not_not] at h2
        refine ⟨by rw [List.length_set]; exact hl, fun j hj => ?_, fun j hj => ?_, ⟨fun _ => ⟨k, by omega, h1⟩, fun _ => rfl⟩⟩
        · by_cases hjk : j = k
          · subst hjk
            exact .inr ⟨h1, by rw [h2, hr], by omega, by rw [nth_set (by omega), if_pos rfl, hr]⟩
          · have := h.step j (by omega)
            unfold StepA at this ⊢
            rw [nth_set (by omega), if_neg hjk]
            exact this
        · rw [nth_set (by omega), if_neg (by omega)]
          exact h.rest j (by omega)
theorem colA_R {L c nx : List Int} : ∀ {k : Nat}, k ≤ nx.length → ∀ {nx' sm}, colA L c nx k = some (nx', sm) → ColA1 L c nx nx' k sm
  | 0, _, _, _, he => by cases he; exact .zero ..
  | k + 1, hk, nx', sm, he => by
    rw [colA] at he
    obtain ⟨⟨n1, s1⟩, h1, h2⟩ := Option.bind_eq_some_iff.1 he
    exact (colA_R (by omega) h1).next (by omega) h2
/-- where each place steps, the column does -/
theorem colA_of {L c nx nx' : List Int} : ∀ {k : Nat}, k ≤ nx.length → (∀ j, j < k → StepA L c nx nx' j) → ∃ n1 s1, colA L c nx k = some (n1, s1)
  | 0, _, _ => ⟨_, _, rfl⟩
  | k + 1, hk, h => by
    obtain ⟨n1, s1, h1⟩ := colA_of (k := k) (by omega) fun j hj => h j (by omega)
    have hR := (colA_R (by omega) h1).rest k (Nat.le_refl _)
    rcases h k (by omega) with g | ⟨g1, g2, g3, _⟩
    · exact ⟨_, _, by rw [colA_step h1, eltA_skip g.1]⟩
    · exact ⟨_, _, by rw [colA_step h1, eltA_go g1 (by rw [g2, hR]) (by omega)]⟩
structure RowA1 (L c nx nx' : List Int) : Prop where
  cl : c.length = L.length
  len : nx'.length = nx.length
  step : ∀ j, j < L.length → StepA L c nx nx' j
  ex : ∃ j, j < L.length ∧ nth c j ≠ -1
theorem rowA_R {L c nx nx' : List Int} (hl : nx.length = L.length) (h : rowA L c nx = some nx') : RowA1 L c nx nx' := by
  unfold rowA at h
  split at h
  · cases h
  · rename_i hc
    simp only [ne_eq, Decidable.not_not] at hc
    obtain ⟨⟨n1, s1⟩, h1, h2⟩ := Option.bind_eq_some_iff.1 h
    simp only at h2
    split at h2
    · rename_i hs
      cases h2
      have hR := colA_R (by omega) h1
      rw [hc] at hR
      exact ⟨hc, hR.len, hR.step, hR.ex.1 hs⟩
    · cases h2
theorem rowA_of {L c nx nx' : List Int} (hl : nx.length = L.length) (h : RowA1 L c nx nx') : rowA L c nx = some nx' := by
  obtain ⟨n1, s1, h1⟩ := colA_of (k := c.length) (by rw [h.cl]; omega) fun j hj => h.step j (by rw [← h.cl]; exact hj)
  have hR := colA_R (by rw [h.cl]; omega) h1
  have hs : s1 = true := hR.ex.2 (by rw [h.cl]; exact h.ex)
  subst hs
  have hlen := hR.len
  have hlen2 := h.len
  have : n1 = nx' := eq_upto (by omega) fun j hj => by
    have g1 := hR.step j (by rw [h.cl]; omega)
    have g2 := h.step j (by omega)
    unfold StepA at g1 g2
    omega
  subst this
  exact rowA_some h.cl h1
theorem RowA1.per {L c nx nx' : List Int} {f : Nat → Nat} {n : Nat} (hf : Inv n f) (hn : L.length = n) (hl : nx.length = n) (h : RowA1 L c nx nx') : RowA1 (perL f L n) (perL f c n) (perL f nx n) (perL f nx' n) := by
  have hc := h.cl
  have hl' := h.len
  have f1 : ∀ {l : List Int}, l.length = n → ∀ k, k < n → f k < l.length := fun hl k hk => by have := hf.lt k hk; omega
  have e1 := perL_len (f1 hn)
  refine ⟨by rw [e1, perL_len (f1 (by omega))], by rw [perL_len (f1 (by omega)), perL_len (f1 hl)], fun j hj => ?_, ?_⟩
  · rw [e1] at hj
    have := h.step (f j) (by have := hf.lt j hj; omega)
    unfold StepA at this ⊢
    rw [perL_nth (f1 hn) hj, perL_nth (f1 (by omega)) hj, perL_nth (f1 hl) hj, perL_nth (f1 (by omega)) hj]
    exact this
  · obtain ⟨j, hj, hne⟩ := h.ex
    have hj' : f j < n := hf.lt j (by omega)
    exact ⟨f j, by rw [e1]; exact hj', by rw [perL_nth (f1 (by omega)) hj', hf.inv]; exact hne⟩
theorem perL_rep {f : Nat → Nat} {n : Nat} (hf : Inv n f) : perL f (List.replicate n (0 : Int)) n = List.replicate n 0 := by
  have f1 : ∀ k, k < n → f k < (List.replicate n (0 : Int)).length := fun k hk => by simpa using hf.lt k hk
  refine List.ext_getElem? fun k => ?_
  by_cases hk : k < n
  · rw [perL_at f1 hk, List.getElem?_replicate, if_pos (hf.lt k hk), List.getElem?_replicate, if_pos hk]
  · rw [List.getElem?_eq_none (by rw [perL_len f1]; omega), List.getElem?_eq_none (by simp; omega)]
theorem colsA_per {L : List Int} {cols : List (List Int)} {f : Nat → Nat} {n : Nat} (hf : Inv n f) (hn : L.length = n) : ∀ {i : Nat} {nx : List Int}, i ≤ cols.length → colsA L cols i = some nx →
    nx.length = n ∧ colsA (perL f L n) (cols.map fun c => perL f c n) i = some (perL f nx n) ∧ ∀ j c, j < i → cols[j]? = some c → c.length = n ∧ ∃ k, k < n ∧ nth c k ≠ -1
  | 0, nx, _, h => by
    cases h
    have e1 := perL_len (f := f) (l := L) (n := n) fun k hk => by have := hf.lt k hk; omega
    refine ⟨by simp [hn], ?_, fun j c hj => by omega⟩
    rw [colsA, e1, hn, perL_rep hf]
  | i + 1, nx, hi, h => by
    rw [colsA] at h
    obtain ⟨n1, h1, h2⟩ := Option.bind_eq_some_iff.1 h
    obtain ⟨k1, k2, k3⟩ := colsA_per hf hn (by omega) h1
    have hget : cols.getD i [] = cols[i] := by rw [List.getD_eq_getElem?_getD, List.getElem?_eq_getElem (by omega)]; rfl
    rw [hget] at h2
    have hR := rowA_R (by omega) h2
    have hRl := hR.len
    have hP := hR.per hf hn k1
    refine ⟨by omega, ?_, fun j c hj hc => ?_⟩
    · rw [colsA_step k2 (c := perL f cols[i] n) (by rw [List.getD_eq_getElem?_getD, List.getElem?_map, List.getElem?_eq_getElem (by omega)]; rfl)]
      refine rowA_of ?_ hP
      rw [perL_len fun k hk => by have := hf.lt k hk; omega, perL_len fun k hk => by have := hf.lt k hk; omega]
    · by_cases hji : j = i
      · subst hji
        rw [List.getElem?_eq_getElem (by omega)] at hc
        cases hc
        have := hR.cl
        have h4 := hR.ex
        rw [hn] at h4
        exact ⟨by omega, h4⟩
      · exact k3 j c (by omega) hc

theorem sigE_iff : ∀ {sig pre : List Str}, sigE pre sig = 0 ↔ (∀ s ∈ sig, sigB s = true) ∧ sig.Pairwise (· ≠ ·) ∧ ∀ s ∈ sig, s ∉ pre
  | [], pre => by simp [sigE]
  | s :: r, pre => by
    rw [sigE]
    split
    · rename_i h; simp [h]
    · rename_i h
      split
      · rename_i h2
        have : s ∈ pre := by simpa using h2
        simp [this]
      · rename_i h2
        rw [sigE_iff]
        have h3 : s ∉ pre := by simpa using h2
        have h4 : sigB s = true := by simpa using h
        simp only [List.mem_cons, forall_eq_or_imp, List.pairwise_cons, List.mem_append, List.not_mem_nil, or_false, not_or, h4, true_and, h3]
        constructor
        · rintro ⟨a, b, c⟩
          exact ⟨a, ⟨fun t ht e => (c t ht).2 e.symm, b⟩, id, fun t ht => (c t ht).1⟩
        · rintro ⟨a, ⟨b, c⟩, d⟩
          exact ⟨a, c, fun t ht => ⟨d.2 t ht, fun e => b t ht e.symm⟩⟩
theorem tokE_all : ∀ {tk : List (List Tok)}, (∀ l ∈ tk, l.length ≤ 1024 ∧ ∀ t ∈ l, tokC t = 0) → tokE tk = 0
  | [], _ => rfl
  | a :: r, h => by
    have h1 := h a (List.mem_cons_self ..)
    rw [tokE, if_neg (by omega), if_neg (by
      simp only [List.any_eq_true, decide_eq_true_eq, not_exists, not_and, Decidable.not_not]
      exact h1.2)]
    exact tokE_all fun l hl => h l (List.mem_cons_of_mem _ hl)
theorem perL_neq {f : Nat → Nat} {l : List Str} (hf : Inv l.length f) (h : l.Pairwise (· ≠ ·)) : (perL f l l.length).Pairwise (· ≠ ·) := by
  have f1 : ∀ k, k < l.length → f k < l.length := hf.lt
  refine List.pairwise_iff_getElem.2 fun i j hi hj hij => ?_
  rw [perL_len f1] at hi hj
  have g1 := perL_at f1 hi
  have g2 := perL_at f1 hj
  rw [List.getElem?_eq_getElem (by rw [perL_len f1]; exact hi), List.getElem?_eq_getElem (f1 i hi)] at g1
  rw [List.getElem?_eq_getElem (by rw [perL_len f1]; exact hj), List.getElem?_eq_getElem (f1 j hj)] at g2
  rw [Option.some.inj g1, Option.some.inj g2]
  have hne : f i ≠ f j := fun e => by
    have := hf.inv i
    rw [e, hf.inv] at this
    omega
  rcases Nat.lt_or_ge (f i) (f j) with h1 | h1
  · exact List.pairwise_iff_getElem.1 h _ _ (f1 i hi) (f1 j hj) h1
  · exact fun e => List.pairwise_iff_getElem.1 h _ _ (f1 j hj) (f1 i hi) (by omega) e.symm
theorem lensT_per {f : Nat → Nat} {tk : List (List Tok)} {n : Nat} (hf : Inv n f) (hn : tk.length = n) : lensT (perL f tk n) = perL f (lensT tk) n := by
  have f1 : ∀ k, k < n → f k < tk.length := fun k hk => by have := hf.lt k hk; omega
  have f2 : ∀ k, k < n → f k < (lensT tk).length := fun k hk => by have := f1 k hk; rw [lensT_len]; omega
  refine List.ext_getElem? fun k => ?_
  by_cases hk : k < n
  · rw [perL_at f2 hk]
    unfold lensT
    rw [List.getElem?_map, perL_at f1 hk, List.getElem?_map]
  · rw [List.getElem?_eq_none (by rw [lensT_len, perL_len f1]; omega), List.getElem?_eq_none (by rw [perL_len f2]; omega)]
theorem head_of {x : Coll} (h : collC x = 0) : headC x.sec x.sigla x.tokens = 0 := by
  by_cases h0 : headC x.sec x.sigla x.tokens = 0
  · exact h0
  · rw [coll_head rfl h0] at h; exact h
/-- another order of a valid collation's sources: it is valid -/
theorem reo_coll {x : Coll} {f : Nat → Nat} (h : collC x = 0) (hf : Inv x.sigla.length f) : collC (reoC x f) = 0 := by
  have hv := val_of h
  obtain ⟨g1, g2, g3, g4, g5, g6⟩ := head_zero (head_of h)
  obtain ⟨s1, s2, s3⟩ := sigE_iff.1 g4
  have f2 : ∀ k, k < x.sigla.length → f k < x.tokens.length := fun k hk => by rw [g5]; exact hf.lt k hk
  have l1 : (perL f x.sigla x.sigla.length).length = x.sigla.length := perL_len hf.lt
  have hh : headC (reoC x f).sec (reoC x f).sigla (reoC x f).tokens = 0 := by
    unfold reoC
    have e4 : sigE [] (perL f x.sigla x.sigla.length) = 0 := sigE_iff.2 ⟨fun s hs => s1 s (perL_mem hs), perL_neq hf s2, fun s _ => by simp⟩
    rw [head_6 g1 (by show ¬ _ = 0; rw [l1]; omega) (by show ¬ _ < _; rw [l1]; omega) e4 (by show _ = _; rw [l1, perL_len f2])]
    exact tokE_all fun l hl => hv.rows l (perL_mem hl)
  refine coll_al hh ?_
  have hlt : (lensT x.tokens).length = x.sigla.length := by rw [lensT_len, g5]
  have hP := (colsA_per hf hlt (Nat.le_refl _) hv.al).2.1
  show alignB (lensT (perL f x.tokens x.sigla.length)) (x.columns.map fun c => perL f c x.sigla.length) = true
  rw [lensT_per hf g5]
  rw [align_end (nx := perL f (lensT x.tokens) x.sigla.length) (by rw [List.length_map]; exact hP)]
  simp
/-- no column of a valid collation is empty -/
theorem Val.somes {x : Coll} (hv : Val x) {i : Nat} {c : List Int} (hc : x.columns[i]? = some c) : c.length = x.sigla.length ∧ ∃ k, k < x.sigla.length ∧ nth c k ≠ -1 := by
  have hlt : (lensT x.tokens).length = x.sigla.length := by rw [lensT_len, hv.toks]
  exact (colsA_per (f := id) ⟨fun k hk => hk, fun k => rfl⟩ hlt (Nat.le_refl _) hv.al).2.2 i c (List.getElem?_eq_some_iff.1 hc).1 hc
end Go.Ap
