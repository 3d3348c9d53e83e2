/-
  Chapter 23: plain laws (the longest increasing subsequence, the greedy cover, pairs, chain, blocks, undoing, the check).
-/
import Derived.Test.YtbahddjbncinbaaGreatDoorPl

/-
  The longest increasing subsequence as the code finds it, and the greedy cover: plain laws.
-/
namespace Go.Ap
/-- the greatest sum among the later elements that are greater than x -/
def mxF (x : Int) : List Int → List Nat → Nat → Nat
  | y :: ys, s :: ss, m => mxF x ys ss (if x < y then max m s else m)
  | _, _, m => m
/-- for each index the length of the longest increasing subsequence that begins there -/
def sumF : List Int → List Nat
  | [] => []
  | x :: xs => (1 + mxF x xs (sumF xs) 0) :: sumF xs
theorem sumF_len : ∀ l : List Int, (sumF l).length = l.length
  | [] => rfl
  | x :: xs => by simp [sumF, sumF_len xs]
theorem sumF_drop : ∀ (l : List Int) (i : Nat), sumF (l.drop i) = (sumF l).drop i
  | [], i => by simp [sumF]
  | x :: xs, 0 => rfl
  | x :: xs, i + 1 => by simp only [List.drop_succ_cons, sumF]; exact sumF_drop xs i
theorem mxF_ge (x : Int) : ∀ (ys : List Int) (ss : List Nat) (m : Nat), m ≤ mxF x ys ss m
  | [], ss, m => by cases ss <;> simp [mxF]
  | y :: ys, [], m => by simp [mxF]
  | y :: ys, s :: ss, m => by
    unfold mxF
    refine Nat.le_trans ?_ (mxF_ge x ys ss _)
    split <;> omega
theorem mxF_at (x : Int) : ∀ (ys : List Int) (ss : List Nat) (m k : Nat) (y : Int) (s : Nat), ys[k]? = some y → ss[k]? = some s → x < y → s ≤ mxF x ys ss m
  | [], ss, m, k, y, s, h, _, _ => by simp at h
  | y :: ys, [], m, k, _, s, _, h, _ => by simp at h
  | y :: ys, s :: ss, m, 0, _, _, h1, h2, h3 => by
    simp only [List.getElem?_cons_zero, Option.some.injEq] at h1 h2
    subst h1 h2
    unfold mxF
    rw [if_pos h3]
    exact Nat.le_trans (Nat.le_max_right _ _) (mxF_ge x ys ss _)
  | y :: ys, s :: ss, m, k + 1, y', s', h1, h2, h3 => by
    unfold mxF
    exact mxF_at x ys ss _ k y' s' (by simpa using h1) (by simpa using h2) h3
theorem mxF_has (x : Int) : ∀ (ys : List Int) (ss : List Nat) (m : Nat), mxF x ys ss m = m ∨ ∃ (k : Nat) (y : Int) (s : Nat), ys[k]? = some y ∧ ss[k]? = some s ∧ x < y ∧ mxF x ys ss m = s
  | [], ss, m => by left; cases ss <;> rfl
  | y :: ys, [], m => by left; rfl
  | y :: ys, s :: ss, m => by
    unfold mxF
    rcases mxF_has x ys ss (if x < y then max m s else m) with h | ⟨k, y', s', h1, h2, h3, h4⟩
    · rw [h]
      by_cases hxy : x < y
      · rw [if_pos hxy]
        rcases Nat.le_total m s with hms | hms
        · exact .inr ⟨0, y, s, rfl, rfl, hxy, Nat.max_eq_right hms⟩
        · exact .inl (Nat.max_eq_left hms)
      · rw [if_neg hxy]; exact .inl rfl
    · exact .inr ⟨k + 1, y', s', by simpa using h1, by simpa using h2, h3, h4⟩
/-- what the first loop finds: the greatest sum -/
def topF (l : List Nat) : Nat := l.foldr max 0
theorem topF_ge : ∀ {l : List Nat} {s : Nat}, s ∈ l → s ≤ topF l
  | a :: l, s, h => by
    rcases List.mem_cons.1 h with rfl | h
    · exact Nat.le_max_left _ _
    · exact Nat.le_trans (topF_ge h) (Nat.le_max_right _ _)
theorem topF_has : ∀ {l : List Nat}, topF l = 0 ∨ topF l ∈ l
  | [] => .inl rfl
  | a :: l => by
    show max a (topF l) = 0 ∨ max a (topF l) ∈ a :: l
    rcases Nat.le_total a (topF l) with h | h
    · rw [Nat.max_eq_right h]
      rcases topF_has (l := l) with h' | h'
      · exact .inl h'
      · exact .inr (List.mem_cons_of_mem _ h')
    · rw [Nat.max_eq_left h]; exact .inr (List.mem_cons_self ..)
/-- what the second loop takes -/
def pickF : List Int → List Nat → Nat → Option Int → Nat → List Nat
  | x :: xs, s :: ss, i, last, left =>
    if left = 0 then [] else if s = left ∧ (∀ y, last = some y → y < x) then i :: pickF xs ss (i + 1) (some x) (left - 1) else pickF xs ss (i + 1) last left
  | _, _, _, _, _ => []
def incF (l : List Int) : List Nat := pickF l (sumF l) 0 none (topF (sumF l))
theorem pickF_zero : ∀ (l : List Int) (ss : List Nat) (i : Nat) (last : Option Int), pickF l ss i last 0 = []
  | [], ss, _, _ => by cases ss <;> rfl
  | _ :: _, [], _, _ => rfl
  | _ :: _, _ :: _, _, _ => by simp [pickF]
theorem pickF_len : ∀ (l : List Int) (i : Nat) (last : Option Int) (left : Nat), (left = 0 ∨ ∃ (k : Nat) (x : Int), l[k]? = some x ∧ (sumF l)[k]? = some left ∧ ∀ y, last = some y → y < x) → (pickF l (sumF l) i last left).length = left
  | [], i, last, left, h => by
    rcases h with rfl | ⟨k, x, h, _⟩
    · rfl
    · simp at h
  | x :: xs, i, last, left, h => by
    by_cases h0 : left = 0
    · subst h0; rw [pickF_zero]; rfl
    · rcases h with h | ⟨k, z, h1, h2, h3⟩
      · exact absurd h h0
      · unfold sumF pickF
        rw [if_neg h0]
        split
        · rename_i hc
          simp only [List.length_cons]
          rw [pickF_len xs (i + 1) (some x) (left - 1)]
          · omega
          · rcases mxF_has x xs (sumF xs) 0 with h | ⟨k, y, s, g1, g2, g3, g4⟩
            · exact .inl (by omega)
            · refine .inr ⟨k, y, g1, by rw [g2]; congr 1; omega, fun y' hy' => by cases hy'; exact g3⟩
        · rename_i hc
          refine pickF_len xs (i + 1) last left (.inr ?_)
          cases k with
          | zero =>
            exfalso
            simp only [List.getElem?_cons_zero, Option.some.injEq] at h1 h2
            subst h1
            exact hc ⟨by simpa [sumF] using h2, h3⟩
          | succ k => exact ⟨k, z, by simpa using h1, by simpa [sumF] using h2, h3⟩
theorem incF_len (l : List Int) : (incF l).length = topF (sumF l) := by
  refine pickF_len l 0 none _ ?_
  rcases topF_has (l := sumF l) with h | h
  · exact .inl h
  · obtain ⟨k, hk⟩ := List.getElem?_of_mem h
    have hkl : k < l.length := by rw [← sumF_len]; exact (List.getElem?_eq_some_iff.1 hk).1
    exact .inr ⟨k, l[k], List.getElem?_eq_getElem hkl, hk, fun y hy => by cases hy⟩
/-- what is taken: ascending indices with ascending elements -/
theorem pickF_mem : ∀ (l : List Int) (ss : List Nat) (i : Nat) (last : Option Int) (left : Nat), (∀ k ∈ pickF l ss i last left, i ≤ k ∧ k < i + l.length ∧ ∀ y, last = some y → y < l.getD (k - i) 0) ∧ (pickF l ss i last left).Pairwise fun a b => a < b ∧ l.getD (a - i) 0 < l.getD (b - i) 0
  | [], ss, i, last, left => by cases ss <;> simp [pickF]
  | x :: xs, [], i, last, left => by simp [pickF]
  | x :: xs, s :: ss, i, last, left => by
    have up : ∀ k, i + 1 ≤ k → (x :: xs).getD (k - i) 0 = xs.getD (k - (i + 1)) 0 := fun k hk => by
      obtain ⟨d, rfl⟩ : ∃ d, k = i + 1 + d := ⟨k - (i + 1), by omega⟩
      rw [show i + 1 + d - i = d + 1 by omega, show i + 1 + d - (i + 1) = d by omega]
      simp [List.getD_eq_getElem?_getD]
    unfold pickF
    split
    · simp
    · split
      · rename_i hc
        obtain ⟨h1, h2⟩ := pickF_mem xs ss (i + 1) (some x) (left - 1)
        constructor
        · intro k hk
          rcases List.mem_cons.1 hk with rfl | hk
          · exact ⟨Nat.le_refl _, by simp, fun y hy => by simpa using hc.2 y hy⟩
          · obtain ⟨g1, g2, g3⟩ := h1 k hk
            refine ⟨by omega, by simp; omega, fun y hy => ?_⟩
            rw [up k g1]
            exact Int.lt_trans (hc.2 y hy) (g3 x rfl)
        · refine List.pairwise_cons.2 ⟨fun k hk => ?_, h2.imp_of_mem fun {a b} ha hb hab => ?_⟩
          · obtain ⟨g1, g2, g3⟩ := h1 k hk
            refine ⟨by omega, ?_⟩
            rw [up k g1]
            simpa using g3 x rfl
          · rw [up a (h1 a ha).1, up b (h1 b hb).1]
            exact hab
      · obtain ⟨h1, h2⟩ := pickF_mem xs ss (i + 1) last left
        constructor
        · intro k hk
          obtain ⟨g1, g2, g3⟩ := h1 k hk
          refine ⟨by omega, by simp; omega, fun y hy => ?_⟩
          rw [up k g1]
          exact g3 y hy
        · refine h2.imp_of_mem fun {a b} ha hb hab => ?_
          rw [up a (h1 a ha).1, up b (h1 b hb).1]
          exact hab
theorem incF_lt {l : List Int} {k : Nat} (h : k ∈ incF l) : k < l.length := by
  have := ((pickF_mem l (sumF l) 0 none (topF (sumF l))).1 k h).2.1
  omega
theorem incF_asc (l : List Int) : (incF l).Pairwise fun a b => a < b ∧ l.getD a 0 < l.getD b 0 := by
  simpa [incF] using (pickF_mem l (sumF l) 0 none (topF (sumF l))).2
/-- no increasing subsequence is longer -/
theorem sumF_most : ∀ {l ys : List Int}, ys.Sublist l → ys.Pairwise (· < ·) → ∀ y zs, ys = y :: zs → ∃ (k : Nat) (s : Nat), l[k]? = some y ∧ (sumF l)[k]? = some s ∧ ys.length ≤ s := by
  intro l ys h
  induction h with
  | slnil => intro _ y zs e; cases e
  | cons a h ih =>
    intro hp y zs e
    obtain ⟨k, s, h1, h2, h3⟩ := ih hp y zs e
    exact ⟨k + 1, s, by simpa using h1, by simpa [sumF] using h2, h3⟩
  | cons_cons a h ih =>
    rename_i l1 l2
    intro hp y zs e
    simp only [List.cons.injEq] at e
    obtain ⟨rfl, rfl⟩ := e
    obtain ⟨hp1, hp2⟩ := List.pairwise_cons.1 hp
    refine ⟨0, _, rfl, rfl, ?_⟩
    cases hl : l1 with
    | nil => simp
    | cons z r =>
      obtain ⟨k, s, h1, h2, h3⟩ := ih hp2 z r hl
      have := mxF_at a l2 (sumF l2) 0 k z s h1 h2 (hp1 z (by rw [hl]; exact List.mem_cons_self ..))
      rw [hl] at h3
      simp only [List.length_cons] at h3 ⊢
      omega
theorem incF_most {l ys : List Int} (h : ys.Sublist l) (hp : ys.Pairwise (· < ·)) : ys.length ≤ (incF l).length := by
  rw [incF_len]
  cases hy : ys with
  | nil => simp
  | cons y zs =>
    obtain ⟨k, s, _, h2, h3⟩ := sumF_most h hp y zs hy
    rw [← hy]
    exact Nat.le_trans h3 (topF_ge (List.mem_of_getElem? h2))
/-- the first place at which a test holds; the length, if none does -/
def fstF (p : Int → Bool) : List Int → Nat
  | [] => 0
  | x :: xs => if p x then 0 else fstF p xs + 1
theorem fstF_le (p : Int → Bool) : ∀ l : List Int, fstF p l ≤ l.length
  | [] => Nat.le_refl _
  | x :: xs => by unfold fstF; split <;> simp; exact fstF_le p xs
theorem fstF_no (p : Int → Bool) : ∀ (l : List Int) (k : Nat) (x : Int), k < fstF p l → l[k]? = some x → p x = false
  | [], k, x, h, _ => by simp [fstF] at h
  | y :: ys, k, x, h, e => by
    unfold fstF at h
    split at h
    · omega
    · rename_i hp
      cases k with
      | zero => simp only [List.getElem?_cons_zero, Option.some.injEq] at e; subst e; simpa using hp
      | succ k => exact fstF_no p ys k x (by omega) (by simpa using e)
theorem fstF_yes (p : Int → Bool) : ∀ (l : List Int) (x : Int), l[fstF p l]? = some x → p x = true
  | [], x, e => by simp [fstF] at e
  | y :: ys, x, e => by
    unfold fstF at e
    split at e
    · rename_i hp
      simp only [List.getElem?_cons_zero, Option.some.injEq] at e; subst e; exact hp
    · exact fstF_yes p ys x (by simpa using e)
/-- one step of the greedy cover on the last elements of the lists -/
def coverS (tops : List Int) (n : Int) : List Int := (tops.take (fstF (fun t => decide (t ≥ n)) tops)) ++ n :: tops.drop (fstF (fun t => decide (t ≥ n)) tops + 1)
def coverT (l : List Int) : List Int := l.foldl coverS []
structure CovI (pre tops : List Int) : Prop where
  asc : tops.Pairwise (· < ·)
  has : ∀ (k : Nat) (t : Int), tops[k]? = some t → ∃ ys : List Int, (ys ++ [t]).Sublist pre ∧ (ys ++ [t]).Pairwise (· < ·) ∧ ys.length = k
  most : ∀ (ys : List Int) (y : Int), (ys ++ [y]).Sublist pre → (ys ++ [y]).Pairwise (· < ·) → ∃ (k : Nat) (t : Int), tops[k]? = some t ∧ ys.length ≤ k ∧ t ≤ y
theorem coverS_at (tops : List Int) (n : Int) (k : Nat) : (coverS tops n)[k]? = if k = fstF (fun t => decide (t ≥ n)) tops then some n else tops[k]? := by
  unfold coverS
  obtain ⟨j, hj⟩ : ∃ j, fstF (fun t => decide (t ≥ n)) tops = j := ⟨_, rfl⟩
  have hle := fstF_le (fun t => decide (t ≥ n)) tops
  rw [hj] at hle ⊢
  have hl : (tops.take j).length = j := by simp [hle]
  rw [List.getElem?_append, hl]
  by_cases h1 : k < j
  · rw [if_pos h1, if_neg (by omega), List.getElem?_take, if_pos h1]
  · rw [if_neg h1]
    by_cases h2 : k = j
    · subst h2; simp
    · rw [if_neg h2]
      obtain ⟨d, rfl⟩ : ∃ d, k = j + 1 + d := ⟨k - (j + 1), by omega⟩
      rw [show j + 1 + d - j = d + 1 by omega, List.getElem?_cons_succ, List.getElem?_drop]
theorem CovI.step {pre tops : List Int} (h : CovI pre tops) (n : Int) : CovI (pre ++ [n]) (coverS tops n) := by
  obtain ⟨j, hj⟩ : ∃ j, fstF (fun t => decide (t ≥ n)) tops = j := ⟨_, rfl⟩
  have hat : ∀ k, (coverS tops n)[k]? = if k = j then some n else tops[k]? := fun k => by rw [← hj]; exact coverS_at tops n k
  have hlo : ∀ k t, k < j → tops[k]? = some t → t < n := fun k t hk ht => by
    have := fstF_no (fun t => decide (t ≥ n)) tops k t (by omega) ht
    simpa using this
  have hup : ∀ t, tops[j]? = some t → n ≤ t := fun t ht => by
    have := fstF_yes (fun t => decide (t ≥ n)) tops t (by rw [hj]; exact ht)
    simpa using this
  have hle : j ≤ tops.length := by rw [← hj]; exact fstF_le _ _
  have asc : ∀ a b x y, a < b → tops[a]? = some x → tops[b]? = some y → x < y := fun a b x y hab hx hy => by
    obtain ⟨ha, rfl⟩ := List.getElem?_eq_some_iff.1 hx
    obtain ⟨hb, rfl⟩ := List.getElem?_eq_some_iff.1 hy
    exact List.pairwise_iff_getElem.1 h.asc a b ha hb hab
  have upj : ∀ k t, j < k → tops[k]? = some t → n < t := fun k t hk ht => by
    have hkl := (List.getElem?_eq_some_iff.1 ht).1
    have hjl : j < tops.length := by omega
    have e : tops[j]? = some tops[j] := List.getElem?_eq_getElem hjl
    have h1 := hup _ e
    have h2 := asc j k _ _ hk e ht
    omega
  refine ⟨List.pairwise_iff_getElem.2 fun a b ha hb hab => ?_, fun k t ht => ?_, fun ys y hs hp => ?_⟩
  · have ea : (coverS tops n)[a]? = some (coverS tops n)[a] := List.getElem?_eq_getElem ha
    have eb : (coverS tops n)[b]? = some (coverS tops n)[b] := List.getElem?_eq_getElem hb
    obtain ⟨x, hx⟩ : ∃ x, (coverS tops n)[a] = x := ⟨_, rfl⟩
    obtain ⟨y, hy⟩ : ∃ y, (coverS tops n)[b] = y := ⟨_, rfl⟩
    rw [hx] at ea ⊢
    rw [hy] at eb ⊢
    rw [hat] at ea eb
    split at ea <;> split at eb
    · omega
    · rename_i e1 e2
      cases ea
      exact upj b y (by omega) eb
    · rename_i e1 e2
      cases eb
      exact hlo a x (by omega) ea
    · exact asc a b x y hab ea eb
  · rw [hat] at ht
    split at ht
    · rename_i e
      subst e
      cases ht
      cases hk : k with
      | zero => exact ⟨[], by simp, by simp, rfl⟩
      | succ m =>
        have hml : m < tops.length := by omega
        have em : tops[m]? = some tops[m] := List.getElem?_eq_getElem hml
        obtain ⟨ys, h1, h2, h3⟩ := h.has m _ em
        refine ⟨ys ++ [tops[m]], h1.append (List.Sublist.refl _), ?_, by simp [h3]⟩
        have hlt := hlo m _ (by omega) em
        refine List.pairwise_append.2 ⟨h2, by simp, fun a ha b hb => ?_⟩
        obtain rfl : b = n := by simpa using hb
        rcases List.mem_append.1 ha with ha | ha
        · have := (List.pairwise_append.1 h2).2.2 a ha tops[m] (by simp)
          omega
        · obtain rfl : a = tops[m] := by simpa using ha
          exact hlt
    · obtain ⟨ys, h1, h2, h3⟩ := h.has k t ht
      exact ⟨ys, h1.trans (List.sublist_append_left _ _), h2, h3⟩
  · have hk' : ∀ (ys : List Int) (y : Int), (ys ++ [y]).Sublist pre → (ys ++ [y]).Pairwise (· < ·) → ∃ (k : Nat) (t : Int), (coverS tops n)[k]? = some t ∧ ys.length ≤ k ∧ t ≤ y := fun ys y hs hp => by
      obtain ⟨k, t, h1, h2, h3⟩ := h.most ys y hs hp
      by_cases hkj : k = j
      · subst hkj
        exact ⟨k, n, by rw [hat, if_pos rfl], h2, by have := hup t h1; omega⟩
      · exact ⟨k, t, by rw [hat, if_neg hkj]; exact h1, h2, h3⟩
    obtain ⟨l1, l2, he, s1, s2⟩ := List.sublist_append_iff.1 hs
    have s3 : l2 = [] ∨ l2 = [n] := by
      cases s2 with
      | cons _ h => exact .inl (List.sublist_nil.1 h)
      | cons_cons _ h => exact .inr (by rw [List.sublist_nil.1 h])
    rcases s3 with rfl | rfl
    · rw [List.append_nil] at he
      rw [← he] at s1
      exact hk' ys y s1 hp
    · obtain ⟨rfl, e2⟩ := List.append_inj' he rfl
      obtain rfl : y = n := by simpa using e2
      rcases List.eq_nil_or_concat ys with rfl | ⟨zs, z, rfl⟩
      · exact ⟨j, y, by rw [hat, if_pos rfl], by simp, Int.le_refl _⟩
      · obtain ⟨k, t, h1, h2, h3⟩ := h.most zs z (by simpa using s1) (by simpa using (List.pairwise_append.1 hp).1)
        have hzy : z < y := (List.pairwise_append.1 hp).2.2 z (by simp) y (by simp)
        refine ⟨j, y, by rw [hat, if_pos rfl], ?_, Int.le_refl _⟩
        have : k < j := by
          rcases Nat.lt_trichotomy k j with h' | h' | h'
          · exact h'
          · subst h'; have := hup t h1; omega
          · have := upj k t h' h1; omega
        simp
        omega
theorem covI (l : List Int) : ∀ pre tops, CovI pre tops → CovI (pre ++ l) (l.foldl coverS tops) := by
  induction l with
  | nil => intro pre tops h; simpa using h
  | cons x xs ih =>
    intro pre tops h
    have := ih (pre ++ [x]) (coverS tops x) (h.step x)
    simpa using this
theorem cov_at (l : List Int) : CovI l (coverT l) := by
  have := covI l [] [] ⟨by simp, fun k t h => by simp at h, fun ys y hs => by simp at hs⟩
  simpa [coverT] using this
/-- the increasing subsequence itself -/
def incV (l : List Int) : List Int := (incF l).map fun k => l.getD k 0
theorem idx_sub : ∀ (l : List Int) (is : List Nat) (b : Nat), is.Pairwise (· < ·) → (∀ k ∈ is, b ≤ k ∧ k < b + l.length) → (is.map fun k => l.getD (k - b) 0).Sublist l
  | [], is, b, _, h => by
    cases is with
    | nil => simp
    | cons i is => have := h i (List.mem_cons_self ..); simp at this; omega
  | x :: xs, is, b, hp, h => by
    have tail : ∀ is : List Nat, is.Pairwise (· < ·) → (∀ k ∈ is, b + 1 ≤ k ∧ k < b + 1 + xs.length) → (is.map fun k => (x :: xs).getD (k - b) 0).Sublist xs := fun is hp h => by
      have := idx_sub xs is (b + 1) hp h
      rwa [show (is.map fun k => (x :: xs).getD (k - b) 0) = is.map fun k => xs.getD (k - (b + 1)) 0 from List.map_congr_left fun k hk => by
        obtain ⟨d, rfl⟩ : ∃ d, k = b + 1 + d := ⟨k - (b + 1), by have := (h k hk).1; omega⟩
        rw [show b + 1 + d - b = d + 1 by omega, show b + 1 + d - (b + 1) = d by omega]
        simp [List.getD_eq_getElem?_getD]]
    cases is with
    | nil => simp
    | cons i is =>
      obtain ⟨h1, h2⟩ := List.pairwise_cons.1 hp
      have hi := h i (List.mem_cons_self ..)
      by_cases hib : i = b
      · subst hib
        rw [List.map_cons]
        simp only [Nat.sub_self, List.getD_cons_zero]
        exact (tail is h2 fun k hk => ⟨h1 k hk, by have := (h k (List.mem_cons_of_mem _ hk)).2; simp at this; omega⟩).cons_cons x
      · refine (tail (i :: is) hp fun k hk => ?_).cons x
        have := h k hk
        simp at this
        rcases List.mem_cons.1 hk with rfl | hk
        · exact ⟨by omega, by omega⟩
        · exact ⟨by have := h1 k hk; omega, by omega⟩
theorem incV_sub (l : List Int) : (incV l).Sublist l := by
  have := idx_sub l (incF l) 0 ((incF_asc l).imp fun h => h.1) fun k hk => ⟨Nat.zero_le _, by have := incF_lt hk; omega⟩
  simpa [incV] using this
theorem incV_asc (l : List Int) : (incV l).Pairwise (· < ·) := List.pairwise_map.2 ((incF_asc l).imp fun h => h.2)
/-- the cover has as many lists as the longest increasing subsequence has elements -/
theorem cover_len (l : List Int) : (coverT l).length = (incF l).length := by
  have h := cov_at l
  apply Nat.le_antisymm
  · cases hn : (coverT l).length with
    | zero => omega
    | succ n =>
      have hlt : n < (coverT l).length := by omega
      obtain ⟨ys, h1, h2, h3⟩ := h.has n _ (List.getElem?_eq_getElem hlt)
      have := incF_most h1 h2
      simp [h3] at this
      exact this
  · have e : (incV l).length = (incF l).length := by simp [incV]
    rcases List.eq_nil_or_concat (incV l) with h0 | ⟨zs, z, h0⟩
    · rw [h0] at e; simp at e; omega
    · have h0 : incV l = zs ++ [z] := by simpa using h0
      obtain ⟨k, t, h1, h2, _⟩ := h.most zs z (by rw [← h0]; exact incV_sub l) (by rw [← h0]; exact incV_asc l)
      have hk := (List.getElem?_eq_some_iff.1 h1).1
      rw [← e, h0]
      simp
      omega
end Go.Ap

/-
  Pairs of words of two sources, the chain, the blocks: plain laws.
-/
namespace Go.Ap
/-- the pair of a word -/
def prF (a b : List (Option Str)) (i : Nat) : Option (Nat × Nat) :=
  match a[i]? with
  | some (some s) => if a.count (some s) = 1 ∧ b.count (some s) = 1 then some (i, b.idxOf (some s)) else none
  | _ => none
def pairsL (a b : List (Option Str)) : List (Nat × Nat) := (List.range a.length).filterMap (prF a b)
section
variable {α : Type} [BEq α] [LawfulBEq α]
theorem idx_at : ∀ {l : List α} {x : α} {k : Nat}, l[k]? = some x → l.count x = 1 → l.idxOf x = k
  | [], x, k, h, _ => by simp at h
  | y :: ys, x, k, h, hc => by
    by_cases hy : y = x
    · subst hy
      cases k with
      | zero => simp
      | succ k =>
        have h' : ys[k]? = some y := by simpa using h
        have : y ∈ ys := List.mem_of_getElem? h'
        have := List.count_pos_iff.2 this
        rw [List.count_cons_self] at hc
        omega
    · cases k with
      | zero => simp at h; exact absurd h hy
      | succ k =>
        have h' : ys[k]? = some x := by simpa using h
        rw [List.count_cons_of_ne (by simpa using hy)] at hc
        rw [List.idxOf_cons, show (y == x) = false by simpa using hy, idx_at h' hc]; rfl
theorem at_idx {l : List α} {x : α} (h : 0 < l.count x) : l[l.idxOf x]? = some x := by
  have hm : x ∈ l := List.count_pos_iff.1 h
  rw [List.getElem?_eq_getElem (List.idxOf_lt_length_of_mem hm), List.getElem_idxOf]
end
section
variable {a b : List (Option Str)} {i k : Nat}
theorem prF_iff {p : Nat × Nat} : prF a b i = some p ↔ p.1 = i ∧ ∃ s, a[i]? = some (some s) ∧ b[p.2]? = some (some s) ∧ a.count (some s) = 1 ∧ b.count (some s) = 1 := by
  unfold prF
  constructor
  · intro h
    split at h
    · rename_i s e
      split at h
      · rename_i hc
        cases h
        exact ⟨rfl, s, e, at_idx (by omega), hc.1, hc.2⟩
      · cases h
    · cases h
  · rintro ⟨h0, s, h1, h2, h3, h4⟩
    rw [h1]
    simp only
    rw [if_pos ⟨h3, h4⟩, idx_at h2 h4]
    obtain ⟨p1, p2⟩ := p
    simp_all
theorem pair_iff : (i, k) ∈ pairsL a b ↔ ∃ s, a[i]? = some (some s) ∧ b[k]? = some (some s) ∧ a.count (some s) = 1 ∧ b.count (some s) = 1 := by
  unfold pairsL
  rw [List.mem_filterMap]
  constructor
  · rintro ⟨j, _, hj⟩
    obtain ⟨rfl, s, h⟩ := prF_iff.1 hj
    exact ⟨s, h⟩
  · rintro ⟨s, h⟩
    exact ⟨i, List.mem_range.2 (List.getElem?_eq_some_iff.1 h.1).1, prF_iff.2 ⟨rfl, s, h⟩⟩
theorem pairs_asc (a b : List (Option Str)) : (pairsL a b).Pairwise fun p q => p.1 < q.1 := by
  unfold pairsL
  refine List.Pairwise.filterMap (R := (· < ·)) _ (fun i j hij p hp q hq => ?_) List.pairwise_lt_range
  rw [(prF_iff.1 hp).1, (prF_iff.1 hq).1]
  exact hij
theorem pair_swap : (i, k) ∈ pairsL a b ↔ (k, i) ∈ pairsL b a := by
  rw [pair_iff, pair_iff]
  constructor <;> rintro ⟨s, h1, h2, h3, h4⟩ <;> exact ⟨s, h2, h1, h4, h3⟩
theorem pair_one {i k j : Nat} (h : (i, k) ∈ pairsL a b) (h' : (i, j) ∈ pairsL a b) : k = j := by
  obtain ⟨s, h1, h2, _, h4⟩ := pair_iff.1 h
  obtain ⟨s', g1, g2, _, g4⟩ := pair_iff.1 h'
  rw [h1] at g1
  cases g1
  rw [← idx_at h2 h4, ← idx_at g2 g4]
theorem pair_one' {i k j : Nat} (h : (i, k) ∈ pairsL a b) (h' : (j, k) ∈ pairsL a b) : i = j := pair_one (pair_swap.1 h) (pair_swap.1 h')
theorem pair_lt (h : (i, k) ∈ pairsL a b) : i < a.length ∧ k < b.length := by
  obtain ⟨s, h1, h2, _⟩ := pair_iff.1 h
  exact ⟨(List.getElem?_eq_some_iff.1 h1).1, (List.getElem?_eq_some_iff.1 h2).1⟩
theorem pairs_nodup (a b : List (Option Str)) : (pairsL a b).Nodup := (pairs_asc a b).imp fun h e => by subst e; omega
def swp (p : Nat × Nat) : Nat × Nat := (p.2, p.1)
theorem pairs_perm (a b : List (Option Str)) : ((pairsL a b).map swp).Perm (pairsL b a) := by
  refine (List.perm_ext_iff_of_nodup ?_ (pairs_nodup b a)).2 fun ⟨k, i⟩ => ?_
  · refine List.pairwise_map.2 ((pairs_nodup a b).imp fun {p q} h e => h ?_)
    obtain ⟨p1, p2⟩ := p
    obtain ⟨q1, q2⟩ := q
    simp only [swp, Prod.mk.injEq] at e
    rw [e.1, e.2]
  · rw [List.mem_map]
    constructor
    · rintro ⟨⟨i', k'⟩, h, e⟩
      simp only [swp, Prod.mk.injEq] at e
      obtain ⟨rfl, rfl⟩ := e
      exact pair_swap.1 h
    · intro h
      exact ⟨(i, k), pair_swap.2 h, rfl⟩
theorem pairs_len (a b : List (Option Str)) : (pairsL a b).length = (pairsL b a).length := by
  have := (pairs_perm a b).length_eq
  simpa using this
end
end Go.Ap

/-
  The chain, the blocks: plain laws.
-/
namespace Go.Ap
/-- the elements at chosen indices -/
def selF {α : Type} (p : Nat → Bool) : List α → Nat → List α
  | [], _ => []
  | x :: xs, i => if p i then x :: selF p xs (i + 1) else selF p xs (i + 1)
section
variable {α : Type} {p : Nat → Bool}
theorem selF_take : ∀ {l : List α} {k i : Nat} {x : α}, l[k]? = some x → selF p (l.take (k + 1)) i = selF p (l.take k) i ++ (if p (i + k) then [x] else [])
  | [], k, i, x, h => by simp at h
  | y :: ys, 0, i, x, h => by
    simp only [List.getElem?_cons_zero, Option.some.injEq] at h
    subst h
    simp only [List.take_succ_cons, List.take_zero, selF, Nat.add_zero]
    split <;> simp
  | y :: ys, k + 1, i, x, h => by
    have := selF_take (l := ys) (k := k) (i := i + 1) (by simpa using h)
    simp only [List.take_succ_cons, selF] at this ⊢
    rw [this, show i + (k + 1) = i + 1 + k by omega]
    split <;> simp
theorem selF_sub : ∀ (l : List α) (i : Nat), (selF p l i).Sublist l
  | [], _ => List.Sublist.refl _
  | x :: xs, i => by
    unfold selF
    split
    · exact (selF_sub xs (i + 1)).cons_cons x
    · exact (selF_sub xs (i + 1)).cons x
theorem filterMap_same {β γ : Type} {f g : β → Option γ} : ∀ {l : List β}, (∀ x ∈ l, f x = g x) → l.filterMap f = l.filterMap g
  | [], _ => rfl
  | x :: xs, h => by rw [List.filterMap_cons, List.filterMap_cons, h x (List.mem_cons_self ..), filterMap_same fun y hy => h y (List.mem_cons_of_mem _ hy)]
theorem selF_eq : ∀ (l : List α) (i : Nat), selF p l i = ((List.range' i l.length).filter p).filterMap fun k => l[k - i]?
  | [], i => by simp [selF]
  | x :: xs, i => by
    have e : ((List.range' (i + 1) xs.length).filter p).filterMap (fun k => (x :: xs)[k - i]?) = selF p xs (i + 1) := by
      rw [selF_eq xs (i + 1)]
      refine filterMap_same fun k hk => ?_
      have := (List.mem_range'_1.1 (List.mem_filter.1 hk).1).1
      obtain ⟨d, rfl⟩ : ∃ d, k = i + 1 + d := ⟨k - (i + 1), by omega⟩
      rw [show i + 1 + d - i = d + 1 by omega, show i + 1 + d - (i + 1) = d by omega, List.getElem?_cons_succ]
    rw [List.length_cons, List.range'_succ, List.filter_cons]
    unfold selF
    split
    · rename_i hp
      rw [List.filterMap_cons, Nat.sub_self, List.getElem?_cons_zero, e]
    · rw [e]
theorem selF_both : ∀ (l : List α) (i : Nat), (selF p l i ++ selF (fun k => !p k) l i).Perm l
  | [], _ => List.Perm.refl _
  | x :: xs, i => by
    unfold selF
    have := selF_both xs (i + 1)
    by_cases hp : p i = true
    · simp only [hp, if_true, Bool.not_true, Bool.false_eq_true, if_false]
      exact this.cons x
    · rw [Bool.not_eq_true] at hp
      simp only [hp, if_false, Bool.not_false, Bool.false_eq_true, if_true]
      exact List.perm_middle.trans (this.cons x)
theorem selF_len (l : List α) (i : Nat) : (selF p l i).length + (selF (fun k => !p k) l i).length = l.length := by
  have := (selF_both (p := p) l i).length_eq
  rwa [List.length_append] at this
end
def secsL (l : List (Nat × Nat)) : List Int := l.map fun p => ((p.2 : Nat) : Int)
/-- the pairs of the chain -/
def inL (l : List (Nat × Nat)) : List (Nat × Nat) := selF (fun i => (incF (secsL l)).contains i) l 0
/-- the others -/
def outL (l : List (Nat × Nat)) : List (Nat × Nat) := selF (fun i => !(incF (secsL l)).contains i) l 0
theorem secs_len (l : List (Nat × Nat)) : (secsL l).length = l.length := by simp [secsL]
theorem inc_filter (l : List Int) : (List.range l.length).filter (fun i => (incF l).contains i) = incF l := by
  have h1 : ((List.range l.length).filter fun i => (incF l).contains i).Pairwise (· < ·) := List.pairwise_lt_range.filter _
  have h2 : (incF l).Pairwise (· < ·) := (incF_asc l).imp fun h => h.1
  have hp : ((List.range l.length).filter fun i => (incF l).contains i).Perm (incF l) := by
    refine (List.perm_ext_iff_of_nodup (h1.imp fun h => by omega) (h2.imp fun h => by omega)).2 fun k => ?_
    rw [List.mem_filter, List.mem_range]
    constructor
    · intro h; simpa using h.2
    · intro h; exact ⟨incF_lt h, by simpa using h⟩
  exact hp.eq_of_pairwise (fun a b _ _ h1 h2 => by omega) h1 h2
theorem in_eq (l : List (Nat × Nat)) : inL l = (incF (secsL l)).filterMap fun k => l[k]? := by
  unfold inL
  rw [selF_eq, ← List.range_eq_range', ← secs_len l, inc_filter]
  rfl
theorem in_len (l : List (Nat × Nat)) : (inL l).length = (incF (secsL l)).length := by
  rw [in_eq]
  have : ∀ is : List Nat, (∀ k ∈ is, k < l.length) → (is.filterMap fun k => l[k]?).length = is.length := by
    intro is
    induction is with
    | nil => intro _; rfl
    | cons i is ih =>
      intro h
      rw [List.filterMap_cons, List.getElem?_eq_getElem (h i (List.mem_cons_self ..))]
      simp [ih fun k hk => h k (List.mem_cons_of_mem _ hk)]
  exact this _ fun k hk => by rw [← secs_len l]; exact incF_lt hk
theorem in_secs (l : List (Nat × Nat)) : secsL (inL l) = incV (secsL l) := by
  rw [in_eq]
  unfold incV
  have : ∀ is : List Nat, (∀ k ∈ is, k < l.length) → secsL (is.filterMap fun k => l[k]?) = is.map fun k => (secsL l).getD k 0 := by
    intro is
    induction is with
    | nil => intro _; rfl
    | cons i is ih =>
      intro h
      have hi := h i (List.mem_cons_self ..)
      rw [List.filterMap_cons, List.getElem?_eq_getElem hi, List.map_cons]
      simp only [secsL, List.map_cons] at ih ⊢
      rw [ih fun k hk => h k (List.mem_cons_of_mem _ hk)]
      simp [List.getElem?_eq_getElem hi]
  exact this _ fun k hk => by rw [← secs_len l]; exact incF_lt hk
theorem in_sub (l : List (Nat × Nat)) : (inL l).Sublist l := selF_sub l 0
theorem in_asc2 (l : List (Nat × Nat)) : (inL l).Pairwise fun p q => p.2 < q.2 := by
  have := incV_asc (secsL l)
  rw [← in_secs] at this
  exact (List.pairwise_map.1 this).imp fun h => by omega
theorem in_out (l : List (Nat × Nat)) : (inL l ++ outL l).Perm l := selF_both l 0
theorem in_out_len (l : List (Nat × Nat)) : (inL l).length + (outL l).length = l.length := selF_len l 0
theorem inc_all_iff (l : List Int) : (incF l).length = l.length ↔ l.Pairwise (· < ·) := by
  constructor
  · intro h
    have := (incV_sub l).eq_of_length (by simp [incV, h])
    rw [← this]
    exact incV_asc l
  · intro h
    have h1 := incF_most (List.Sublist.refl l) h
    have h2 := (incV_sub l).length_le
    simp [incV] at h2
    omega
/-- no block exactly if the second indices ascend -/
theorem out_nil_iff (l : List (Nat × Nat)) : outL l = [] ↔ l.Pairwise fun p q => p.2 < q.2 := by
  have h1 := in_out_len l
  have h2 := in_len l
  have h3 := inc_all_iff (secsL l)
  rw [secs_len] at h3
  have h4 : (secsL l).Pairwise (· < ·) ↔ l.Pairwise fun p q => p.2 < q.2 := by
    unfold secsL
    rw [List.pairwise_map]
    constructor <;> exact fun h => h.imp fun h => by omega
  rw [← h4, ← h3]
  constructor
  · intro h; rw [h] at h1; simp at h1; omega
  · intro h; exact List.eq_nil_of_length_eq_zero (by omega)
/-- a block -/
structure Blk where
  fst : Int
  snd : Int
  len : Int
def blkG (c : Blk) : List (Nat × Nat) → List Blk
  | [] => [c]
  | p :: r => if (p.1 : Int) = c.fst + c.len ∧ (p.2 : Int) = c.snd + c.len then blkG ⟨c.fst, c.snd, c.len + 1⟩ r else c :: blkG ⟨p.1, p.2, 1⟩ r
def blkF : List (Nat × Nat) → List Blk
  | [] => []
  | p :: r => blkG ⟨p.1, p.2, 1⟩ r
/-- the pairs of a block -/
def expB (c : Blk) : List (Int × Int) := (List.range c.len.toNat).map fun t : Nat => (c.fst + (t : Int), c.snd + (t : Int))
def pairI (p : Nat × Nat) : Int × Int := (p.1, p.2)
theorem expB_succ (c : Blk) (h : 0 ≤ c.len) : expB ⟨c.fst, c.snd, c.len + 1⟩ = expB c ++ [(c.fst + c.len, c.snd + c.len)] := by
  unfold expB
  obtain ⟨n, hn⟩ := Int.eq_ofNat_of_zero_le h
  simp only [hn]
  rw [show ((n : Int) + 1).toNat = n + 1 by omega, show ((n : Int)).toNat = n by omega, List.range_succ, List.map_append]
  rfl
theorem blkG_exp : ∀ (l : List (Nat × Nat)) (c : Blk), 0 ≤ c.len → (blkG c l).flatMap expB = expB c ++ l.map pairI
  | [], c, _ => by simp [blkG]
  | p :: r, c, h => by
    unfold blkG
    split
    · rename_i hp
      rw [blkG_exp r _ (by simp only; omega), expB_succ c h, ← hp.1, ← hp.2]
      simp [pairI]
    · rw [List.flatMap_cons, blkG_exp r _ (by simp only; omega)]
      simp [expB, pairI]
theorem blkF_exp (l : List (Nat × Nat)) : (blkF l).flatMap expB = l.map pairI := by
  cases l with
  | nil => rfl
  | cons p r =>
    unfold blkF
    rw [blkG_exp r _ (by simp only; omega)]
    simp [expB, pairI]
theorem blkG_ne (c : Blk) (l : List (Nat × Nat)) : ∃ d r, blkG c l = d :: r ∧ d.fst = c.fst ∧ d.snd = c.snd ∧ c.len ≤ d.len := by
  induction l generalizing c with
  | nil => exact ⟨c, [], rfl, rfl, rfl, Int.le_refl _⟩
  | cons p r ih =>
    unfold blkG
    split
    · obtain ⟨d, q, h, h1, h2, h3⟩ := ih ⟨c.fst, c.snd, c.len + 1⟩
      exact ⟨d, q, h, h1, h2, by simp only at h3; omega⟩
    · exact ⟨c, _, rfl, rfl, rfl, Int.le_refl _⟩
theorem blkF_nil_iff (l : List (Nat × Nat)) : blkF l = [] ↔ l = [] := by
  cases l with
  | nil => simp [blkF]
  | cons p r =>
    obtain ⟨d, q, h, _⟩ := blkG_ne ⟨p.1, p.2, 1⟩ r
    simp [blkF, h]
theorem blkG_len : ∀ (l : List (Nat × Nat)) (c : Blk), 1 ≤ c.len → ∀ d ∈ blkG c l, 1 ≤ d.len ∧ d.len ≤ c.len + l.length
  | [], c, h => fun d hd => by
    obtain rfl : d = c := by simpa [blkG] using hd
    exact ⟨h, by simp⟩
  | p :: r, c, h => by
    unfold blkG
    split
    · intro d hd
      have := blkG_len r _ (by simp only; omega) d hd
      simp only [List.length_cons] at this ⊢
      exact ⟨this.1, by omega⟩
    · intro d hd
      rcases List.mem_cons.1 hd with rfl | hd
      · exact ⟨h, by simp only [List.length_cons]; omega⟩
      · have := blkG_len r _ (by simp only; omega) d hd
        simp only [List.length_cons] at this ⊢
        exact ⟨this.1, by omega⟩
theorem blkF_len {l : List (Nat × Nat)} {d : Blk} (h : d ∈ blkF l) : 1 ≤ d.len ∧ d.len ≤ l.length := by
  cases l with
  | nil => simp [blkF] at h
  | cons p r =>
    have := blkG_len r _ (by simp only; omega) d h
    simp only [List.length_cons] at this ⊢
    exact ⟨this.1, by omega⟩
/-- a block and the next one -/
def ApartB (c d : Blk) : Prop := c.fst + c.len ≤ d.fst ∧ ¬ (d.fst = c.fst + c.len ∧ d.snd = c.snd + c.len)
theorem blkG_count (l : List (Nat × Nat)) : ∀ c : Blk, (blkG c l).length ≤ l.length + 1 := by
  induction l with
  | nil => intro c; simp [blkG]
  | cons p r ih =>
    intro c
    unfold blkG
    split
    · have := ih ⟨c.fst, c.snd, c.len + 1⟩; simp only [List.length_cons]; omega
    · have := ih ⟨p.1, p.2, 1⟩; simp only [List.length_cons]; omega
theorem blkF_count (l : List (Nat × Nat)) : (blkF l).length ≤ l.length := by
  cases l with
  | nil => simp [blkF]
  | cons p r => exact blkG_count r _
theorem blkG_next : ∀ (l : List (Nat × Nat)) (c : Blk), 1 ≤ c.len → (∀ p ∈ l, c.fst + c.len ≤ p.1) → (l.Pairwise fun p q => p.1 < q.1) → ∀ (i : Nat) (d e : Blk), (blkG c l)[i]? = some d → (blkG c l)[i + 1]? = some e → ApartB d e
  | [], c, _, _, _, i, d, e, _, h2 => by simp [blkG] at h2
  | p :: r, c, hc, hl, hp, i, d, e, h1, h2 => by
    obtain ⟨hp1, hp2⟩ := List.pairwise_cons.1 hp
    unfold blkG at h1 h2
    split at h1
    · rename_i hj
      rw [if_pos hj] at h2
      exact blkG_next r ⟨c.fst, c.snd, c.len + 1⟩ (show 1 ≤ c.len + 1 by omega) (fun q hq => by have := hp1 q hq; show c.fst + (c.len + 1) ≤ q.1; omega) hp2 i d e h1 h2
    · rename_i hj
      rw [if_neg hj] at h2
      cases i with
      | zero =>
        simp only [List.getElem?_cons_zero, Option.some.injEq, Nat.zero_add, List.getElem?_cons_succ] at h1 h2
        subst h1
        obtain ⟨d', q, g, g1, g2, _⟩ := blkG_ne ⟨p.1, p.2, 1⟩ r
        rw [g] at h2
        simp only [List.getElem?_cons_zero, Option.some.injEq] at h2
        subst h2
        refine ⟨by rw [g1]; exact hl p (List.mem_cons_self ..), fun h => hj ?_⟩
        rw [g1, g2] at h
        exact h
      | succ i =>
        refine blkG_next r ⟨p.1, p.2, 1⟩ (Int.le_refl 1) (fun q hq => by have := hp1 q hq; show (p.1 : Int) + 1 ≤ q.1; omega) hp2 i d e ?_ ?_
        · simpa using h1
        · simpa using h2
theorem blkF_next {l : List (Nat × Nat)} (hp : l.Pairwise fun p q => p.1 < q.1) {i : Nat} {d e : Blk} (h1 : (blkF l)[i]? = some d) (h2 : (blkF l)[i + 1]? = some e) : ApartB d e := by
  cases l with
  | nil => simp [blkF] at h1
  | cons p r =>
    obtain ⟨hp1, hp2⟩ := List.pairwise_cons.1 hp
    exact blkG_next r ⟨p.1, p.2, 1⟩ (Int.le_refl 1) (fun q hq => by have := hp1 q hq; show (p.1 : Int) + 1 ≤ q.1; omega) hp2 i d e h1 h2
end Go.Ap

/-
  Undoing, and the check of blocks: plain laws.
-/
namespace Go.Ap
/-- ascending numbers are their own sorted list; the place of a number is how many are smaller -/
def rankF (ks : List Nat) (k : Nat) : Nat := (ks.filter fun x => decide (x < k)).length
/-- the order in which the pairs stand as in the first source -/
def undoF (ks : List Nat) (n : Nat) : List Nat := (List.range n).map fun k => if k ∈ ks then ks.getD (rankF ks k) 0 else k
def sortN (ks : List Nat) : List Nat := ks.mergeSort fun x y => decide (x ≤ y)
theorem sortN_perm (ks : List Nat) : (sortN ks).Perm ks := List.mergeSort_perm _ _
theorem sortN_asc {ks : List Nat} (h : ks.Nodup) : (sortN ks).Pairwise (· < ·) := by
  have h0 := List.pairwise_mergeSort (le := fun (x y : Nat) => decide (x ≤ y)) (fun a b c => by simp; omega) (fun a b => by simp; omega) ks
  have h1 : (sortN ks).Nodup := (sortN_perm ks).nodup_iff.2 h
  exact (h0.and h1).imp fun ⟨h2, h3⟩ => by simp at h2; omega
theorem rank_of {ks ps : List Nat} (hp : ps.Perm ks) (ha : ps.Pairwise (· < ·)) {j p : Nat} (h : ps[j]? = some p) : rankF ks p = j := by
  unfold rankF
  rw [← (hp.filter _).length_eq]
  clear hp
  induction ps generalizing j with
  | nil => simp at h
  | cons q ps ih =>
    obtain ⟨h1, h2⟩ := List.pairwise_cons.1 ha
    cases j with
    | zero =>
      simp only [List.getElem?_cons_zero, Option.some.injEq] at h
      subst h
      rw [List.filter_cons, if_neg (by simp), List.length_eq_zero_iff, List.filter_eq_nil_iff]
      intro x hx
      have := h1 x hx
      simp
      omega
    | succ j =>
      have hp := List.mem_of_getElem? (by simpa using h : ps[j]? = some p)
      rw [List.filter_cons, if_pos (by simpa using h1 p hp), List.length_cons, ih h2 (by simpa using h)]
theorem undo_len (ks : List Nat) (n : Nat) : (undoF ks n).length = n := by simp [undoF]
theorem undo_free {ks : List Nat} {n k : Nat} (hk : k < n) (h : k ∉ ks) : (undoF ks n)[k]? = some k := by
  unfold undoF
  rw [List.getElem?_map, List.getElem?_range hk]
  simp [h]
theorem undo_at {ks : List Nat} (hn : ks.Nodup) {n j p : Nat} (hp : p < n) (h : (sortN ks)[j]? = some p) : (undoF ks n)[p]? = ks[j]? := by
  have hm : p ∈ ks := (sortN_perm ks).mem_iff.1 (List.mem_of_getElem? h)
  have hj : j < ks.length := by rw [← (sortN_perm ks).length_eq]; exact (List.getElem?_eq_some_iff.1 h).1
  unfold undoF
  rw [List.getElem?_map, List.getElem?_range hp]
  simp only [Option.map_some, if_pos hm]
  rw [rank_of (sortN_perm ks) (sortN_asc hn) h, List.getElem?_eq_getElem hj]
  simp [hj]
/-- while the places are written -/
def undoS (ks : List Nat) (n j : Nat) : List Nat := (List.range n).map fun k => if k ∈ (sortN ks).take j then ks.getD (rankF ks k) 0 else k
theorem undoS_zero (ks : List Nat) (n : Nat) : undoS ks n 0 = List.range n := by simp [undoS]
theorem undoS_end (ks : List Nat) (n : Nat) : undoS ks n ks.length = undoF ks n := by
  unfold undoS undoF
  have e : (sortN ks).take ks.length = sortN ks := List.take_of_length_le (by rw [(sortN_perm ks).length_eq]; exact Nat.le_refl _)
  rw [e]
  exact List.map_congr_left fun k _ => by simp only [(sortN_perm ks).mem_iff]
theorem undoS_succ {ks : List Nat} (hn : ks.Nodup) {n j p x : Nat} (h : (sortN ks)[j]? = some p) (hx : ks[j]? = some x) : (undoS ks n j).set p x = undoS ks n (j + 1) := by
  apply List.ext_getElem
  · simp [undoS]
  · intro k h1 h2
    have hk : k < n := by simpa [undoS] using h2
    simp only [List.getElem_set, undoS, List.getElem_map, List.getElem_range, List.take_add_one, h, Option.toList_some, List.mem_append, List.mem_singleton]
    by_cases hkp : p = k
    · subst hkp
      rw [if_pos rfl, if_pos (.inr rfl), rank_of (sortN_perm ks) (sortN_asc hn) h]
      simp [hx]
    · rw [if_neg hkp]
      have : (k ∈ (sortN ks).take j ∨ k = p) ↔ k ∈ (sortN ks).take j := by
        constructor
        · rintro (h | h)
          · exact h
          · exact absurd h.symm hkp
        · exact .inl
      simp only [this]
/-- how many of the first k are paired -/
theorem rank_succ (ks : List Nat) (hn : ks.Nodup) (k : Nat) : rankF ks (k + 1) = rankF ks k + if k ∈ ks then 1 else 0 := by
  unfold rankF
  induction ks with
  | nil => rfl
  | cons x xs ih =>
    obtain ⟨h1, h2⟩ := List.nodup_cons.1 hn
    have := ih h2
    by_cases hx : x = k
    · subst hx
      have h3 : ¬ (x ∈ xs) := h1
      rw [if_neg h3] at this
      simp only [List.filter_cons, List.mem_cons, true_or, if_true]
      rw [if_pos (by simp), if_neg (by simp), List.length_cons]
      omega
    · have hkx : (k ∈ x :: xs) ↔ k ∈ xs := ⟨fun h => (List.mem_cons.1 h).resolve_left fun e => hx e.symm, List.mem_cons_of_mem _⟩
      simp only [hkx]
      by_cases hlt : x < k
      · rw [List.filter_cons, if_pos (by simp; omega), List.filter_cons, if_pos (by simpa using hlt)]
        simp only [List.length_cons]
        omega
      · rw [List.filter_cons, if_neg (by simp; omega), List.filter_cons, if_neg (by simpa using hlt)]
        exact this
theorem rank_zero (ks : List Nat) : rankF ks 0 = 0 := by simp [rankF]
theorem rank_le (ks : List Nat) (k : Nat) : rankF ks k ≤ ks.length := List.length_filter_le _ _
theorem rank_lt {ks : List Nat} {k : Nat} (h : k ∈ ks) : rankF ks k < ks.length := by
  unfold rankF
  induction ks with
  | nil => simp at h
  | cons x xs ih =>
    rcases List.mem_cons.1 h with rfl | h
    · rw [List.filter_cons, if_neg (by simp)]
      have := List.length_filter_le (fun y => decide (y < k)) xs
      simp only [List.length_cons]
      omega
    · have := ih h
      rw [List.filter_cons]
      split <;> simp only [List.length_cons] <;> omega
theorem undo_take (ks : List Nat) {n k : Nat} (hk : k < n) : (undoF ks n).take (k + 1) = (undoF ks n).take k ++ [if k ∈ ks then ks.getD (rankF ks k) 0 else k] := by
  rw [List.take_add_one]
  congr 1
  unfold undoF
  rw [List.getElem?_map, List.getElem?_range hk]
  rfl
end Go.Ap

/-
  The check of blocks: plain laws.
-/
namespace Go.Ap
def fstsB (c : Blk) : List Int := (List.range c.len.toNat).map fun t : Nat => c.fst + (t : Int)
def sndsB (c : Blk) : List Int := (List.range c.len.toNat).map fun t : Nat => c.snd + (t : Int)
def badR (na nb : Int) (x : Blk) : Bool := decide (x.len < 1 ∨ x.fst < 0 ∨ x.snd < 0 ∨ na < x.fst ∨ nb < x.snd ∨ na - x.fst < x.len ∨ nb - x.snd < x.len)
def allI (l : List (Nat × Nat)) : List (Int × Int) := l.map pairI
/-- why one block is not right -/
def blkE (na nb : Int) (all : List (Int × Int)) (tk : List Int) (e : Int) (x : Blk) : Int :=
  if badR na nb x then 2 else if x.fst < e then 10 else if (sndsB x).any (fun s => tk.contains s) then 7 else if (expB x).all (fun p => all.contains p) then 0 else 9
def blksE (na nb : Int) (all : List (Int × Int)) : List Int → List Int → Int → List Blk → Int × List Int
  | ins, _, _, [] => (0, ins)
  | ins, tk, e, x :: r => if blkE na nb all tk e x = 0 then blksE na nb all (ins ++ fstsB x) (tk ++ sndsB x) (x.fst + x.len) r else (blkE na nb all tk e x, ins)
/-- why the pairs beside the blocks are not in order -/
def ordE (ins : List Int) : Int → List (Int × Int) → Int
  | _, [] => 0
  | last, p :: r => if ins.contains p.1 then ordE ins last r else if p.2 < last then 17 else ordE ins p.2 r
def chkB (na nb : Int) (all : List (Int × Int)) (l : List Blk) : Int :=
  if (blksE na nb all [] [] 0 l).1 = 0 then ordE (blksE na nb all [] [] 0 l).2 (-1) all else (blksE na nb all [] [] 0 l).1
theorem blkE_zero {na nb : Int} {all : List (Int × Int)} {tk : List Int} {e : Int} {x : Blk} (h1 : badR na nb x = false) (h2 : e ≤ x.fst) (h3 : ∀ s ∈ sndsB x, s ∉ tk) (h4 : ∀ p ∈ expB x, p ∈ all) : blkE na nb all tk e x = 0 := by
  unfold blkE
  rw [h1, if_neg (by simp), if_neg (by omega), if_neg, if_pos]
  · simpa using h4
  · simp only [List.any_eq_true, not_exists, not_and]
    intro s hs
    simpa using h3 s hs
structure GoodB (na nb : Int) (all : List (Int × Int)) (l : List Blk) : Prop where
  fit : ∀ x ∈ l, badR na nb x = false
  asc : l.Pairwise fun c d => c.fst + c.len ≤ d.fst
  dif : l.Pairwise fun c d => ∀ s ∈ sndsB d, s ∉ sndsB c
  mem : ∀ x ∈ l, ∀ p ∈ expB x, p ∈ all
theorem GoodB.sub {na nb : Int} {all : List (Int × Int)} {l l' : List Blk} (h : GoodB na nb all l) (hs : l'.Sublist l) : GoodB na nb all l' :=
  ⟨fun x hx => h.fit x (hs.subset hx), h.asc.sublist hs, h.dif.sublist hs, fun x hx => h.mem x (hs.subset hx)⟩
theorem blksE_good {na nb : Int} {all : List (Int × Int)} : ∀ {l : List Blk} {ins tk : List Int} {e : Int}, GoodB na nb all l → (∀ x ∈ l, e ≤ x.fst) → (∀ x ∈ l, ∀ s ∈ sndsB x, s ∉ tk) → blksE na nb all ins tk e l = (0, ins ++ l.flatMap fstsB)
  | [], ins, tk, e, _, _, _ => by simp [blksE]
  | x :: r, ins, tk, e, h, h1, h2 => by
    obtain ⟨a1, a2⟩ := List.pairwise_cons.1 h.asc
    obtain ⟨d1, d2⟩ := List.pairwise_cons.1 h.dif
    have hx := List.mem_cons_self (a := x) (l := r)
    unfold blksE
    rw [if_pos (blkE_zero (h.fit x hx) (h1 x hx) (h2 x hx) (h.mem x hx))]
    rw [blksE_good (h.sub (List.sublist_cons_self x r)) (fun y hy => a1 y hy) (fun y hy s hs => ?_), List.flatMap_cons, List.append_assoc]
    rw [List.mem_append]
    rintro (h' | h')
    · exact h2 y (List.mem_cons_of_mem _ hy) s hs h'
    · exact d1 y hy s hs h'
/-- what is left beside the blocks -/
def restI (ins : List Int) (all : List (Int × Int)) : List (Int × Int) := all.filter fun p => !ins.contains p.1
theorem ordE_cases (ins : List Int) : ∀ (all : List (Int × Int)) (last : Int), (ordE ins last all = 0 ∧ (last :: (restI ins all).map (·.2)).Pairwise (· ≤ ·)) ∨ (ordE ins last all = 17 ∧ ¬ (last :: (restI ins all).map (·.2)).Pairwise (· ≤ ·))
  | [], last => .inl ⟨rfl, by simp [restI]⟩
  | p :: r, last => by
    unfold ordE
    by_cases h : ins.contains p.1 = true
    · rw [if_pos h]
      have : restI ins (p :: r) = restI ins r := by unfold restI; rw [List.filter_cons, if_neg (by simpa using h)]
      rw [this]
      exact ordE_cases ins r last
    · rw [if_neg h]
      have : restI ins (p :: r) = p :: restI ins r := by unfold restI; rw [List.filter_cons, if_pos (by simpa using h)]
      rw [this]
      by_cases hl : p.2 < last
      · rw [if_pos hl]
        refine .inr ⟨rfl, fun hp => ?_⟩
        have := (List.pairwise_cons.1 hp).1 p.2 (by simp)
        omega
      · rw [if_neg hl]
        rcases ordE_cases ins r p.2 with ⟨h1, h2⟩ | ⟨h1, h2⟩
        · refine .inl ⟨h1, List.pairwise_cons.2 ⟨fun q hq => ?_, h2⟩⟩
          rw [List.map_cons] at hq
          rcases List.mem_cons.1 hq with rfl | hq
          · omega
          · have := (List.pairwise_cons.1 h2).1 q hq
            omega
        · exact .inr ⟨h1, fun hp => h2 (List.pairwise_cons.1 hp).2⟩
theorem mem_expB {c : Blk} {p : Int × Int} : p ∈ expB c ↔ ∃ t : Nat, (t : Int) < c.len ∧ p = (c.fst + t, c.snd + t) := by
  unfold expB
  rw [List.mem_map]
  constructor
  · rintro ⟨t, ht, rfl⟩; exact ⟨t, by have := List.mem_range.1 ht; omega, rfl⟩
  · rintro ⟨t, ht, rfl⟩; exact ⟨t, List.mem_range.2 (by omega), rfl⟩
theorem fsts_exp (c : Blk) : fstsB c = (expB c).map (·.1) := by unfold fstsB expB; rw [List.map_map]; rfl
theorem snds_exp (c : Blk) : sndsB c = (expB c).map (·.2) := by unfold sndsB expB; rw [List.map_map]; rfl
section
variable {a b : List (Option Str)}
theorem out_sub (l : List (Nat × Nat)) : (outL l).Sublist l := selF_sub l 0
theorem flat_fsts (l : List (Nat × Nat)) : (blkF l).flatMap fstsB = l.map fun p => ((p.1 : Nat) : Int) := by
  have := congrArg (List.map (·.1)) (blkF_exp l)
  rw [List.map_flatMap, List.map_map] at this
  rw [show fstsB = fun c => (expB c).map (·.1) from funext fsts_exp, this]
  rfl
theorem flat_snds (l : List (Nat × Nat)) : (blkF l).flatMap sndsB = secsL l := by
  have := congrArg (List.map (·.2)) (blkF_exp l)
  rw [List.map_flatMap, List.map_map] at this
  rw [show sndsB = fun c => (expB c).map (·.2) from funext snds_exp, this]
  rfl
theorem blkG_asc : ∀ (l : List (Nat × Nat)) (c : Blk), 1 ≤ c.len → (∀ p ∈ l, c.fst + c.len ≤ p.1) → (l.Pairwise fun p q => p.1 < q.1) → (blkG c l).Pairwise fun c d => c.fst + c.len ≤ d.fst := by
  intro l
  have low : ∀ (l : List (Nat × Nat)) (c : Blk) (z : Int), z ≤ c.fst → (∀ p ∈ l, z ≤ p.1) → ∀ d ∈ blkG c l, z ≤ d.fst := by
    intro l
    induction l with
    | nil =>
      intro c z hz _ d hd
      have hd : d = c := by simpa [blkG] using hd
      rw [hd]
      exact hz
    | cons p r ih =>
      intro c z hz hl d hd
      unfold blkG at hd
      split at hd
      · exact ih ⟨c.fst, c.snd, c.len + 1⟩ z hz (fun q hq => hl q (List.mem_cons_of_mem _ hq)) d hd
      · rcases List.mem_cons.1 hd with rfl | hd
        · exact hz
        · exact ih ⟨p.1, p.2, 1⟩ z (hl p (List.mem_cons_self ..)) (fun q hq => hl q (List.mem_cons_of_mem _ hq)) d hd
  induction l with
  | nil => intro c _ _ _; simp [blkG]
  | cons p r ih =>
    intro c hc hl hp
    obtain ⟨hp1, hp2⟩ := List.pairwise_cons.1 hp
    unfold blkG
    split
    · exact ih ⟨c.fst, c.snd, c.len + 1⟩ (show 1 ≤ c.len + 1 by omega) (fun q hq => by have := hp1 q hq; have := hl p (List.mem_cons_self ..); show c.fst + (c.len + 1) ≤ q.1; omega) hp2
    · refine List.pairwise_cons.2 ⟨fun d hd => ?_, ih ⟨p.1, p.2, 1⟩ (Int.le_refl 1) (fun q hq => by have := hp1 q hq; show (p.1 : Int) + 1 ≤ q.1; omega) hp2⟩
      exact low r ⟨p.1, p.2, 1⟩ _ (hl p (List.mem_cons_self ..)) (fun q hq => hl q (List.mem_cons_of_mem _ hq)) d hd
theorem blkF_asc {l : List (Nat × Nat)} (hp : l.Pairwise fun p q => p.1 < q.1) : (blkF l).Pairwise fun c d => c.fst + c.len ≤ d.fst := by
  cases l with
  | nil => simp [blkF]
  | cons p r =>
    obtain ⟨hp1, hp2⟩ := List.pairwise_cons.1 hp
    exact blkG_asc r ⟨p.1, p.2, 1⟩ (Int.le_refl 1) (fun q hq => by have := hp1 q hq; show (p.1 : Int) + 1 ≤ q.1; omega) hp2
theorem pairwise_flat {α β : Type} {f : α → List β} : ∀ {l : List α}, (l.flatMap f).Nodup → l.Pairwise fun c d => ∀ s ∈ f d, s ∉ f c
  | [], _ => .nil
  | c :: r, h => by
    rw [List.flatMap_cons, List.nodup_append] at h
    refine List.pairwise_cons.2 ⟨fun d hd s hs hc => ?_, pairwise_flat h.2.1⟩
    exact h.2.2 s hc s (List.mem_flatMap.2 ⟨d, hd, hs⟩) rfl
theorem secs_nodup (a b : List (Option Str)) : (secsL (pairsL a b)).Nodup := by
  unfold secsL
  refine List.pairwise_map.2 ((pairs_nodup a b).imp_of_mem fun {p q} hp hq h e => h ?_)
  obtain ⟨p1, p2⟩ := p
  obtain ⟨q1, q2⟩ := q
  have e2 : p2 = q2 := Int.ofNat.inj e
  subst e2
  rw [pair_one' hp hq]
theorem out_asc (a b : List (Option Str)) : (outL (pairsL a b)).Pairwise fun p q => p.1 < q.1 := (pairs_asc a b).sublist (out_sub _)
/-- the blocks of two sources are right one by one -/
theorem good_blocks (a b : List (Option Str)) : GoodB a.length b.length (allI (pairsL a b)) (blkF (outL (pairsL a b))) := by
  have hexp := blkF_exp (outL (pairsL a b))
  have hin : ∀ x ∈ blkF (outL (pairsL a b)), ∀ p ∈ expB x, ∃ q ∈ pairsL a b, p = pairI q := fun x hx p hp => by
    have : p ∈ (blkF (outL (pairsL a b))).flatMap expB := List.mem_flatMap.2 ⟨x, hx, hp⟩
    rw [hexp] at this
    obtain ⟨q, hq, rfl⟩ := List.mem_map.1 this
    exact ⟨q, (out_sub _).subset hq, rfl⟩
  refine ⟨fun x hx => ?_, blkF_asc (out_asc a b), pairwise_flat (f := sndsB) ?_, fun x hx p hp => ?_⟩
  · have hl := (blkF_len hx).1
    obtain ⟨q0, h0, e0⟩ := hin x hx (x.fst + ((0 : Nat) : Int), x.snd + ((0 : Nat) : Int)) (mem_expB.2 ⟨0, by omega, rfl⟩)
    obtain ⟨q1, h1, e1⟩ := hin x hx (x.fst + ((x.len.toNat - 1 : Nat) : Int), x.snd + ((x.len.toNat - 1 : Nat) : Int)) (mem_expB.2 ⟨x.len.toNat - 1, by omega, rfl⟩)
    have l1 := pair_lt (show (q1.1, q1.2) ∈ pairsL a b from h1)
    simp only [pairI, Prod.mk.injEq] at e0 e1
    unfold badR
    rw [decide_eq_false_iff_not]
    omega
  · rw [flat_snds]
    exact (secs_nodup a b).sublist ((out_sub _).map _)
  · obtain ⟨q, hq, rfl⟩ := hin x hx p hp
    exact List.mem_map.2 ⟨q, hq, rfl⟩
/-- the pairs that are left beside some blocks -/
theorem chk_good {na nb : Int} {l : List (Nat × Nat)} {x : List Blk} (h : GoodB na nb (allI l) x) : chkB na nb (allI l) x = ordE (x.flatMap fstsB) (-1) (allI l) := by
  have e := blksE_good (ins := []) (tk := []) (e := 0) h (fun y hy => by
    have := h.fit y hy
    unfold badR at this
    rw [decide_eq_false_iff_not] at this
    omega) (fun y _ s _ => by simp)
  unfold chkB
  rw [e]
  simp
theorem rest_eq (l : List (Nat × Nat)) (ins : List Int) : restI ins (allI l) = allI (l.filter fun p => !ins.contains ((p.1 : Nat) : Int)) := by
  unfold restI allI
  rw [List.filter_map]
  rfl
theorem rest_ord {l : List (Nat × Nat)} {ins : List Int} : (((-1 : Int)) :: (restI ins (allI l)).map (·.2)).Pairwise (· ≤ ·) ↔ (l.filter fun p => !ins.contains ((p.1 : Nat) : Int)).Pairwise fun p q => p.2 ≤ q.2 := by
  rw [rest_eq, List.pairwise_cons]
  unfold allI
  rw [List.map_map, List.pairwise_map]
  constructor
  · rintro ⟨_, h⟩
    exact h.imp fun h => by simp only [Function.comp, pairI] at h; omega
  · intro h
    refine ⟨fun z hz => ?_, h.imp fun h => by simp only [Function.comp, pairI]; omega⟩
    obtain ⟨p, _, rfl⟩ := List.mem_map.1 hz
    simp only [Function.comp, pairI]
    omega
theorem mem_one {l : List (Nat × Nat)} (hn : l.Pairwise fun p q => p.1 < q.1) {p q : Nat × Nat} (hp : p ∈ l) (hq : q ∈ l) (h : p.1 = q.1) : p = q := by
  obtain ⟨i, hi⟩ := List.getElem?_of_mem hp
  obtain ⟨j, hj⟩ := List.getElem?_of_mem hq
  obtain ⟨hi1, hi2⟩ := List.getElem?_eq_some_iff.1 hi
  obtain ⟨hj1, hj2⟩ := List.getElem?_eq_some_iff.1 hj
  have hp := List.pairwise_iff_getElem.1 hn
  rcases Nat.lt_trichotomy i j with hij | hij | hij
  · have := hp i j hi1 hj1 hij; rw [hi2, hj2] at this; omega
  · subst hij; rw [← hi2, hj2]
  · have := hp j i hj1 hi1 hij; rw [hi2, hj2] at this; omega
theorem filter_in {l : List (Nat × Nat)} (hn : l.Pairwise fun p q => p.1 < q.1) : (l.filter fun p => !((outL l).map fun p => ((p.1 : Nat) : Int)).contains ((p.1 : Nat) : Int)) = inL l := by
  have hnd : l.Nodup := hn.imp fun h e => by subst e; omega
  have hpm := in_out l
  have hnd2 : (inL l ++ outL l).Nodup := hpm.nodup_iff.2 hnd
  have hdis := (List.nodup_append.1 hnd2).2.2
  have hmem : ∀ p, p ∈ (l.filter fun p => !((outL l).map fun p => ((p.1 : Nat) : Int)).contains ((p.1 : Nat) : Int)) ↔ p ∈ inL l := fun p => by
    rw [List.mem_filter]
    have hc : ((outL l).map fun p => ((p.1 : Nat) : Int)).contains ((p.1 : Nat) : Int) = true ↔ ∃ q ∈ outL l, q.1 = p.1 := by
      rw [List.contains_iff_mem, List.mem_map]
      constructor
      · rintro ⟨q, hq, e⟩; exact ⟨q, hq, by omega⟩
      · rintro ⟨q, hq, e⟩; exact ⟨q, hq, by omega⟩
    constructor
    · rintro ⟨hp, hno⟩
      rcases List.mem_append.1 (hpm.mem_iff.2 hp) with h | h
      · exact h
      · rw [hc.2 ⟨p, h, rfl⟩] at hno; cases hno
    · intro hp
      refine ⟨(in_sub l).subset hp, ?_⟩
      rw [Bool.not_eq_true', Bool.eq_false_iff]
      intro h
      obtain ⟨q, hq, e⟩ := hc.1 h
      have := mem_one hn ((out_sub l).subset hq) ((in_sub l).subset hp) e
      subst this
      exact hdis q hp q hq rfl
  have s1 : (l.filter fun p => !((outL l).map fun p => ((p.1 : Nat) : Int)).contains ((p.1 : Nat) : Int)).Pairwise fun p q => p.1 < q.1 := hn.filter _
  have s2 : (inL l).Pairwise fun p q => p.1 < q.1 := hn.sublist (in_sub l)
  exact ((List.perm_ext_iff_of_nodup (s1.imp fun h e => by subst e; omega) (s2.imp fun h e => by subst e; omega)).2 hmem).eq_of_pairwise (fun p q _ _ h1 h2 => by omega) s1 s2
/-- the blocks are accepted -/
theorem chk_blocks (a b : List (Option Str)) : chkB a.length b.length (allI (pairsL a b)) (blkF (outL (pairsL a b))) = 0 := by
  rw [chk_good (good_blocks a b), flat_fsts]
  rcases ordE_cases ((outL (pairsL a b)).map fun p => ((p.1 : Nat) : Int)) (allI (pairsL a b)) (-1) with ⟨h, _⟩ | ⟨_, h⟩
  · exact h
  · exfalso
    refine h (rest_ord.2 ?_)
    rw [filter_in (pairs_asc a b)]
    exact (in_asc2 _).imp fun h => by omega
/-- without one of them they are not -/
theorem chk_less (a b : List (Option Str)) (i : Nat) (hi : i < (blkF (outL (pairsL a b))).length) : chkB a.length b.length (allI (pairsL a b)) ((blkF (outL (pairsL a b))).eraseIdx i) = 17 := by
  obtain ⟨x, hx⟩ : ∃ x, blkF (outL (pairsL a b)) = x := ⟨_, rfl⟩
  obtain ⟨l, hl⟩ : ∃ l, pairsL a b = l := ⟨_, rfl⟩
  have hg := good_blocks a b
  have hn := pairs_asc a b
  have hs := secs_nodup a b
  have hfs := flat_fsts (outL (pairsL a b))
  have hlen := fun d hd => (blkF_len (l := outL (pairsL a b)) (d := d) hd).1
  rw [hx] at hi hg hfs hlen ⊢
  rw [hl] at hg hn hs hfs ⊢
  rw [chk_good (hg.sub (List.eraseIdx_sublist x i))]
  rcases ordE_cases ((x.eraseIdx i).flatMap fstsB) (allI l) (-1) with ⟨_, h⟩ | ⟨h, _⟩
  · exfalso
    have hp := rest_ord.1 h
    obtain ⟨R, hR⟩ : ∃ R, (l.filter fun p => !((x.eraseIdx i).flatMap fstsB).contains ((p.1 : Nat) : Int)) = R := ⟨_, rfl⟩
    rw [hR] at hp
    have hRs : R.Sublist l := by rw [← hR]; exact List.filter_sublist
    -- strictly ascending
    have hst : (secsL R).Pairwise (· < ·) := by
      have hnd : (secsL R).Nodup := hs.sublist (hRs.map _)
      unfold secsL at hnd ⊢
      rw [List.pairwise_map]
      have := List.pairwise_map.1 hnd
      exact (hp.and this).imp fun ⟨h1, h2⟩ => by omega
    have hmost := incF_most (l := secsL l) (ys := secsL R) (show (secsL R).Sublist (secsL l) from hRs.map (fun p : Nat × Nat => ((p.2 : Nat) : Int))) hst
    rw [← in_len, secs_len] at hmost
    -- it holds the chain and one pair more
    obtain ⟨c, hc⟩ : ∃ c, x[i] = c := ⟨_, rfl⟩
    have hcx : c ∈ x := by rw [← hc]; exact List.getElem_mem _
    have hfstc : c.fst ∈ x.flatMap fstsB := List.mem_flatMap.2 ⟨c, hcx, by rw [fsts_exp]; exact List.mem_map.2 ⟨(c.fst + ((0 : Nat) : Int), c.snd + ((0 : Nat) : Int)), mem_expB.2 ⟨0, by have := hlen c hcx; omega, rfl⟩, by simp⟩⟩
    rw [hfs] at hfstc
    obtain ⟨p, hpo, hpf⟩ := List.mem_map.1 hfstc
    have hfnd : (x.flatMap fstsB).Nodup := by
      rw [hfs]
      exact List.pairwise_map.2 ((hn.sublist (out_sub l)).imp fun h e => by omega)
    have hsplit : x = x.take i ++ c :: x.drop (i + 1) := by rw [← hc]; simp
    have her : x.eraseIdx i = x.take i ++ x.drop (i + 1) := List.eraseIdx_eq_take_drop_succ ..
    have hno : c.fst ∉ (x.eraseIdx i).flatMap fstsB := by
      rw [hsplit, List.flatMap_append, List.flatMap_cons] at hfnd
      have hcf : c.fst ∈ fstsB c := by rw [fsts_exp]; exact List.mem_map.2 ⟨(c.fst + ((0 : Nat) : Int), c.snd + ((0 : Nat) : Int)), mem_expB.2 ⟨0, by have := hlen c hcx; omega, rfl⟩, by simp⟩
      obtain ⟨_, h2, h3⟩ := List.nodup_append.1 hfnd
      obtain ⟨_, _, h4⟩ := List.nodup_append.1 h2
      rw [her, List.flatMap_append, List.mem_append]
      rintro (h' | h')
      · exact h3 _ h' _ (List.mem_append_left _ hcf) rfl
      · exact h4 _ hcf _ h' rfl
    have hpl : p ∈ l := (out_sub l).subset hpo
    have hpR : p ∈ R := by
      rw [← hR, List.mem_filter]
      refine ⟨hpl, ?_⟩
      rw [Bool.not_eq_true', Bool.eq_false_iff]
      intro h'
      rw [List.contains_iff_mem, hpf] at h'
      exact hno h'
    have hinR : ∀ q ∈ inL l, q ∈ R := fun q hq => by
      have h1 := filter_in hn
      rw [← h1, List.mem_filter] at hq
      rw [← hR, List.mem_filter]
      refine ⟨hq.1, ?_⟩
      have h2 := hq.2
      rw [Bool.not_eq_true', Bool.eq_false_iff] at h2 ⊢
      intro h'
      apply h2
      rw [List.contains_iff_mem] at h' ⊢
      rw [← hfs]
      obtain ⟨d, hd, hdm⟩ := List.mem_flatMap.1 h'
      exact List.mem_flatMap.2 ⟨d, (List.eraseIdx_sublist x i).subset hd, hdm⟩
    have hnd : l.Nodup := hn.imp fun h e => by subst e; omega
    have hnd2 : (inL l ++ outL l).Nodup := (in_out l).nodup_iff.2 hnd
    have hpn : p ∉ inL l := fun hpi => (List.nodup_append.1 hnd2).2.2 p hpi p hpo rfl
    have h5 : (p :: inL l).Nodup := List.nodup_cons.2 ⟨hpn, (List.nodup_append.1 hnd2).1⟩
    have h6 := h5.length_le_of_subset (l₂ := R) fun q hq => by
      rcases List.mem_cons.1 hq with rfl | hq
      · exact hpR
      · exact hinR q hq
    simp only [List.length_cons] at h6
    omega
  · exact h
end
end Go.Ap

/-
  What the laws of chapter 23 want: plain laws.
-/
namespace Go.Ap
section
variable {a b : List (Option Str)}
/-- seconds as numbers -/
def ksL (l : List (Nat × Nat)) : List Nat := l.map (·.2)
theorem ks_nodup (a b : List (Option Str)) : (ksL (pairsL a b)).Nodup := by
  have := secs_nodup a b
  unfold secsL at this
  unfold ksL
  rw [List.Nodup, List.pairwise_map] at this ⊢
  exact this.imp fun h e => h (by rw [e])
theorem ks_lt {k : Nat} (h : k ∈ ksL (pairsL a b)) : k < b.length := by
  obtain ⟨⟨i, k'⟩, hp, rfl⟩ := List.mem_map.1 h
  exact (pair_lt hp).2
/-- it ascends from both sides, or from none -/
theorem asc_swap (h : (pairsL a b).Pairwise fun p q => p.2 < q.2) : (pairsL b a).Pairwise fun p q => p.2 < q.2 := by
  have s1 : ((pairsL a b).map swp).Pairwise fun p q => p.1 < q.1 := List.pairwise_map.2 h
  have e : (pairsL a b).map swp = pairsL b a := (pairs_perm a b).eq_of_pairwise (fun p q _ _ h1 h2 => by omega) s1 (pairs_asc b a)
  rw [← e]
  exact List.pairwise_map.2 (pairs_asc a b)
theorem none_swap (a b : List (Option Str)) : outL (pairsL a b) = [] ↔ outL (pairsL b a) = [] := by
  rw [out_nil_iff, out_nil_iff]
  exact ⟨asc_swap, asc_swap⟩
theorem none_own (a : List (Option Str)) : outL (pairsL a a) = [] := by
  rw [out_nil_iff]
  have h : ∀ p ∈ pairsL a a, p.2 = p.1 := fun ⟨i, k⟩ hp => by
    obtain ⟨s, h1, h2, h3, _⟩ := pair_iff.1 hp
    show k = i
    rw [← idx_at h1 h3, ← idx_at h2 h3]
  exact (pairs_asc a a).imp_of_mem fun {p q} hp hq hpq => by rw [h p hp, h q hq]; exact hpq
theorem all_iff (l : List (Nat × Nat)) : outL l = [] ↔ l.length = (inL l).length := by
  have := in_out_len l
  constructor
  · intro h; rw [h] at this; simpa using this.symm
  · intro h; exact List.eq_nil_of_length_eq_zero (by omega)
/-- how many pairs there are -/
theorem pairs_count (a b : List (Option Str)) : (pairsL a b).length = a.countP fun x => x.isSome && decide (a.count x = 1) && decide (b.count x = 1) := by
  have hf : ∀ (i : Nat), (prF a b i).isSome = match a[i]? with | some x => x.isSome && decide (a.count x = 1) && decide (b.count x = 1) | none => false := fun i => by
    unfold prF
    cases h : a[i]? with
    | none => rfl
    | some x =>
      cases x with
      | none => rfl
      | some s =>
        simp only [Option.isSome_some, Bool.true_and]
        by_cases hc : a.count (some s) = 1 ∧ b.count (some s) = 1
        · rw [if_pos hc, hc.1, hc.2]; rfl
        · rw [if_neg hc]
          rcases Classical.not_and_iff_not_or_not.1 hc with h | h
          · simp [h]
          · simp [h]
  have hl : ∀ {α β : Type} (f : α → Option β) (l : List α), (l.filterMap f).length = l.countP fun x => (f x).isSome := by
    intro α β f l
    induction l with
    | nil => rfl
    | cons x xs ih =>
      rw [List.filterMap_cons, List.countP_cons]
      cases f x with
      | none => simpa using ih
      | some y => simpa using ih
  unfold pairsL
  rw [hl]
  have hr : ∀ (p : Option Str → Bool) (l : List (Option Str)), (List.range l.length).countP (fun i => match l[i]? with | some x => p x | none => false) = l.countP p := by
    intro p l
    have e : l = (List.range l.length).filterMap fun i => l[i]? := by
      apply List.ext_getElem?
      intro k
      rw [show (List.range l.length).filterMap (fun i => l[i]?) = (List.range l.length).filterMap (fun i => some (l.getD i none)) from filterMap_same fun i hi => by
        have := List.mem_range.1 hi
        simp [this]]
      rw [show (fun i => some (l.getD i none)) = some ∘ fun i => l.getD i none from rfl, List.filterMap_eq_map]
      rw [List.getElem?_map]
      by_cases hk : k < l.length
      · simp [hk]
      · rw [List.getElem?_eq_none (by omega), List.getElem?_eq_none (by simpa using Nat.le_of_not_lt hk)]
        rfl
    conv => rhs; rw [e]
    rw [List.countP_filterMap]
    congr 1
    funext i
    cases l[i]? <;> rfl
  rw [← hr]
  congr 1
  funext i
  exact hf i
theorem pairs_len_of {b' : List (Option Str)} (h : ∀ s, b.count (some s) = b'.count (some s)) : (pairsL a b).length = (pairsL a b').length := by
  rw [pairs_count, pairs_count]
  congr 1
  funext x
  cases x with
  | none => rfl
  | some s => rw [h s]
/-! undoing -/
section
variable {ks : List Nat} {n : Nat}
theorem sort_rank (hn : ks.Nodup) {p : Nat} (h : p ∈ ks) : (sortN ks)[rankF ks p]? = some p := by
  obtain ⟨j, hj⟩ := List.getElem?_of_mem ((sortN_perm ks).mem_iff.2 h)
  rw [rank_of (sortN_perm ks) (sortN_asc hn) hj]
  exact hj
theorem undo_mem (hn : ks.Nodup) {p k : Nat} (h : (undoF ks n)[p]? = some k) : (p ∉ ks ∧ k = p) ∨ (p ∈ ks ∧ ks[rankF ks p]? = some k) := by
  have hp : p < n := by have := (List.getElem?_eq_some_iff.1 h).1; rwa [undo_len] at this
  by_cases hm : p ∈ ks
  · right
    refine ⟨hm, ?_⟩
    rw [← undo_at hn hp (sort_rank hn hm)]
    exact h
  · left
    rw [undo_free hp hm] at h
    exact ⟨hm, (Option.some.inj h).symm⟩
theorem undo_inj (hn : ks.Nodup) {p q k : Nat} (h1 : (undoF ks n)[p]? = some k) (h2 : (undoF ks n)[q]? = some k) : p = q := by
  rcases undo_mem hn h1 with ⟨a1, rfl⟩ | ⟨a1, a2⟩
  · rcases undo_mem hn h2 with ⟨_, e⟩ | ⟨b1, b2⟩
    · exact e
    · exact absurd (List.mem_of_getElem? b2) a1
  · rcases undo_mem hn h2 with ⟨b1, rfl⟩ | ⟨b1, b2⟩
    · exact absurd (List.mem_of_getElem? a2) b1
    · have hr : rankF ks p = rankF ks q := by
        obtain ⟨l1, e1⟩ := List.getElem?_eq_some_iff.1 a2
        obtain ⟨l2, e2⟩ := List.getElem?_eq_some_iff.1 b2
        exact (List.getElem_inj hn).1 (e1.trans e2.symm)
      have s1 := sort_rank hn a1
      have s2 := sort_rank hn b1
      rw [hr, s2] at s1
      exact (Option.some.inj s1).symm
theorem undo_nodup (hn : ks.Nodup) : (undoF ks n).Nodup := by
  refine List.pairwise_iff_getElem.2 fun i j hi hj hij e => ?_
  have := undo_inj hn (List.getElem?_eq_getElem hi) (by rw [List.getElem?_eq_getElem hj, ← e])
  omega
theorem undo_lt (hn : ks.Nodup) (hk : ∀ k ∈ ks, k < n) {p k : Nat} (h : (undoF ks n)[p]? = some k) : k < n := by
  rcases undo_mem hn h with ⟨_, rfl⟩ | ⟨_, h2⟩
  · have := (List.getElem?_eq_some_iff.1 h).1; rwa [undo_len] at this
  · exact hk k (List.mem_of_getElem? h2)
theorem undo_perm (hn : ks.Nodup) (hk : ∀ k ∈ ks, k < n) : (undoF ks n).Perm (List.range n) := by
  refine (List.perm_ext_iff_of_nodup (undo_nodup hn) List.nodup_range).2 fun k => ?_
  have hsub : ∀ k ∈ undoF ks n, k ∈ List.range n := fun k h => by
    obtain ⟨p, hp⟩ := List.getElem?_of_mem h
    exact List.mem_range.2 (undo_lt hn hk hp)
  refine ⟨hsub k, fun h => ?_⟩
  by_cases hm : k ∈ undoF ks n
  · exact hm
  · have h5 : (k :: undoF ks n).Nodup := List.nodup_cons.2 ⟨hm, undo_nodup hn⟩
    have h6 := h5.length_le_of_subset (l₂ := List.range n) fun q hq => by
      rcases List.mem_cons.1 hq with rfl | hq
      · exact h
      · exact hsub q hq
    rw [List.length_cons, undo_len, List.length_range] at h6
    omega
end
/-- the second source without transpositions -/
def undoK (b : List (Option Str)) (u : List Nat) : List (Option Str) := u.map fun k => b.getD k none
theorem undoK_at {u : List Nat} (hu : ∀ k ∈ u, k < b.length) {p : Nat} {x : Option Str} : (undoK b u)[p]? = some x ↔ ∃ k, u[p]? = some k ∧ b[k]? = some x := by
  unfold undoK
  rw [List.getElem?_map]
  constructor
  · intro h
    obtain ⟨k, hk, e⟩ := Option.map_eq_some_iff.1 h
    have := hu k (List.mem_of_getElem? hk)
    refine ⟨k, hk, ?_⟩
    rw [← e]
    simp [this]
  · rintro ⟨k, hk, e⟩
    rw [hk]
    simp [e]
theorem undoK_count {u : List Nat} (hp : u.Perm (List.range b.length)) (x : Option Str) : (undoK b u).count x = b.count x := by
  have e : b = (List.range b.length).map fun k => b.getD k none := by
    apply List.ext_getElem
    · simp
    · intro i h1 h2
      simp [h1]
  have h1 : (undoK b u).Perm b := by
    conv => rhs; rw [e]
    exact hp.map _
  exact h1.count_eq x
theorem undone (a b : List (Option Str)) : outL (pairsL a (undoK b (undoF (ksL (pairsL a b)) b.length))) = [] ∧ (pairsL a (undoK b (undoF (ksL (pairsL a b)) b.length))).length = (pairsL a b).length := by
  have hn := ks_nodup a b
  have hk : ∀ k ∈ ksL (pairsL a b), k < b.length := fun k h => ks_lt h
  have hpm := undo_perm (n := b.length) hn hk
  have hu : ∀ k ∈ undoF (ksL (pairsL a b)) b.length, k < b.length := fun k h => List.mem_range.1 (hpm.mem_iff.1 h)
  refine ⟨?_, (pairs_len_of fun s => (undoK_count hpm (some s)).symm).symm⟩
  rw [out_nil_iff]
  have hpair : ∀ i p, (i, p) ∈ pairsL a (undoK b (undoF (ksL (pairsL a b)) b.length)) → ∃ j k, (pairsL a b)[j]? = some (i, k) ∧ (sortN (ksL (pairsL a b)))[j]? = some p := fun i p h => by
    obtain ⟨s, h1, h2, h3, h4⟩ := pair_iff.1 h
    rw [undoK_count hpm] at h4
    obtain ⟨k, hk1, hk2⟩ := (undoK_at hu).1 h2
    have hm := pair_iff.2 ⟨s, h1, hk2, h3, h4⟩
    obtain ⟨j, hj⟩ := List.getElem?_of_mem hm
    refine ⟨j, k, hj, ?_⟩
    have hkj : (ksL (pairsL a b))[j]? = some k := by unfold ksL; rw [List.getElem?_map, hj]; rfl
    have hjl : j < (sortN (ksL (pairsL a b))).length := by rw [(sortN_perm _).length_eq]; exact (List.getElem?_eq_some_iff.1 hkj).1
    have hq : (sortN (ksL (pairsL a b)))[j]? = some (sortN (ksL (pairsL a b)))[j] := List.getElem?_eq_getElem hjl
    obtain ⟨q, hq'⟩ : ∃ q, (sortN (ksL (pairsL a b)))[j] = q := ⟨_, rfl⟩
    rw [hq'] at hq
    have hql : q < b.length := hk q ((sortN_perm _).mem_iff.1 (List.mem_of_getElem? hq))
    have := undo_at hn hql hq
    rw [hkj] at this
    rw [hq, undo_inj hn hk1 this]
  refine (pairs_asc a (undoK b (undoF (ksL (pairsL a b)) b.length))).imp_of_mem fun {p q} hp hq hpq => ?_
  obtain ⟨j1, k1, h1, h2⟩ := hpair p.1 p.2 hp
  obtain ⟨j2, k2, h3, h4⟩ := hpair q.1 q.2 hq
  have hj : j1 < j2 := by
    obtain ⟨l1, e1⟩ := List.getElem?_eq_some_iff.1 h1
    obtain ⟨l2, e2⟩ := List.getElem?_eq_some_iff.1 h3
    rcases Nat.lt_trichotomy j1 j2 with h | h | h
    · exact h
    · subst h; rw [e1] at e2; have := congrArg Prod.fst e2; simp only at this; omega
    · have := List.pairwise_iff_getElem.1 (pairs_asc a b) j2 j1 l2 l1 h
      rw [e1, e2] at this
      simp only at this
      omega
  obtain ⟨l1, e1⟩ := List.getElem?_eq_some_iff.1 h2
  obtain ⟨l2, e2⟩ := List.getElem?_eq_some_iff.1 h4
  have := List.pairwise_iff_getElem.1 (sortN_asc hn) j1 j2 l1 l2 hj
  rw [e1, e2] at this
  exact this
end
/-! one word that moves -/
def keysA (n : Nat) : List (Option Str) := (List.range n).map fun i => some [UInt8.ofNat (97 + i)]
def keysM (n i k : Nat) : List (Option Str) := ((keysA n).eraseIdx i).insertIdx k (some [UInt8.ofNat (97 + i)])
def movedB (n i k : Nat) : Bool :=
  let l := pairsL (keysA n) (keysM n i k)
  if i = k then (blkF (outL l)).length == 0 && (inL l).length == n else (blkF (outL l)).length == 1 && (inL l).length + 1 == n
theorem moved_all : (List.range 11).all (fun n => decide (n < 2) || (List.range n).all fun i => (List.range n).all fun k => movedB n i k) = true := by decide +kernel
end Go.Ap

/-
  What the loops of chapter 23 compute: plain laws.
-/
namespace Go.Ap
section
variable {ks a b : List (Option Str)}
/-- the last index with a Norm among the first j words -/
def lastF (ks : List (Option Str)) : Nat → Str → Option Int
  | 0, _ => none
  | j + 1, s => if ks[j]? = some (some s) then some (j : Int) else lastF ks j s
def cntF (ks : List (Option Str)) (j : Nat) (s : Str) : Option Int :=
  if (ks.take j).count (some s) = 0 then none else some ((ks.take j).count (some s) : Int)
/-- for each Norm that one word has, its index -/
def sglF (ks : List (Option Str)) (s : Str) : Option Int := if ks.count (some s) = 1 then some (ks.idxOf (some s) : Int) else none
theorem lastF_some : ∀ {j : Nat} {s : Str} {v : Int}, lastF ks j s = some v → ∃ i : Nat, v = i ∧ i < j ∧ ks[i]? = some (some s)
  | 0, s, v, h => by cases h
  | j + 1, s, v, h => by
    unfold lastF at h
    split at h
    · rename_i e
      cases h
      exact ⟨j, rfl, by omega, e⟩
    · obtain ⟨i, h1, h2, h3⟩ := lastF_some h
      exact ⟨i, h1, by omega, h3⟩
theorem lastF_none : ∀ {j : Nat} {s : Str}, lastF ks j s = none → ∀ i, i < j → ks[i]? ≠ some (some s)
  | 0, s, _, i, hi => by omega
  | j + 1, s, h, i, hi => by
    unfold lastF at h
    split at h
    · cases h
    · rename_i e
      by_cases hij : i = j
      · subst hij; exact e
      · exact lastF_none h i (by omega)
theorem cnt_take {j : Nat} {x : Option Str} (h : ks[j]? = some x) (s : Str) : (ks.take (j + 1)).count (some s) = (ks.take j).count (some s) + if x = some s then 1 else 0 := by
  rw [List.take_add_one, h, Option.toList_some, List.count_append]
  congr 1
  by_cases hx : x = some s
  · subst hx; simp
  · simp [hx]
theorem cntF_word {j : Nat} {s : Str} (h : ks[j]? = some (some s)) (t : Str) : cntF ks (j + 1) t = if t = s then some ((cntF ks j s).getD 0 + 1) else cntF ks j t := by
  unfold cntF
  rw [cnt_take h]
  by_cases ht : t = s
  · subst ht
    simp only [if_true]
    rw [if_neg (by omega)]
    congr 1
    split
    · rename_i h0; simp [h0]
    · simp
  · have h1 : ¬ (some s = some t) := fun e => ht (by cases e; rfl)
    rw [if_neg h1, if_neg ht, Nat.add_zero]
theorem cntF_none {j : Nat} (h : ks[j]? = some none) (t : Str) : cntF ks (j + 1) t = cntF ks j t := by
  unfold cntF
  rw [cnt_take h]
  simp
theorem lastF_word {j : Nat} {s : Str} (h : ks[j]? = some (some s)) (t : Str) : lastF ks (j + 1) t = if t = s then some (j : Int) else lastF ks j t := by
  unfold lastF
  rw [h]
  by_cases ht : t = s
  · subst ht; simp
  · rw [if_neg (fun e => ht (by cases e; rfl)), if_neg ht]
    cases j <;> rfl
theorem lastF_other {j : Nat} (h : ks[j]? = some none) (t : Str) : lastF ks (j + 1) t = lastF ks j t := by
  rw [lastF, h, if_neg (fun e => by cases e)]
/-- while the many are struck out -/
def strF (ks : List (Option Str)) (left : Str → Bool) (s : Str) : Option Int := if decide (1 < ks.count (some s)) && !left s then none else lastF ks ks.length s
theorem cntF_all (s : Str) : cntF ks ks.length s = if ks.count (some s) = 0 then none else some (ks.count (some s) : Int) := by
  unfold cntF
  rw [List.take_length]
theorem strF_start (s : Str) : strF ks (fun s => (cntF ks ks.length s).isSome) s = lastF ks ks.length s := by
  unfold strF
  rw [if_neg]
  simp only [Bool.and_eq_true, decide_eq_true_eq, Bool.not_eq_true', not_and, Bool.not_eq_false]
  intro h
  rw [cntF_all, if_neg (by omega)]
  rfl
theorem strF_end {left : Str → Bool} (hl : ∀ s, left s = false) (s : Str) : strF ks left s = sglF ks s := by
  unfold strF sglF
  rw [hl]
  by_cases h1 : 1 < ks.count (some s)
  · rw [if_pos (by simpa using h1), if_neg (by omega)]
  · rw [if_neg (by simpa using h1)]
    by_cases h2 : ks.count (some s) = 1
    · rw [if_pos h2]
      cases h : lastF ks ks.length s with
      | none =>
        have hm : some s ∈ ks := List.count_pos_iff.1 (by omega)
        obtain ⟨i, hi⟩ := List.getElem?_of_mem hm
        exact absurd hi (lastF_none h i (List.getElem?_eq_some_iff.1 hi).1)
      | some v =>
        obtain ⟨i, rfl, _, hi⟩ := lastF_some h
        rw [idx_at hi h2]
    · rw [if_neg h2]
      cases h : lastF ks ks.length s with
      | none => rfl
      | some v =>
        obtain ⟨i, _, _, hi⟩ := lastF_some h
        have := List.count_pos_iff.2 (List.mem_of_getElem? hi)
        omega
theorem strF_many {left : Str → Bool} {s : Str} (h : 1 < ks.count (some s)) (x : Str) : strF ks (fun x => left x && !decide (x = s)) x = if x = s then none else strF ks left x := by
  unfold strF
  by_cases hx : x = s
  · subst hx; simp [h]
  · simp [hx]
theorem strF_few {left : Str → Bool} {s : Str} (h : ¬ 1 < ks.count (some s)) (x : Str) : strF ks (fun x => left x && !decide (x = s)) x = strF ks left x := by
  unfold strF
  by_cases hx : x = s
  · subst hx; simp [h]
  · simp [hx]
theorem sglF_iff {s : Str} {i : Nat} : sglF ks s = some (i : Int) ↔ ks[i]? = some (some s) ∧ ks.count (some s) = 1 := by
  unfold sglF
  constructor
  · intro h
    split at h
    · rename_i hc
      simp only [Option.some.injEq] at h
      have e : ks.idxOf (some s) = i := by omega
      rw [← e]
      exact ⟨at_idx (by omega), hc⟩
    · cases h
  · rintro ⟨h1, h2⟩
    rw [if_pos h2, idx_at h1 h2]
theorem sglF_nat {s : Str} {v : Int} (h : sglF ks s = some v) : ∃ i : Nat, v = i ∧ ks[i]? = some (some s) ∧ ks.count (some s) = 1 := by
  unfold sglF at h
  split at h
  · rename_i hc
    cases h
    exact ⟨_, rfl, at_idx (by omega), hc⟩
  · cases h
/-- what the program's pairs do with one token of norm s -/
theorem prF_prog {i : Nat} {s : Str} {x : Option Str} (hx : a[i]? = some x) (hs : x = none ∨ x = some s) : prF a b i = if sglF a s = some (i : Int) then (sglF b s).map fun k => (i, k.toNat) else none := by
  by_cases h : sglF a s = some (i : Int)
  · rw [if_pos h]
    obtain ⟨h1, h2⟩ := sglF_iff.1 h
    cases hb : sglF b s with
    | none =>
      cases hp : prF a b i with
      | none => rfl
      | some p =>
        exfalso
        obtain ⟨_, s', g1, g2, g3, g4⟩ := prF_iff.1 hp
        rw [h1] at g1
        cases g1
        have := (sglF_iff (ks := b) (s := s) (i := p.2)).2 ⟨g2, g4⟩
        rw [hb] at this
        cases this
    | some v =>
      obtain ⟨k, rfl, g1, g2⟩ := sglF_nat hb
      rw [show prF a b i = some (i, k) from prF_iff.2 ⟨rfl, s, h1, g1, h2, g2⟩]
      rfl
  · rw [if_neg h]
    cases hp : prF a b i with
    | none => rfl
    | some p =>
      exfalso
      obtain ⟨_, s', g1, g2, g3, g4⟩ := prF_iff.1 hp
      rw [hx] at g1
      cases g1
      rcases hs with h' | h'
      · cases h'
      · cases h'
        exact h (sglF_iff.2 ⟨hx, g3⟩)
/-- the pairs of the first j tokens -/
def prsF (a b : List (Option Str)) (j : Nat) : List (Nat × Nat) := (List.range j).filterMap (prF a b)
theorem prsF_all (a b : List (Option Str)) : prsF a b a.length = pairsL a b := rfl
theorem prsF_succ (a b : List (Option Str)) (j : Nat) : prsF a b (j + 1) = prsF a b j ++ (prF a b j).toList := by
  unfold prsF
  rw [List.range_succ, List.filterMap_append]
  cases h : prF a b j <;> simp [h]
theorem prsF_len (a b : List (Option Str)) (j : Nat) : (prsF a b j).length ≤ j := by
  have := List.length_filterMap_le (prF a b) (List.range j)
  simpa [prsF] using this
/-- the only index with a Norm, among the first j: what the reference's loop bears (none: more than one) -/
def onlyF (ks : List (Option Str)) (s : Str) : Int := match sglF ks s with | some v => v | none => -1
theorem only_at {s : Str} : onlyF ks s = if ks.count (some s) = 1 then (ks.idxOf (some s) : Int) else -1 := by
  unfold onlyF sglF
  by_cases h : ks.count (some s) = 1
  · rw [if_pos h, if_pos h]
  · rw [if_neg h, if_neg h]
end
end Go.Ap
