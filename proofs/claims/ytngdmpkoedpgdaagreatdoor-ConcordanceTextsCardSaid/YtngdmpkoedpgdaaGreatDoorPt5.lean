/-
  Texts and indexes: printing and parsing in plain words.
-/
import Derived.Test.YtngdmpkoedpgdaaGreatDoorQ4
import Derived.Lib.SplitLaws
import Derived.Lib.AtoiAll
namespace Go.Ap
open Go Go.RowKit
/-- cut at a byte -/
def cutAt (c : UInt8) : Str → List Str
  | [] => [[]]
  | b :: s => if b = c then [] :: cutAt c s else match cutAt c s with | [] => [[b]] | p :: r => (b :: p) :: r
theorem cutAt_ne (c : UInt8) : ∀ s : Str, cutAt c s ≠ []
  | [] => by simp [cutAt]
  | b :: s => by
    unfold cutAt
    split
    · simp
    · cases h : cutAt c s <;> simp
theorem cutAt_no {c : UInt8} : ∀ {a : Str}, c ∉ a → cutAt c a = [a]
  | [], _ => rfl
  | b :: s, h => by
    unfold cutAt
    rw [if_neg (fun e => h (by simp [e])), cutAt_no (fun e => h (List.mem_cons_of_mem _ e))]
theorem cutAt_app {c : UInt8} : ∀ {a t : Str}, c ∉ a → cutAt c (a ++ c :: t) = a :: cutAt c t
  | [], t, _ => by
    show cutAt c (c :: t) = _
    unfold cutAt
    rw [if_pos rfl]
    cases t <;> rfl
  | b :: s, t, h => by
    rw [List.cons_append]
    conv => lhs; unfold cutAt
    rw [if_neg (fun e => h (by simp [e])), cutAt_app (fun e => h (List.mem_cons_of_mem _ e))]
theorem split_cut (c : UInt8) : ∀ s : Str, Lib.split s [c] = cutAt c s
  | [] => by
    unfold Lib.split
    rw [Lib.count_one]
    rfl
  | b :: l => by
    have ih := split_cut c l
    unfold Lib.split at ih ⊢
    by_cases h : b = c
    · subst h
      rw [Lib.count_cons_eq, Nat.add_comm 1]
      have hix : Lib.index (b :: l) [b] = 0 := by rw [Lib.index]; simp [List.isPrefixOf]
      unfold Lib.splitK
      rw [hix]
      unfold cutAt
      rw [if_pos rfl, ← ih]
      simp
    · rw [Lib.count_cons_ne b c l h]
      have hp : ([c] : List UInt8).isPrefixOf (b :: l) = false := by simp [List.isPrefixOf, Ne.symm h]
      have hix : Lib.index (b :: l) [c] = if Lib.index l [c] == -1 then -1 else Lib.index l [c] + 1 := by rw [Lib.index, hp]; simp
      unfold cutAt
      rw [if_neg h, ← ih]
      cases hk : Lib.count l [c] with
      | zero => rfl
      | succ k =>
        have hne : Lib.index l [c] ≠ -1 := fun e => by rw [Lib.count_miss e] at hk; cases hk
        have hge := Lib.index_ge l [c]
        obtain ⟨i, hi⟩ : ∃ i : Nat, Lib.index l [c] = i := ⟨(Lib.index l [c]).toNat, by omega⟩
        unfold Lib.splitK
        rw [hix, hi, if_neg (by first | (simp; done) | (simp; omega)), if_neg (by first | (simp; done) | (simp; omega)), if_neg (by first | (simp; done) | (simp; omega))]
        simp only [List.length_cons, List.length_nil, Nat.add_zero, Int.toNat_natCast]
        rw [show ((i : Int) + 1).toNat = i + 1 by omega]
        rfl
/-- lines, each with its end -/
def linesL : Str → List Str
  | [] => []
  | b :: s => if b = 10 then [10] :: linesL s else match linesL s with | [] => [[b]] | p :: r => (b :: p) :: r
theorem linesL_nil {s : Str} (h : linesL s = []) : s = [] := by
  cases s with
  | nil => rfl
  | cons b s =>
    unfold linesL at h
    split at h
    · cases h
    · split at h <;> cases h
theorem linesL_app : ∀ {a t : Str}, (10 : UInt8) ∉ a → linesL (a ++ 10 :: t) = (a ++ [10]) :: linesL t
  | [], t, _ => by
    show linesL (10 :: t) = _
    conv => lhs; unfold linesL
    rw [if_pos rfl]
    rfl
  | b :: s, t, h => by
    rw [List.cons_append]
    conv => lhs; unfold linesL
    rw [if_neg (fun e => h (by simp [e])), linesL_app (fun e => h (List.mem_cons_of_mem _ e))]
    rfl
theorem linesL_no : ∀ {a : Str}, (10 : UInt8) ∉ a → a ≠ [] → linesL a = [a]
  | [], _, h => absurd rfl h
  | b :: s, h, _ => by
    unfold linesL
    rw [if_neg (fun e => h (by simp [e]))]
    cases hs : s with
    | nil => rfl
    | cons d r =>
      rw [linesL_no (fun e => h (List.mem_cons_of_mem _ (by rw [hs]; exact e))) (by simp)]
/-- without the end of the line -/
def trimNl (s : Str) : Str := if s.getLast? = some 10 then s.dropLast else s
theorem trimNl_app (a : Str) : trimNl (a ++ [10]) = a := by simp [trimNl]
def numsL : List Str → Option (List Int)
  | [] => some []
  | x :: r => match Lib.atoiAll x with
    | .ok n => (numsL r).map (n :: ·)
    | _ => none
/-- the posting of a line -/
def postL (s : Str) : Option Post :=
  match cutAt 32 (trimNl s) with
  | a :: b :: c :: r => (numsL (c :: r)).map fun l => ((a, b), l)
  | _ => none
def postsG : List Str → Option (List Post)
  | [] => some []
  | x :: r => match postL x with
    | some p => (postsG r).map (p :: ·)
    | none => none
/-- the index of a text -/
def parseS (s : Str) : Option (List Post) :=
  match postsG (linesL s) with
  | some l => if indexB l = true ∧ textS l = s then some l else none
  | none => none
theorem parseS_some {s : Str} {l : List Post} (h : parseS s = some l) : indexB l = true ∧ textS l = s := by
  unfold parseS at h
  split at h
  · split at h
    · cases h
      assumption
    · cases h
  · cases h
/-- numerals -/
theorem digit_ok {d acc : Nat} (hd : d < 10) (ha : acc < 100000000000000000) (r : List UInt8) : Lib.parseUint10 acc (UInt8.ofNat (48 + d) :: r) = Lib.parseUint10 (acc * 10 + d) r := by
  have e : (UInt8.ofNat (48 + d)).toNat = 48 + d := by
    rw [UInt8.toNat_ofNat']
    omega
  rw [Lib.parseUint10, e, if_pos (by omega), if_neg (by omega), if_neg (by omega)]
  congr 1
  omega
theorem parse_digits (u : Nat) (hu : u < 100000000000000000) : ∀ (r : List UInt8), Lib.parseUint10 0 (Lib.decDigits u ++ r) = Lib.parseUint10 u r := by
  induction u using Nat.strongRecOn with
  | _ u ih =>
    intro r
    rw [Lib.decDigits]
    split
    · rename_i h
      rw [List.singleton_append, digit_ok h (by omega)]
      congr 1
      omega
    · rename_i h
      rw [List.append_assoc, ih (u / 10) (by omega) (by omega), List.singleton_append, digit_ok (by omega) (by omega)]
      congr 1
      omega
theorem dec_digit (u : Nat) : ∀ c ∈ Lib.decDigits u, 48 ≤ c.toNat ∧ c.toNat ≤ 57 := by
  induction u using Nat.strongRecOn with
  | _ u ih =>
    intro c hc
    rw [Lib.decDigits] at hc
    split at hc
    · rename_i h
      rw [List.mem_singleton] at hc
      subst hc
      rw [UInt8.toNat_ofNat']
      omega
    · rename_i h
      rcases List.mem_append.1 hc with hc | hc
      · exact ih (u / 10) (by omega) c hc
      · rw [List.mem_singleton] at hc
        subst hc
        rw [UInt8.toNat_ofNat']
        omega
theorem dec_ne (u : Nat) : Lib.decDigits u ≠ [] := by
  rw [Lib.decDigits]
  split <;> simp
theorem atoi_itoa {n : Int} (h0 : 0 ≤ n) (h1 : n < 100000000000000000) : Lib.atoiAll (Lib.itoa n) = .ok n := by
  unfold Lib.itoa
  rw [if_neg (by omega)]
  obtain ⟨c, r, hcr⟩ := List.exists_cons_of_ne_nil (dec_ne n.toNat)
  have hd := dec_digit n.toNat c (by rw [hcr]; simp)
  have hp := parse_digits n.toNat (by omega) []
  rw [List.append_nil, hcr] at hp
  have hq : Lib.parseUint10 n.toNat [] = .ok n.toNat := rfl
  rw [hq] at hp
  rw [hcr]
  unfold Lib.atoiAll
  have e1 : (if c.toNat = 43 ∨ c.toNat = 45 then r else c :: r) = c :: r := if_neg (by omega)
  have e2 : (c.toNat = 45) = False := eq_false (by omega)
  have e3 : Lib.parseMag (c :: r) = .ok n.toNat := by
    unfold Lib.parseMag
    rw [if_neg (by simp), hp]
  simp only [e1, e3]
  simp only [e2, not_false_eq_true, true_and, false_and, if_false]
  rw [if_neg (by omega)]
  congr 1
  omega
theorem wk_no {c : UInt8} (h : wk c ≤ 4) (h1 : wk c ≠ 0) : c ≠ 32 ∧ c ≠ 10 := by
  constructor
  · rintro rfl
    revert h
    decide
  · rintro rfl
    revert h1
    decide
theorem let_no {c : UInt8} (h : letB c = true) : c ≠ 32 ∧ c ≠ 10 := by
  constructor
  · rintro rfl
    revert h
    decide
  · rintro rfl
    revert h
    decide
theorem name_no {s : Str} (h : nameB s = true) : (32 : UInt8) ∉ s ∧ (10 : UInt8) ∉ s := by
  unfold nameB at h
  simp only [Bool.and_eq_true, List.all_eq_true] at h
  exact ⟨fun h1 => (let_no (h.2 _ h1)).1 rfl, fun h1 => (let_no (h.2 _ h1)).2 rfl⟩
theorem marks_wk : ∀ {s : Str} {b : Bool}, marksB b s = true → ∀ c ∈ s, wk c ≠ 0
  | [], _, _, c, hc => by cases hc
  | d :: s, b, h, c, hc => by
    unfold marksB at h
    simp only [Bool.and_eq_true, decide_eq_true_eq] at h
    rcases List.mem_cons.1 hc with rfl | hc
    · exact h.1.1
    · exact marks_wk h.2 c hc
theorem word_no {s : Str} (h : isWordB s = true) : (32 : UInt8) ∉ s ∧ (10 : UInt8) ∉ s := by
  unfold isWordB at h
  simp only [Bool.and_eq_true, List.all_eq_true, decide_eq_true_eq] at h
  exact ⟨fun h1 => (wk_no (h.2 _ h1) (marks_wk h.1.1.2 _ h1)).1 rfl, fun h1 => (wk_no (h.2 _ h1) (marks_wk h.1.1.2 _ h1)).2 rfl⟩
theorem itoa_no {n : Int} (h0 : 0 ≤ n) : (32 : UInt8) ∉ Lib.itoa n ∧ (10 : UInt8) ∉ Lib.itoa n := by
  unfold Lib.itoa
  rw [if_neg (by omega)]
  constructor
  · intro h
    have := dec_digit _ _ h
    revert this
    decide
  · intro h
    have := dec_digit _ _ h
    revert this
    decide
theorem cut_lines : ∀ {x : Str} {l : List Int}, (32 : UInt8) ∉ x → (∀ n ∈ l, 0 ≤ n) → cutAt 32 (x ++ l.flatMap lineT) = x :: l.map Lib.itoa
  | x, [], hx, _ => by
    rw [List.flatMap_nil, List.append_nil, cutAt_no hx]
    rfl
  | x, n :: l, hx, h => by
    have h1 := h n (List.mem_cons_self ..)
    rw [List.flatMap_cons]
    unfold lineT
    rw [List.cons_append, cutAt_app hx]
    have ih := cut_lines (x := Lib.itoa n) (l := l) (itoa_no h1).1 fun m hm => h m (List.mem_cons_of_mem _ hm)
    unfold lineT at ih
    rw [ih]
    rfl
theorem nums_itoa : ∀ {l : List Int}, (∀ n ∈ l, 0 ≤ n ∧ n < 100000000000000000) → numsL (l.map Lib.itoa) = some l
  | [], _ => rfl
  | n :: l, h => by
    have h1 := h n (List.mem_cons_self ..)
    rw [List.map_cons]
    unfold numsL
    rw [atoi_itoa h1.1 h1.2, nums_itoa fun m hm => h m (List.mem_cons_of_mem _ hm)]
    rfl
/-- the text of a valid posting: one line, of this posting -/
theorem lines_no {l : List Int} (h : ∀ n ∈ l, 0 ≤ n) : (10 : UInt8) ∉ l.flatMap lineT := fun hm => by
  obtain ⟨n, hn, hc⟩ := List.mem_flatMap.1 hm
  unfold lineT at hc
  rcases List.mem_cons.1 hc with hc | hc
  · cases hc
  · exact (itoa_no (h n hn)).2 hc
theorem postT_line {p : Post} (h : validB p = true) : ∃ a, postT p = a ++ [10] ∧ (10 : UInt8) ∉ a ∧ postL (postT p) = some p := by
  obtain ⟨h1, h2, h3, h4⟩ := validB_parts h
  obtain ⟨⟨w, s⟩, l⟩ := p
  simp only at h1 h2 h3 h4
  have hw := word_no h1
  have hs := name_no h2
  have hl := lines_no (l := l) fun n hn => by have := h4 n hn; omega
  have hne : l ≠ [] := fun e => by
    unfold validB at h
    rw [e] at h
    simp at h
  refine ⟨w ++ 32 :: s ++ l.flatMap lineT, rfl, ?_, ?_⟩
  · intro hm
    rcases List.mem_append.1 hm with hm | hm
    · rcases List.mem_append.1 hm with hm | hm
      · exact hw.2 hm
      · rcases List.mem_cons.1 hm with hm | hm
        · cases hm
        · exact hs.2 hm
    · exact hl hm
  · unfold postL
    show (match cutAt 32 (trimNl (w ++ 32 :: s ++ l.flatMap lineT ++ [10])) with | a :: b :: c :: r => (numsL (c :: r)).map fun l => ((a, b), l) | _ => none) = _
    rw [trimNl_app, List.append_assoc, List.cons_append, cutAt_app hw.1, cut_lines hs.1 (fun n hn => by have := h4 n hn; omega)]
    obtain ⟨n, r, rfl⟩ := List.exists_cons_of_ne_nil hne
    have hnum := nums_itoa (l := n :: r) fun m hm => by have := h4 m hm; omega
    rw [List.map_cons] at hnum ⊢
    simp only
    rw [hnum]
    rfl
theorem posts_text : ∀ {l : List Post}, (∀ p ∈ l, validB p = true) → postsG (linesL (textS l)) = some l
  | [], _ => rfl
  | p :: r, h => by
    obtain ⟨a, h1, h2, h3⟩ := postT_line (h p (List.mem_cons_self ..))
    have ih := posts_text fun q hq => h q (List.mem_cons_of_mem _ hq)
    have e : textS (p :: r) = a ++ 10 :: textS r := by
      unfold textS
      rw [List.flatMap_cons, h1, List.append_assoc]
      rfl
    rw [e, linesL_app h2, ← h1]
    unfold postsG
    rw [h3, ih]
    rfl
/-- parsing what is printed -/
theorem parse_text {l : List Post} (h : indexB l = true) : parseS (textS l) = some l := by
  unfold parseS
  rw [posts_text (indexB_valid h).2]
  simp [h]
/-- how many lines -/
theorem text_count {l : List Post} (h : ∀ p ∈ l, validB p = true) : (textS l).count 10 = l.length := by
  induction l with
  | nil => rfl
  | cons p r ih =>
    obtain ⟨a, h1, h2, _⟩ := postT_line (h p (List.mem_cons_self ..))
    unfold textS at ih ⊢
    rw [List.flatMap_cons, List.count_append, ih fun q hq => h q (List.mem_cons_of_mem _ hq), h1, List.count_append, List.count_eq_zero_of_not_mem h2, List.length_cons]
    simp
    omega
end Go.Ap
