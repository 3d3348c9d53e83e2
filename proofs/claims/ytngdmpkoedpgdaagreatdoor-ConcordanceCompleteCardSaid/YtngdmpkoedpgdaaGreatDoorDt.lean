/-
  A concordance in plain words: entries of words, groups, print, find.
-/
import Derived.Test.YtngdmpkoedpgdaaGreatDoorIp
import Derived.Test.YtngdmpkoedpgdaaGreatDoorGh
import Derived.Lib.ItoaLen
namespace Go.Ap
open Go Go.RowKit
abbrev Entry := (Str × Str) × Int
def lineOk (n : Int) : Bool := decide (1 ≤ n) && decide (n ≤ 4096)
/-- the entries of words with their lines -/
def entOf (sec : Str) (p : Str × Int) : List Entry := if isWordB p.1 then [((p.1, sec), p.2)] else []
def wordsEs (sec : Str) (ps : List (Str × Int)) : List Entry := ps.flatMap (entOf sec)
def wordsC (sec : Str) (ws : List Str) (ls : List Int) : Int :=
  if nameB sec = false then 14 else if 4096 < ws.length then 4 else if ls.length ≠ ws.length then 9 else if (ls.any fun n => !lineOk n) = true then 2 else 0
/-- the lines of a head -/
def grpOf (es : List Entry) (s : Str × Str) : List Int := (es.filter fun e => decide (e.1 = s)).map (·.2)
theorem grpOf_mem {es : List Entry} {h : Str × Str} {m : Int} : (h, m) ∈ es ↔ m ∈ grpOf es h := by
  unfold grpOf
  rw [List.mem_map]
  constructor
  · intro he
    exact ⟨(h, m), List.mem_filter.2 ⟨he, by simp⟩, rfl⟩
  · rintro ⟨e, he, rfl⟩
    obtain ⟨h1, h2⟩ := List.mem_filter.1 he
    have h3 : e.1 = h := of_decide_eq_true h2
    subst h3
    exact h1
theorem grpOf_add (es : List Entry) (s : Str × Str) (xs : List Int) : updG (grpOf es) s (grpOf es s ++ xs) = grpOf (es ++ xs.map fun x => (s, x)) := by
  funext t
  unfold updG grpOf
  rw [List.filter_append, List.map_append]
  by_cases h : t = s
  · subst h
    rw [if_pos rfl]
    congr 1
    rw [List.filter_eq_self.2 (by simp), List.map_map]
    exact (List.map_id xs).symm
  · rw [if_neg h]
    have : (xs.map fun x => (s, x)).filter (fun e : Entry => decide (e.1 = t)) = [] := by
      rw [List.filter_eq_nil_iff]
      intro e he
      obtain ⟨x, _, rfl⟩ := List.mem_map.1 he
      simp only [decide_eq_true_eq]
      exact fun e => h e.symm
    rw [this]
    simp
theorem grpOf_len (es : List Entry) (s : Str × Str) : (grpOf es s).length ≤ es.length := by
  unfold grpOf
  rw [List.length_map]
  exact List.length_filter_le _ _
theorem grpOf_nil : grpOf [] = fun _ => [] := rfl
theorem take_snoc {α : Type} {l : List α} {i : Nat} {x : α} (h : l[i]? = some x) : l.take (i + 1) = l.take i ++ [x] := by
  rw [List.take_add_one, h]
  rfl
theorem wordsEs_snoc (sec : Str) {ps : List (Str × Int)} {i : Nat} {p : Str × Int} (h : ps[i]? = some p) : wordsEs sec (ps.take (i + 1)) = wordsEs sec (ps.take i) ++ entOf sec p := by
  unfold wordsEs
  rw [take_snoc h, List.flatMap_append]
  simp
theorem wordsEs_len (sec : Str) (ps : List (Str × Int)) : (wordsEs sec ps).length ≤ ps.length := by
  induction ps with
  | nil => simp [wordsEs]
  | cons p r ih =>
    have : wordsEs sec (p :: r) = entOf sec p ++ wordsEs sec r := rfl
    rw [this, List.length_append, List.length_cons]
    have : (entOf sec p).length ≤ 1 := by unfold entOf; split <;> simp
    omega
theorem zip_at {ws : List Str} {ls : List Int} {i : Nat} {x : Str} {y : Int} (h1 : ws[i]? = some x) (h2 : ls[i]? = some y) : (ws.zip ls)[i]? = some (x, y) := by
  rw [List.getElem?_zip_eq_some]
  exact ⟨h1, h2⟩
theorem Grp.le {κ : Type} {P : Program} {t k e ie : TypeId} {T : MapV P t k e κ} {w : World} {b base n m : Nat} {g : κ → List Int} (h : Grp T ie w b base n g) (hm : n ≤ m) : Grp T ie w b base m g := by
  obtain ⟨f, h1, h2⟩ := h
  exact ⟨f, h1.mono hm, h2⟩
theorem Grp.ne {κ : Type} {P : Program} {t k e ie ty : TypeId} {T : MapV P t k e κ} {w : World} {b base n X : Nat} {cs : Array Value} {g : κ → List Int} (h : Grp T ie w b base n g) (hK : BlkK w X cs ty) : some X ≠ some b := by
  obtain ⟨f, h1, _⟩ := h
  obtain ⟨o, h2, h3⟩ := h1.obj
  intro e
  obtain rfl : X = b := by simpa using e
  rw [show w.heap[X]? = _ from hK] at h2
  cases h2
  cases h3
theorem OwnI.push1 {e : TypeId} {w w1 : World} {base : Nat} {v v' : Value} {xs : List Int} {x : Int} (h : OwnI e w base v xs) (hx : I64 x) (hown : w1.ownsRow base e 1 v' (xs.length + 1) (xs.map (Value.int .i64) ++ [.int .i64 x])) : OwnI e w1 base v' (xs ++ [x]) := by
  refine ⟨by simpa using hown, fun y hy => ?_⟩
  rcases List.mem_append.1 hy with h1 | h1
  · exact h.2 y h1
  · rw [List.mem_singleton] at h1
    rw [h1]
    exact hx
/-- the text of a posting -/
def lineT (n : Int) : Str := 32 :: Lib.itoa n
def postT (p : Post) : Str := p.1.1 ++ (32 :: p.1.2) ++ p.2.flatMap lineT ++ [10]
def textS (l : List Post) : Str := l.flatMap postT
/-- small letters, no marks -/
def formS (s : Str) : Str := foldS (plainM mkB s)
def findS (l : List Post) (w : Str) : List Post := l.filter fun p => decide (formS p.1.1 = formS w)
/-- bounds -/
theorem lineT_len {n : Int} (h0 : -9223372036854775808 ≤ n) (h1 : n ≤ 9223372036854775807) : (lineT n).length ≤ 22 := by
  have := Lib.itoa_length_le n h0 h1
  unfold lineT
  rw [List.length_cons]
  omega
theorem flat_len {α : Type} {f : α → Str} {k : Nat} : ∀ {l : List α}, (∀ x ∈ l, (f x).length ≤ k) → (l.flatMap f).length ≤ k * l.length
  | [], _ => by simp
  | x :: r, h => by
    rw [List.flatMap_cons, List.length_append, List.length_cons, Nat.mul_succ]
    have h1 := h x (List.mem_cons_self ..)
    have h2 := flat_len (l := r) fun y hy => h y (List.mem_cons_of_mem _ hy)
    omega
theorem isWordB_64 {s : Str} (h : isWordB s = true) : s.length ≤ 64 := by
  unfold isWordB at h
  simp only [Bool.and_eq_true, decide_eq_true_eq] at h
  exact h.1.1.1.2
theorem nameB_16 {s : Str} (h : nameB s = true) : s.length ≤ 16 := by
  unfold nameB at h
  simp only [Bool.and_eq_true, decide_eq_true_eq] at h
  exact h.1.2
theorem validB_parts {p : Post} (h : validB p = true) : isWordB p.1.1 = true ∧ nameB p.1.2 = true ∧ p.2.length ≤ 4096 ∧ ∀ n ∈ p.2, 1 ≤ n ∧ n ≤ 4096 := by
  unfold validB at h
  simp only [Bool.and_eq_true, decide_eq_true_eq] at h
  obtain ⟨⟨⟨⟨h1, h2⟩, h3⟩, h4⟩, h5⟩ := h
  refine ⟨h1, h2, h4, fun n hn => ?_⟩
  obtain ⟨j, hj, rfl⟩ := List.getElem_of_mem hn
  have := List.all_eq_true.1 h5 j (List.mem_range.2 hj)
  unfold lineB at this
  simp only [Bool.and_eq_true, decide_eq_true_eq] at this
  have e : nth p.2 j = p.2[j] := by simp [nth, hj]
  rw [e] at this
  exact this.1
theorem indexB_valid {l : List Post} (h : indexB l = true) : l.length ≤ 4096 ∧ ∀ p ∈ l, validB p = true := by
  unfold indexB at h
  simp only [Bool.and_eq_true, decide_eq_true_eq] at h
  refine ⟨h.1.1, fun p hp => ?_⟩
  have := h.1.2
  rw [Bool.not_eq_true', List.any_eq_false] at this
  simpa using this p hp
theorem postT_len {p : Post} (h : validB p = true) : (postT p).length ≤ 100000 := by
  obtain ⟨h1, h2, h3, h4⟩ := validB_parts h
  have := isWordB_64 h1
  have := nameB_16 h2
  have h5 := flat_len (f := lineT) (k := 22) (l := p.2) fun n hn => lineT_len (by have := h4 n hn; omega) (by have := h4 n hn; omega)
  unfold postT
  simp only [List.length_append, List.length_cons, List.length_nil]
  omega
theorem textS_len {l : List Post} (h : indexB l = true) : (textS l).length ≤ 409600000 := by
  obtain ⟨h1, h2⟩ := indexB_valid h
  have := flat_len (f := postT) (k := 100000) (l := l) fun p hp => postT_len (h2 p hp)
  unfold textS
  omega
end Go.Ap
