/-
  Parse (program).
-/
import Derived.Test.YtngdmpkoedpgdaaGreatDoorLi5
import Derived.Test.YtngdmpkoedpgdaaGreatDoorTe
import Derived.Test.YtngdmpkoedpgdaaGreatDoorWo
import Derived.Test.YtngdmpkoedpgdaaGreatDoorFd
import Derived.Test.YtngdmpkoedpgdaaGreatDoorNb
import Derived.Test.YtngdmpkoedpgdaaGreatDoorPf5
namespace Go.Ap
open Go Go.RowKit
theorem atoi_i64 {l : Str} {v : Int} (h : Lib.atoiAll l = .ok v) : I64 v := by
  unfold Lib.atoiAll at h
  cases l with
  | nil => cases h
  | cons c r =>
    simp only at h
    cases hm : Lib.parseMag (if c.toNat = 43 ∨ c.toNat = 45 then r else c :: r) with
    | ok u =>
      rw [hm] at h
      have := Lib.parseMag_lt hm
      simp only at h
      split at h
      · cases h
      · split at h
        · cases h
        · cases h
          unfold I64
          split <;> omega
    | _ => rw [hm] at h; cases h
theorem numsL_ok : ∀ {xs : List Str} {x : Str} {l : List Int} {n : Int}, numsL xs = some l → Lib.atoiAll x = .ok n → numsL (xs ++ [x]) = some (l ++ [n])
  | [], x, l, n, h, hx => by
    cases h
    rw [List.nil_append]
    unfold numsL
    rw [hx]
    rfl
  | y :: xs, x, l, n, h, hx => by
    rw [List.cons_append]
    unfold numsL at h ⊢
    cases hy : Lib.atoiAll y with
    | ok m =>
      rw [hy] at h
      simp only at h ⊢
      cases hr : numsL xs with
      | none => rw [hr] at h; cases h
      | some q =>
        rw [hr] at h
        cases h
        rw [numsL_ok hr hx]
        rfl
    | _ => rw [hy] at h; cases h
theorem numsL_bad : ∀ {xs : List Str} {x : Str}, x ∈ xs → (∀ v, Lib.atoiAll x ≠ .ok v) → numsL xs = none
  | y :: xs, x, hx, h => by
    unfold numsL
    rcases List.mem_cons.1 hx with rfl | hx
    · cases hy : Lib.atoiAll x with
      | ok m => exact absurd hy (h m)
      | _ => rfl
    · have ih := numsL_bad hx h
      cases hy : Lib.atoiAll y with
      | ok m => simp only; rw [ih]; rfl
      | _ => rfl
theorem numsL_len : ∀ {xs : List Str} {l : List Int}, numsL xs = some l → l.length = xs.length
  | [], l, h => by cases h; rfl
  | y :: xs, l, h => by
    unfold numsL at h
    cases hy : Lib.atoiAll y with
    | ok m =>
      rw [hy] at h
      simp only at h
      cases hr : numsL xs with
      | none => rw [hr] at h; cases h
      | some q =>
        rw [hr] at h
        cases h
        rw [List.length_cons, List.length_cons, numsL_len hr]
    | _ => rw [hy] at h; cases h
theorem postsG_ok : ∀ {xs : List Str} {x : Str} {l : List Post} {p : Post}, postsG xs = some l → postL x = some p → postsG (xs ++ [x]) = some (l ++ [p])
  | [], x, l, p, h, hx => by
    cases h
    rw [List.nil_append]
    unfold postsG
    rw [hx]
    rfl
  | y :: xs, x, l, p, h, hx => by
    rw [List.cons_append]
    unfold postsG at h ⊢
    cases hy : postL y with
    | some m =>
      rw [hy] at h
      simp only at h ⊢
      cases hr : postsG xs with
      | none => rw [hr] at h; cases h
      | some q =>
        rw [hr] at h
        cases h
        rw [postsG_ok hr hx]
        rfl
    | none => rw [hy] at h; cases h
theorem postsG_bad : ∀ {xs : List Str} {x : Str}, x ∈ xs → postL x = none → postsG xs = none
  | y :: xs, x, hx, h => by
    unfold postsG
    rcases List.mem_cons.1 hx with rfl | hx
    · rw [h]
    · have ih := postsG_bad hx h
      cases hy : postL y with
      | some m => simp only; rw [ih]; rfl
      | none => rfl
theorem postsG_len : ∀ {xs : List Str} {l : List Post}, postsG xs = some l → l.length = xs.length
  | [], l, h => by cases h; rfl
  | y :: xs, l, h => by
    unfold postsG at h
    cases hy : postL y with
    | some m =>
      rw [hy] at h
      simp only at h
      cases hr : postsG xs with
      | none => rw [hr] at h; cases h
      | some q =>
        rw [hr] at h
        cases h
        rw [List.length_cons, List.length_cons, postsG_len hr]
    | none => rw [hy] at h; cases h
theorem parse_none {s : Str} (h : postsG (linesL s) = none) : parseS s = none := by
  unfold parseS
  rw [h]
theorem trim_eq (x : Str) : Lib.trimSuffix x [10] = trimNl x := by
  unfold Lib.trimSuffix trimNl
  cases x using snoc_ind with
  | h0 => rfl
  | h1 l b =>
    by_cases hb : b = 10
    · subst hb
      rw [if_pos (by simp [Lib.hasSuffix]), if_pos (by simp)]
      simp
    · rw [if_neg (by simp [Lib.hasSuffix, List.isSuffixOf, List.isPrefixOf, Ne.symm hb]), if_neg (by simp [hb])]
theorem split_cells (t : Str) : ((Lib.splitB ⟨#[32]⟩ 0 (Lib.countB (bs t) ⟨#[32]⟩) (bs t)).map Value.string) = (cutAt 32 t).map sv ∧ Lib.countB (bs t) ⟨#[32]⟩ + 1 = (cutAt 32 t).length := by
  have h1 := Lib.splitB_data ⟨#[32]⟩ 0 (Lib.countB (bs t) ⟨#[32]⟩) (bs t)
  have h2 : Lib.splitK [32] 0 (Lib.countB (bs t) ⟨#[32]⟩) t = cutAt 32 t := split_cut 32 t
  have h3 : (Lib.splitB ⟨#[32]⟩ 0 (Lib.countB (bs t) ⟨#[32]⟩) (bs t)).map (·.data.toList) = cutAt 32 t := h1.trans h2
  constructor
  · rw [← h3, List.map_map]
    refine List.map_congr_left fun b _ => ?_
    show Value.string b = Value.string (bs b.data.toList)
    rw [← bs_of]
  · rw [← h3, List.length_map, Lib.splitB_all _ (by decide) 0 _ _ rfl]
theorem cutAt_len (c : UInt8) : ∀ s : Str, (cutAt c s).length ≤ s.length + 1
  | [] => by simp [cutAt]
  | b :: s => by
    have ih := cutAt_len c s
    unfold cutAt
    split
    · rw [List.length_cons, List.length_cons]; omega
    · cases hs : cutAt c s with
      | nil => simp
      | cons p r => rw [hs] at ih; simp only [List.length_cons] at ih ⊢; omega
theorem cutAt_mem {c : UInt8} : ∀ {s x : Str}, x ∈ cutAt c s → x.length ≤ s.length
  | [], x, h => by
    unfold cutAt at h
    rw [List.mem_singleton] at h
    rw [h]
    exact Nat.le_refl _
  | b :: s, x, h => by
    unfold cutAt at h
    split at h
    · rcases List.mem_cons.1 h with rfl | h
      · simp
      · have := cutAt_mem h
        rw [List.length_cons]; omega
    · cases hs : cutAt c s with
      | nil => rw [hs] at h; rw [List.mem_singleton] at h; rw [h]; simp
      | cons p r =>
        rw [hs] at h
        have hp := cutAt_mem (c := c) (s := s) (x := p) (by rw [hs]; simp)
        rcases List.mem_cons.1 h with rfl | h
        · rw [List.length_cons, List.length_cons]; omega
        · have := cutAt_mem (c := c) (s := s) (x := x) (by rw [hs]; exact List.mem_cons_of_mem _ h)
          rw [List.length_cons]; omega
theorem trimNl_len (s : Str) : (trimNl s).length ≤ s.length := by
  unfold trimNl
  split
  · rw [List.length_dropLast]; omega
  · exact Nat.le_refl _
theorem linesL_len : ∀ s : Str, (linesL s).length ≤ s.length
  | [] => by simp [linesL]
  | b :: s => by
    have ih := linesL_len s
    unfold linesL
    split
    · rw [List.length_cons, List.length_cons]; omega
    · cases hs : linesL s with
      | nil => simp
      | cons p r => rw [hs] at ih; simp only [List.length_cons] at ih ⊢; omega
theorem postL_short {x : Str} (h : (cutAt 32 (trimNl x)).length < 3) : postL x = none := by
  unfold postL
  match hc : cutAt 32 (trimNl x), h with
  | [], _ => rfl
  | [_], _ => rfl
  | [_, _], _ => rfl
theorem postL_long {x a b : Str} {r : List Str} (h : cutAt 32 (trimNl x) = a :: b :: r) (hr : r ≠ []) : postL x = (numsL r).map fun l => ((a, b), l) := by
  unfold postL
  rw [h]
  cases r with
  | nil => exact absurd rfl hr
  | cons c r => rfl
/-- a block of ints lies as it lay -/
def KeepI (t : TypeId) (A B : World) : Prop := ∀ (k : Nat) (cs : Array Value) (fz : Nat × Nat), A.heap[k]? = some (Obj.cells cs t fz) → B.heap[k]? = A.heap[k]?
theorem KeepI.trans {t : TypeId} {A B C : World} (h : KeepI t A B) (k : KeepI t B C) : KeepI t A C := fun i cs fz hi => (k i cs fz ((h i cs fz hi).trans hi)).trans (h i cs fz hi)
theorem KeepI.of_below {t : TypeId} {A B : World} (h : Below A.heap.size A B) : KeepI t A B := fun k _ _ hk => h.block k (Array.getElem?_eq_some_iff.1 hk).1
theorem KeepI.of_grown {t : TypeId} {A B : World} {row : Option Nat} (h : A.grownBy B row) (hr : ∀ (k : Nat) (cs : Array Value) (fz : Nat × Nat), row = some k → A.heap[k]? ≠ some (Obj.cells cs t fz)) : KeepI t A B := fun k cs fz hk => h.block k (Array.getElem?_eq_some_iff.1 hk).1 fun e => hr k cs fz e.symm hk
/-- a posting whose lines lie in a block of ints -/
def LinT (t : TypeId) (W : World) (q : PIt) : Prop := ∃ b o k, q.2 = .slice (some ⟨b, o, none⟩) q.1.2.length k ∧ (∃ (cs : Array Value) (fz : Nat × Nat), W.heap[b]? = some (Obj.cells cs t fz)) ∧ PostS W (some ⟨b, o, none⟩) q.1
theorem LinT.keep {t : TypeId} {A B : World} {q : PIt} (h : LinT t A q) (hk : KeepI t A B) : LinT t B q := by
  obtain ⟨b, o, k, h1, ⟨cs, fz, h2⟩, h3⟩ := h
  have hb := hk b cs fz h2
  refine ⟨b, o, k, h1, ⟨cs, fz, hb.trans h2⟩, h3.word, h3.sec, h3.lines.len, h3.lines.small, fun i x hx => ?_⟩
  obtain ⟨b', o', v, he, hc, hr⟩ := h3.lines.cells i x hx
  cases he
  exact ⟨b, o, v, rfl, (World.cell?_of_block (w := A) (a := ⟨b, o + i, none⟩) hb).trans hc, hr⟩
/-- a row of parsed postings of the call's own -/
def OwnPp (t e : TypeId) (W : World) (base : Nat) (v : Value) (l : List Post) : Prop := ∃ qs : List PIt, qs.map (·.1) = l ∧ W.ownsRow base e 3 v l.length (qs.flatMap piC) ∧ ∀ q ∈ qs, LinT t W q
theorem OwnPp.posts {t e : TypeId} {W : World} {base : Nat} {v : Value} {l : List Post} (h : OwnPp t e W base v l) (hn : l.length ≤ 4611686018427387903) : ∃ a c, v = .slice a l.length c ∧ Posts W a l.length l ∧ l.length ≤ c := by
  obtain ⟨qs, h1, h2, h3⟩ := h
  exact OwnPs.gives (w0 := W) ⟨qs, h1, by rw [show qs.length = l.length by rw [← h1, List.length_map]]; exact h2, fun p hp => by
    obtain ⟨b, o, k, e1, _, e2⟩ := h3 p hp
    exact ⟨_, k, e1, e2⟩⟩ hn (Below.refl _ _)
end Go.Ap
namespace Go.Proofs.YtngdmpkoedpgdaaGreatDoor
open Go.RowKit Go.Ap Go.Shelf Go.Proofs

attribute [local go_sem] Oper.semAt_some bs_toList empty_toList bs_size bs_extract
/-- the library's own number -/
def EM (w : World) : Prop := ∃ m, w.cell? ⟨3, 0, none⟩ = some (.int .i64 m)
theorem EM.mono {w w' : World} {B : Nat} (h : EM w) (hB : w.heap.size ≤ B) (hb : Below B w w') : EM w' := by
  obtain ⟨m, h⟩ := h
  exact ⟨m, Go.Ap.cell_kept hB hb h⟩
theorem trimP (x : Str) (w : World) (hx : x.length ≤ 4611686018427387903) : Calls Tryz.prog 107 #[.string (bs x), .string { data := #[10] }] w fun e w' => e = .returned (.string (bs (trimNl x))) ∧ w = w' := by
  refine (Tryz.strings_TrimSuffix (bs x) { data := #[10] } w (by rw [bs_size]; omega)).mono ?_
  rintro e w' ⟨rfl, rfl⟩
  refine ⟨?_, rfl⟩
  rw [← trim_eq]
  rfl
theorem splitP (x : Str) (w : World) (hx : x.length ≤ 1000000) (hm : EM w) : Calls Tryz.prog 106 #[.string (bs x), .string { data := #[32] }] w fun e w' => e = .returned (.slice (some ⟨w.heap.size, 0, none⟩) (cutAt 32 x).length (cutAt 32 x).length) ∧ w' = w.alloc (.cells ((cutAt 32 x).map sv).toArray 9) := by
  obtain ⟨m, hm⟩ := hm
  refine (Tryz.strings_Split (bs x) { data := #[32] } m w (by rw [bs_size]; omega) hm (by decide)).mono ?_
  rintro e w' ⟨rfl, rfl⟩
  obtain ⟨h1, h2⟩ := split_cells x
  rw [h2, h1]
  exact ⟨rfl, rfl⟩
end Go.Proofs.YtngdmpkoedpgdaaGreatDoor
