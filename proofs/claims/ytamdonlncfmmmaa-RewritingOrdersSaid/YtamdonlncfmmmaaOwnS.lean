/-
  Slices of strings: as they come in, and of the call's own.
-/
import Derived.Test.YtamdonlncfmmmaaPStep
import Derived.RangeFuncBox
import Derived.Maps.AppendAt
namespace Go.Ap
open Go Go.RowKit

section
variable {w w' : World} {base base' : Nat} {e e' : TypeId} {size size' : Nat} {v v' : Value} {n n' : Nat} {xs xs' : List Value}
theorem owns_below (h : w.ownsRow base e size v n xs) (hb : Below w.heap.size w w') : w'.ownsRow base e size v n xs := by
  refine ⟨h.1, ?_⟩
  rcases h.2 with hn | ⟨g, cap, cur, rfl, hbb, hgg, rest⟩
  · exact .inl hn
  · exact .inr ⟨g, cap, cur, rfl, hbb, (hb.block g (Array.getElem?_eq_some_iff.1 hgg).1).trans hgg, rest⟩
theorem owns_mono (h : w.ownsRow base e size v n xs) (hb : base' ≤ base) : w.ownsRow base' e size v n xs := by
  refine ⟨h.1, ?_⟩
  rcases h.2 with hn | ⟨g, cap, cur, rfl, hbb, hgg, rest⟩
  · exact .inl hn
  · exact .inr ⟨g, cap, cur, rfl, by omega, hgg, rest⟩
theorem owns_apart (h : w.ownsRow base e size v n xs) (h' : w.ownsRow base' e' size' v' n' xs') (hne : e ≠ e') : v.ownBlock = none ∨ v.ownBlock ≠ v'.ownBlock := by
  rcases h.2 with ⟨rfl, _⟩ | ⟨g, cap, cur, rfl, _, hg, _⟩
  · exact .inl rfl
  · rcases h'.2 with ⟨rfl, _⟩ | ⟨g', cap', cur', rfl, _, hg', _⟩
    · exact .inr (by simp [Value.ownBlock])
    · refine .inr fun he => hne ?_
      obtain rfl : g = g' := by simpa [Value.ownBlock] using he
      rw [hg] at hg'
      simp at hg'
      exact hg'.2
theorem owns_lt (h : w.ownsRow base e size v n xs) : ∀ k, v.ownBlock = some k → k < w.heap.size := fun k hk => (h.lt k hk).2
end

/-- the value of a string -/
def sv (x : Str) : Value := .string (bs x)
theorem sv_one (x : Str) : (sv x).oneCell' = true := rfl
theorem sv_inj {x y : Str} (h : sv x = sv y) : x = y := by simpa [sv, bs_inj] using h

/-- a slice of strings -/
def StrR (_ : World) (v : Value) (x : Str) : Prop := v = sv x
abbrev StrsL := Sl StrR
theorem StrsL.mono {w w' : World} {B : Nat} {a : Option Addr} {n : Nat} {xs : List Str} (h : StrsL w a n xs) (hB : w.heap.size ≤ B) (hb : Below B w w') : StrsL w' a n xs := Sl.mono h hB hb (fun _ _ h => h)
theorem StrsL.drewN {w : World} {q : Nat} {a : Option Addr} {n : Nat} {xs : List Str} (h : StrsL w a n xs) : StrsL (w.drewN q) a n xs := ⟨h.len, h.small, h.cells⟩
theorem StrsL.at {w : World} {a : Option Addr} {n : Nat} {xs : List Str} (h : StrsL w a n xs) (hk : 0 < n) : ∃ b off, a = some ⟨b, off, none⟩ ∧ ∀ j x, xs[j]? = some x → w.cell? ⟨b, off + j, none⟩ = some (.string (bs x)) := by
  obtain ⟨x, b, off, v, _, ha, _, _⟩ := Sl.at h hk
  refine ⟨b, off, ha, fun j x hj => ?_⟩
  obtain ⟨b', off', v', ha', hc, rfl⟩ := h.cells j x hj
  rw [ha] at ha'
  cases ha'
  exact hc

/-- a slice of strings of the call's own -/
def OwnS (w : World) (base : Nat) (v : Value) (xs : List Str) : Prop := w.ownsRow base 9 1 v xs.length (xs.map sv)
section
variable {w w' w1 : World} {base base' : Nat} {v u v' : Value} {xs : List Str}
theorem OwnS.below (h : OwnS w base v xs) (hb : Below w.heap.size w w') : OwnS w' base v xs := owns_below h hb
theorem OwnS.mono (h : OwnS w base v xs) (hb : base' ≤ base) : OwnS w base' v xs := owns_mono h hb
theorem OwnS.nil (w : World) (base : Nat) : OwnS w base (.slice none 0 0) [] := World.ownsRow_nil _ _ _ _
theorem OwnS.empty (w : World) {base : Nat} (hw : base ≤ w.heap.size) : OwnS (w.alloc (.cells #[] 9)) base (.slice (some ⟨w.heap.size, 0, none⟩) 0 0) [] :=
  World.ownsRow_made w #[] 0 hw (by simp [maxLen]) rfl
theorem OwnS.one (w : World) {base : Nat} (hw : base ≤ w.heap.size) (x : Str) : OwnS (w.alloc (.cells #[.string (bs x)] 9)) base (.slice (some ⟨w.heap.size, 0, none⟩) 1 1) [x] :=
  ⟨rfl, .inr ⟨w.heap.size, 1, #[.string (bs x)], rfl, hw, World.alloc_heap_new w _, by simp, by simp [maxLen], rfl, by simp [sv]⟩⟩
theorem OwnS.three (w : World) {base : Nat} (hw : base ≤ w.heap.size) (x y z : Str) : OwnS (w.alloc (.cells #[.string (bs x), .string (bs y), .string (bs z)] 9)) base (.slice (some ⟨w.heap.size, 0, none⟩) 3 3) [x, y, z] :=
  ⟨rfl, .inr ⟨w.heap.size, 3, #[.string (bs x), .string (bs y), .string (bs z)], rfl, hw, World.alloc_heap_new w _, by simp, by simp [maxLen], rfl, by simp [sv]⟩⟩
theorem OwnS.pushed {x : Str} {tmp : Obj} (h : OwnS w base v xs) (hb : base ≤ w.heap.size) (hown : w1.ownsRow base 9 1 v' (xs.length + 1) (xs.map sv ++ [.string (bs x)])) (hg : (w.alloc tmp).grownBy w1 v.ownBlock) :
    OwnS w1 base v' (xs ++ [x]) ∧ Below base w w1 :=
  ⟨by unfold OwnS; simpa [sv] using hown, ((Below.refl base w).alloc hb tmp).grown hg (by simp; omega) (fun k hk => (h.lt k hk).1)⟩
theorem OwnS.addr (h : OwnS w base v xs) (hn : 0 < xs.length) : ∃ b c, v = .slice (some ⟨b, 0, none⟩) xs.length c ∧ base ≤ b ∧ ∀ j x, xs[j]? = some x → w.cell? ⟨b, j, none⟩ = some (.string (bs x)) := by
  rcases h.2 with ⟨_, h0⟩ | ⟨g, cap, _, rfl, hb, _⟩
  · omega
  · refine ⟨g, cap, rfl, hb, fun j x hj => ?_⟩
    have hc := World.ownsRow.cells h (g := g) rfl j (sv x) (by simp [hj])
    have hadd : (⟨g, 0, none⟩ : Addr).add j = ⟨g, j, none⟩ := by unfold Addr.add; split <;> simp_all
    rw [hadd] at hc
    exact hc
theorem OwnS.strs (h : OwnS w base v xs) (hn : xs.length ≤ 4611686018427387903) : ∃ a c, v = .slice a xs.length c ∧ StrsL w a xs.length xs := by
  rcases h.2 with ⟨rfl, h0⟩ | ⟨g, cap, _, rfl, hb, _⟩
  · have : xs = [] := List.eq_nil_of_length_eq_zero h0
    subst this
    exact ⟨none, 0, rfl, Sl.nil _ _⟩
  · refine ⟨_, cap, rfl, rfl, hn, fun k x hk => ?_⟩
    have hc := World.ownsRow.cells h (g := g) rfl k (sv x) (by simp [hk])
    have hadd : (⟨g, 0, none⟩ : Addr).add k = ⟨g, 0 + k, none⟩ := by unfold Addr.add; split <;> simp_all
    rw [hadd] at hc
    exact ⟨g, 0, _, rfl, hc, rfl⟩
end
/-- a new slice of strings, and an error -/
def GivesS (w : World) (er : Int) (l : List Str) (e : Ending) (w' : World) : Prop := ∃ v, e = .returned (.tuple #[v, .int .i64 er]) ∧ OwnS w' w.heap.size v l ∧ Below w.heap.size w w'

/-- what rules make of a string is no longer than it -/
def Val (rs : List Rule) : Prop := ∀ r ∈ rs, r.2.length ≤ r.1.length
theorem val_bad : ∀ {rs : List Rule}, badR rs = 0 → Val rs
  | [], _ => fun r hr => by cases hr
  | x :: rs, h => by
    rw [badR] at h
    split at h
    · rename_i hx
      intro r hr
      rcases List.mem_cons.1 hr with rfl | hr
      · unfold rightB at hx
        split at hx
        · cases hx
        split at hx
        · cases hx
        split at hx
        · cases hx
        split at hx
        · cases hx
        omega
      · exact val_bad h r hr
    · contradiction
theorem val_of {rs : List Rule} (h : chkR rs = 0) : Val rs := by
  unfold chkR at h
  split at h
  · cases h
  · exact val_bad h
theorem appl_len {rs : List Rule} {s z : Str} {i : Nat} {r : Rule} (hv : Val rs) (hr : r ∈ rs) (h : appl s i r = some z) : z.length ≤ s.length := by
  unfold appl at h
  split at h
  · rename_i hp
    have h1 := (List.isPrefixOf_iff_prefix.1 hp).length_le
    have h2 := hv r hr
    rw [List.length_drop] at h1
    injection h with h
    rw [← h]
    simp only [List.length_append, List.length_take, List.length_drop]
    omega
  · cases h
theorem resL_len {rs : List Rule} {s z : Str} (hv : Val rs) (h : z ∈ resL rs s) : z.length ≤ s.length := by
  unfold resL resAt at h
  obtain ⟨i, _, h⟩ := List.mem_flatMap.1 h
  obtain ⟨r, hr, h⟩ := List.mem_filterMap.1 h
  exact appl_len hv hr h
theorem stepL_len {rs : List Rule} {s : Str} (hv : Val rs) : (stepL rs s).1.length ≤ s.length := by
  unfold stepL
  split
  · exact Nat.le_refl _
  · rename_i x l h
    exact resL_len hv (by rw [h]; exact List.mem_cons_self)

/-- the steps from a string on, if there are at most f -/
def traceF (rs : List Rule) : Nat → Str → Option (List Str)
  | 0, s => if (stepL rs s).2 = true then none else some [s]
  | f + 1, s => if (stepL rs s).2 = true then (traceF rs f (stepL rs s).1).map (s :: ·) else some [s]
def traceE (rs : List Rule) (s : Str) : Int × List Str := match traceF rs 4095 s with
  | some l => (0, l)
  | none => (4, [])
/-- where a trace stands: what has been passed, the string, how many steps may follow -/
def AtT (rs : List Rule) (s : Str) (l : List Str) (x : Str) : Prop := ∃ pre, l = pre ++ [x] ∧ pre.length ≤ 4095 ∧ traceF rs 4095 s = (traceF rs (4095 - pre.length) x).map (pre ++ ·)
theorem AtT.start {rs : List Rule} {s : Str} : AtT rs s [s] s := ⟨[], rfl, by simp, by simp⟩
theorem AtT.next {rs : List Rule} {s x y : Str} {l : List Str} (h : AtT rs s l x) (hs : stepL rs x = (y, true)) (hl : l.length ≠ 4096) : AtT rs s (l ++ [y]) y := by
  obtain ⟨pre, rfl, h1, h2⟩ := h
  simp only [List.length_append, List.length_singleton] at hl
  obtain ⟨f, hf⟩ : ∃ f, 4095 - pre.length = f + 1 := ⟨4095 - pre.length - 1, by omega⟩
  refine ⟨pre ++ [x], rfl, by simp; omega, ?_⟩
  rw [h2, hf, traceF, hs, if_pos rfl, show 4095 - (pre ++ [x]).length = f by simp; omega, Option.map_map]
  congr 1
  funext l
  simp
theorem AtT.full {rs : List Rule} {s x y : Str} {l : List Str} (h : AtT rs s l x) (hs : stepL rs x = (y, true)) (hl : l.length = 4096) : traceE rs s = (4, []) := by
  obtain ⟨pre, rfl, h1, h2⟩ := h
  simp only [List.length_append, List.length_singleton] at hl
  rw [traceE, h2, show 4095 - pre.length = 0 by omega, traceF, hs, if_pos rfl]
  rfl
theorem AtT.done {rs : List Rule} {s x y : Str} {l : List Str} (h : AtT rs s l x) (hs : stepL rs x = (y, false)) : traceE rs s = (0, l) := by
  obtain ⟨pre, rfl, h1, h2⟩ := h
  have h3 : traceF rs (4095 - pre.length) x = some [x] := by
    cases 4095 - pre.length <;> (rw [traceF, hs, if_neg (by simp)])
  rw [traceE, h2, h3]
  rfl
theorem AtT.len {rs : List Rule} {s x : Str} {l : List Str} (h : AtT rs s l x) : 1 ≤ l.length ∧ l.length ≤ 4096 ∧ l[l.length - 1]? = some x := by
  obtain ⟨pre, rfl, h1, h2⟩ := h
  simp; omega
/-- Trace, Normalize, Step, Normal, in plain words -/
def TrE (rs : List Rule) (s : Str) : Int × List Str := if chkW rs s = 0 then traceE rs s else (chkW rs s, [])
def NfE (rs : List Rule) (s : Str) : Int × Str := if (TrE rs s).1 = 0 then (0, (TrE rs s).2.getLastD []) else ((TrE rs s).1, [])
def StE (rs : List Rule) (s : Str) : Str × Bool × Int := if chkW rs s = 0 then ((stepL rs s).1, (stepL rs s).2, 0) else ([], false, chkW rs s)
def NoE (rs : List Rule) (s : Str) : Bool × Int := if chkW rs s = 0 then (!(stepL rs s).2, 0) else (false, chkW rs s)
theorem chkW_ok {rs : List Rule} {s : Str} (h : chkW rs s = 0) : chkR rs = 0 ∧ s.length ≤ 64 ∧ wordB s = true := by
  unfold chkW at h
  split at h
  · cases h
  · rename_i h1
    split at h
    · cases h
    · rename_i h2
      split at h
      · cases h
      · rename_i h3
        exact ⟨by omega, by omega, by simpa using h3⟩
theorem chkW_rng (rs : List Rule) (s : Str) : chkW rs s = 0 ∨ chkW rs s = 1 ∨ chkW rs s = 4 ∨ chkW rs s = 11 := by
  unfold chkW
  split
  · exact .inr (.inl rfl)
  · split
    · exact .inr (.inr (.inl rfl))
    · split
      · exact .inr (.inr (.inr rfl))
      · exact .inl rfl
theorem traceF_ne {rs : List Rule} : ∀ {f : Nat} {s : Str} {l : List Str}, traceF rs f s = some l → l ≠ []
  | 0, s, l, h => by
    rw [traceF] at h
    split at h
    · cases h
    · injection h with h; rw [← h]; simp
  | f + 1, s, l, h => by
    rw [traceF] at h
    split at h
    · obtain ⟨t, _, rfl⟩ := Option.map_eq_some_iff.1 h
      simp
    · injection h with h; rw [← h]; simp
theorem traceE_ne {rs : List Rule} {s : Str} {l : List Str} (h : traceE rs s = (0, l)) : l ≠ [] := by
  unfold traceE at h
  split at h
  · rename_i l' hl
    injection h with _ h
    rw [← h]
    exact traceF_ne hl
  · injection h with h _
    cases h
theorem TrE_ne {rs : List Rule} {s : Str} (h : (TrE rs s).1 = 0) : (TrE rs s).2 ≠ [] := by
  unfold TrE at *
  split
  · rename_i hc
    rw [if_pos hc] at h
    exact traceE_ne (Prod.ext h rfl)
  · rename_i hc
    rw [if_neg hc] at h
    exact absurd h hc
theorem traceF_len {rs : List Rule} : ∀ {f : Nat} {s : Str} {l : List Str}, traceF rs f s = some l → l.length ≤ f + 1
  | 0, s, l, h => by
    rw [traceF] at h
    split at h
    · cases h
    · injection h with h; rw [← h]; simp
  | f + 1, s, l, h => by
    rw [traceF] at h
    split at h
    · obtain ⟨t, ht, rfl⟩ := Option.map_eq_some_iff.1 h
      have := traceF_len ht
      simp; omega
    · injection h with h; rw [← h]; simp
theorem TrE_len {rs : List Rule} {s : Str} : (TrE rs s).2.length ≤ 4096 := by
  unfold TrE
  split
  · unfold traceE
    split
    · rename_i l hl; exact traceF_len hl
    · simp
  · simp
end Go.Ap
