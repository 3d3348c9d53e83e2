/-
  Sizes, words, equal slices: the small functions of the laws.
-/
import Derived.Test.YtbahddjbncinbaaGreatDoorBp
namespace Go.Ap
open Go Go.RowKit
/-- an own row of wide elements, read as cells -/
theorem flat_at {α : Type} {f : α → List Value} {m : Nat} (hf : ∀ x, (f x).length = m) : ∀ {xs : List α} {k : Nat} {x : α} {i : Nat} {u : Value}, xs[k]? = some x → (f x)[i]? = some u → (xs.flatMap f)[k * m + i]? = some u
  | [], k, x, i, u, h, _ => by simp at h
  | y :: xs, 0, x, i, u, h, hu => by
    simp only [List.getElem?_cons_zero, Option.some.injEq] at h
    subst h
    rw [List.flatMap_cons, Nat.zero_mul, Nat.zero_add, List.getElem?_append_left (List.getElem?_eq_some_iff.1 hu).1]
    exact hu
  | y :: xs, k + 1, x, i, u, h, hu => by
    rw [List.flatMap_cons, List.getElem?_append_right (by rw [hf, Nat.succ_mul]; omega), hf, Nat.succ_mul, show k * m + m + i - m = k * m + i by omega]
    exact flat_at hf (by simpa using h) hu
theorem owns_flat {α : Type} {f : α → List Value} {m : Nat} (hf : ∀ x, (f x).length = m) {w : World} {base : Nat} {e : TypeId} {v : Value} {xs : List α} {R : World → Nat → Nat → α → Prop} (h : w.ownsRow base e m v xs.length (xs.flatMap f)) (hn : xs.length ≤ 4611686018427387903)
    (hR : ∀ b o x, x ∈ xs → (∀ i u, (f x)[i]? = some u → w.cell? ⟨b, o + i, none⟩ = some u) → R w b o x) : ∃ a c, v = .slice a xs.length c ∧ SlM m R w a xs.length xs := by
  rcases h.2 with ⟨rfl, h0⟩ | ⟨g, cap, cur, rfl, _, _, _, _, _, _⟩
  · have : xs = [] := List.eq_nil_of_length_eq_zero h0
    subst this
    exact ⟨none, 0, rfl, SlM.nil _ _⟩
  · refine ⟨_, cap, rfl, rfl, hn, fun k x hk => ⟨g, 0, rfl, hR _ _ _ (List.mem_of_getElem? hk) fun i u hu => ?_⟩⟩
    have hc := h.cells (g := g) rfl (k * m + i) u (flat_at hf hk hu)
    have hadd : (⟨g, 0, none⟩ : Addr).add (k * m + i) = ⟨g, k * m + i, none⟩ := by unfold Addr.add; split <;> simp_all
    rw [hadd] at hc
    rw [Nat.zero_add]
    exact hc
/-- a block as it lies -/
def BlkR (w : World) (b o : Nat) (x : Blk) : Prop := w.cell? ⟨b, o, none⟩ = some (.int .i64 x.fst) ∧ w.cell? ⟨b, o + 1, none⟩ = some (.int .i64 x.snd) ∧ w.cell? ⟨b, o + 2, none⟩ = some (.int .i64 x.len)
abbrev Blks := SlM 3 BlkR
theorem OwnB.blks {w : World} {base : Nat} {v : Value} {bs : List Blk} (h : OwnB w base v bs) (hn : bs.length ≤ 4611686018427387903) : ∃ a c, v = .slice a bs.length c ∧ Blks w a bs.length bs :=
  owns_flat (f := blkC) (m := 3) (fun _ => rfl) h hn fun _ _ _ _ hc => ⟨hc 0 _ rfl, hc 1 _ rfl, hc 2 _ rfl⟩
def tokC6 (t : Tok) : List Value := [.string (bs t.text), .string (bs t.norm), .string (bs t.page), .int .i64 t.line, .int .i64 t.flags, .string (bs t.name)]
def OwnTk (w : World) (base : Nat) (v : Value) (ts : List Tok) : Prop := w.ownsRow base 39 6 v ts.length (ts.flatMap tokC6)
theorem OwnTk.toks {w : World} {base : Nat} {v : Value} {ts : List Tok} (h : OwnTk w base v ts) (hn : ts.length ≤ 4611686018427387903) (hs : ∀ t ∈ ts, TokS t) : ∃ a c, v = .slice a ts.length c ∧ Toks w a ts.length ts :=
  owns_flat (f := tokC6) (m := 6) (fun _ => rfl) h hn fun _ _ t ht hc => ⟨⟨hc 0 _ rfl, hc 1 _ rfl, hc 2 _ rfl, hc 3 _ rfl, hc 4 _ rfl, hc 5 _ rfl⟩, hs t ht⟩
def wTok (s : Str) : Tok := ⟨s, s, [], 0, 0, []⟩
end Go.Ap
namespace Go.Proofs.YtbahddjbncinbaaGreatDoor
open Go.RowKit Go.Ap Go.Shelf Go.Proofs

attribute [local go_sem] Oper.semAt_some bs_toList empty_toList bs_size bs_extract
theorem blks_mono {w w' : World} {B : Nat} {a : Option Addr} {n : Nat} {bs : List Blk} (h : Blks w a n bs) (hB : w.heap.size ≤ B) (hb : Below B w w') : Blks w' a n bs :=
  SlM.mono h fun _ _ _ ⟨h1, h2, h3⟩ => ⟨cell_keep (hb.mono hB) h1, cell_keep (hb.mono hB) h2, cell_keep (hb.mono hB) h3⟩
theorem eqInts (a a' : Option Addr) (c c' n n' : Nat) (xs ys : List Int) (w : World) (h : Ints w a n xs) (h' : Ints w a' n' ys) : Calls Tryz.prog 21 #[.slice a n c, .slice a' n' c'] w fun e w' => e = .returned (.bool (decide (xs = ys))) ∧ ∃ q, w' = w.drewN q := by
  have hl := h.len
  have hl' := h'.len
  have hs := h.small
  have hs' := h'.small
  by_cases hn : n = n'
  · subst hn
    rcases Nat.eq_zero_or_pos n with h0 | h0
    · subst h0
      have e1 : xs = [] := List.eq_nil_of_length_eq_zero hl
      have e2 : ys = [] := List.eq_nil_of_length_eq_zero hl'
      subst e1 e2
      exact (Tryz.slices_Equal_int_empty a a' c 0 c' w (by omega)).mono fun e w' ⟨he, hw⟩ => ⟨by rw [he]; rfl, 0, hw⟩
    · obtain ⟨b, off, rfl, hc⟩ := h.at h0
      obtain ⟨b', off', rfl, hc'⟩ := h'.at h0
      refine (Tryz.slices_Equal_int b off n c b' off' n c' xs ys w (by omega) (by omega) (by omega) (by omega) (fun j hj => hc j (by omega)) (fun j hj => hc' j (by omega))).mono fun e w' ⟨he, hw⟩ => ⟨?_, hw⟩
      rw [he, List.take_of_length_le (by omega), List.take_of_length_le (by omega)]
      exact congrArg (fun b => Ending.returned (.bool b)) (by rw [Bool.eq_iff_iff]; simp)
  · exact (Tryz.slices_Equal_int_lens a a' n c n' c' w hn).mono fun e w' ⟨he, hw⟩ => ⟨by
      rw [he]
      exact congrArg (fun b => Ending.returned (.bool b)) (by rw [eq_comm, decide_eq_false_iff_not]; intro h; exact hn (by rw [← hl, ← hl', h])), 0, hw⟩
set_option maxHeartbeats 2000000 in
/-- two equal lists of blocks -/
theorem eqBks (a a' : Option Addr) (n c c' : Nat) (xs : List Blk) (w : World) (h : Blks w a n xs) (h' : Blks w a' n xs) : Calls Tryz.prog 49 #[.slice a n c, .slice a' n c'] w fun e w' => e = .returned (.bool true) ∧ Below w.heap.size w w' := by
  have hs := h.small
  have HX := Lib.hid h
  have HY := Lib.hid h'
  have d0 : ((n : Int) != (n : Int)) = false := by simp
  clear h h'
  go_enter Tryz.func49, Tryz.ntmps49
  go_wp2_with (fail)
  go_loopw [13] (fun iv wr => ∃ i : Nat, i ≤ n ∧ iv = .int .i64 i ∧ Below w.heap.size w wr) (fun iv _ => n - (intOf iv).toNat)
  case atStart => exact ⟨0, Nat.zero_le _, rfl, Below.refl _ _⟩
  case round =>
    obtain ⟨wi, rfl⟩ : ∃ wi : World, wi = wr := ⟨_, rfl⟩
    obtain ⟨i, hi, rfl, hb⟩ := hrel
    have HB := Lib.hid hb
    by_cases hin : i < n
    · obtain ⟨x, b, o, hx, rfl, x0, x1, x2⟩ := HX.out.at hin
      obtain ⟨y, b', o', hy, rfl, y0, y1, y2⟩ := HY.out.at hin
      rw [hx] at hy
      cases hy
      have x0 := cell_keep hb x0
      have x1 := cell_keep hb x1
      have x2 := cell_keep hb x2
      have y0 := cell_keep hb y0
      have y1 := cell_keep hb y1
      have y2 := cell_keep hb y2
      have i1 : (i : Int) < (n : Int) := by omega
      clear hx hb
      go_wp2_with (fail)
      go_quiet (fail)
      go_wp2_with (fail)
      go_roundw
      case rel => exact ⟨i + 1, by omega, by simp, bstep HB.out (bdrewN _ _)⟩
      case measure => simp [intOf]; omega
    · obtain rfl : n = i := by omega
      clear hb
      go_wp2_with (fail)
      go_ret
      exact ⟨rfl, HB.out⟩
theorem long71 (s : Str) (w : World) (hs : s.length ≤ 4611686018427387903) : Calls Tryz.prog 71 #[.string (bs s)] w fun e w' => (∃ b, e = .returned (.bool b)) ∧ Below w.heap.size w w' := by
  go_enter Tryz.func71, Tryz.ntmps71
  have hsl := hs
  clear hs
  cases h1 : decide ((12 : Int) < (s.length : Int)) <;> cases h2 : decide ((s.length : Int) ≤ 64) <;> cases h3 : decide ((66 : Int) < (s.length : Int))
  all_goals
    go_wp2_with (fail)
    go_ret
    first | exact ⟨⟨_, rfl⟩, Below.refl _ _⟩ | exact ⟨.inl rfl, Below.refl _ _⟩ | exact ⟨.inr rfl, Below.refl _ _⟩
end Go.Proofs.YtbahddjbncinbaaGreatDoor
