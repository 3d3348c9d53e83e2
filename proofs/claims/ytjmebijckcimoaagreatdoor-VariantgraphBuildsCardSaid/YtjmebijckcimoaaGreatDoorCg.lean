import Derived.Test.YtjmebijckcimoaaGreatDoorPlM24
import Derived.Test.YtjmebijckcimoaaGreatDoorCl24
import Derived.Test.YtjmebijckcimoaaGreatDoorVgk
import Derived.Test.YtjmebijckcimoaaGreatDoorVg
import Derived.Test.YtjmebijckcimoaaGreatDoorCn24
import Derived.Test.YtjmebijckcimoaaGreatDoorMg
import Derived.Test.YtjmebijckcimoaaGreatDoorMk
import Derived.Sort.MapsRangeIn
import Derived.Test.YtjmebijckcimoaaGreatDoorSp
import Derived.Test.YtjmebijckcimoaaGreatDoorAr
import Derived.Test.YtjmebijckcimoaaGreatDoorBl


namespace Go.Ap
open Go Go.RowKit
section
variable {F : Fence} {P : Program} {ops : Array Oper} {md : Region.Mode} {S : World → Prop} {n m : Nat} {Q : Exit → Act → World → Prop}
/-- operations that only read come first, one behind the other -/
def wpTk (P : Program) (ops : Array Oper) (S : World → Prop) (K : Act → World → Prop) : List Nat → Act → World → Prop
  | [], a, w => K a w
  | i :: r, a, w => ∃ oi v, ops[i]? = some oi ∧ YieldsIf P ops S oi v a ∧ wpTk P ops S K r (a.put oi.dst v) w
def tkB' (md : Region.Mode) (ops : Array Oper) : List Nat → Array Bool → Bool
  | [], _ => true
  | i :: r, l => (Region.ready md ops l).contains i && Region.free md ops l i && tkB' md ops r (l.setIfInBounds i true)
def tkL : List Nat → Array Bool → Array Bool
  | [], l => l
  | i :: r, l => tkL r (l.setIfInBounds i true)
theorem wpAnyR_tk (hF : ∀ f, F.fn f) (hsel : Region.noSelect ops = true) (hdef : noDefer ops = true) (hQ : ∀ d v c a w, Q (.panic c) (a.put d v) w → Q (.panic c) a w) {K : Act → World → Prop} {fuel : Nat} :
    ∀ (ts : List Nat) (listed : Array Bool) (a : Act) (w : World), HeadInv md ops ops.size listed → tkB' md ops ts listed = true → S w → wpTk P ops S K ts a w →
      (∀ a' w', S w' → K a' w' → wpAnyR F n P md ops Q S ops.size fuel (tkL ts listed) a' w') → wpAnyR F n P md ops Q S ops.size (fuel + ts.length) listed a w
  | [], listed, a, w, _, _, hS, h, hK => hK a w hS h
  | i :: r, listed, a, w, inv, hB, hS, ⟨oi, v, ho, hy, h⟩, hK => by
    simp only [tkB', Bool.and_eq_true] at hB
    obtain ⟨⟨hr, hf⟩, hB'⟩ := hB
    have hr' : i ∈ Region.ready md ops listed := by simpa using hr
    have him : i < ops.size := (Array.getElem?_eq_some_iff.1 ho).1
    exact wpAnyR_first hF ho (Region.noSelect_spec hsel) (fun j o c hj => noDefer_spec hdef hj c) gate_all him (fun c a w => hQ _ _ c a w) (fuel + r.length) listed a w inv (Region.free_spec ho hf) hr' hy hS
      (wpAnyR_tk hF hsel hdef hQ r _ _ _ (setInv inv hr' him) hB' hS h hK)
def L6 (b2 b5 b6 b7 b8 b9 : Bool) : Array Bool := #[true, true, b2, true, true, b5, b6, b7, b8, b9]
def f6 (b : Bool) : Nat := if b then 0 else 1
def c6 (b2 b5 b6 b7 b8 b9 : Bool) : Nat := f6 b2 + f6 b5 + f6 b6 + f6 b7 + f6 b8 + f6 b9
def may6 (b2 b5 b6 b7 b8 b9 : Bool) (i : Nat) : Bool := (i == 2 && !b2) || (i == 5 && !b5) || (i == 6 && !b6) || (i == 7 && !b7) || (i == 8 && !b8 && b2 && b6 && b7) || (i == 9 && !b9 && b2 && b5 && b6 && b7 && b8)
def sixB (md : Region.Mode) (ops : Array Oper) : Bool :=
  [true, false].all fun b2 => [true, false].all fun b5 => [true, false].all fun b6 => [true, false].all fun b7 => [true, false].all fun b8 => [true, false].all fun b9 =>
    ((Region.ready md ops (L6 b2 b5 b6 b7 b8 b9)).all (may6 b2 b5 b6 b7 b8 b9)) && ((Region.ready md ops (L6 b2 b5 b6 b7 b8 b9)).isEmpty == (b2 && b5 && b6 && b7 && b8 && b9))
theorem sixB_spec (h : sixB md ops = true) (b2 b5 b6 b7 b8 b9 : Bool) : (∀ i ∈ Region.ready md ops (L6 b2 b5 b6 b7 b8 b9), may6 b2 b5 b6 b7 b8 b9 i = true) ∧ ((Region.ready md ops (L6 b2 b5 b6 b7 b8 b9)).isEmpty = (b2 && b5 && b6 && b7 && b8 && b9)) := by
  have key : ((Region.ready md ops (L6 b2 b5 b6 b7 b8 b9)).all (may6 b2 b5 b6 b7 b8 b9)) = true ∧ ((Region.ready md ops (L6 b2 b5 b6 b7 b8 b9)).isEmpty == (b2 && b5 && b6 && b7 && b8 && b9)) = true := by
    have hm : ∀ b : Bool, b ∈ [true, false] := fun b => by cases b <;> simp
    have g2 := List.all_eq_true.1 h b2 (hm b2)
    have g5 := List.all_eq_true.1 g2 b5 (hm b5)
    have g6 := List.all_eq_true.1 g5 b6 (hm b6)
    have g7 := List.all_eq_true.1 g6 b7 (hm b7)
    have g8 := List.all_eq_true.1 g7 b8 (hm b8)
    have g9 := List.all_eq_true.1 g8 b9 (hm b9)
    exact (Bool.and_eq_true _ _).mp g9
  exact ⟨fun i hi => List.all_eq_true.1 key.1 i hi, by simpa using key.2⟩
section
variable {Inv : Bool → Bool → Bool → Bool → Bool → Bool → Act → World → Prop}
theorem wpAnyR_six (hB : sixB md ops = true)
    (h2 : ∀ b5 b6 b7 b8 b9 a w, Inv false b5 b6 b7 b8 b9 a w → wpOpIn F n P ops Q 2 (fun a' w' => S w' ∧ Inv true b5 b6 b7 b8 b9 a' w') a w)
    (h5 : ∀ b2 b6 b7 b8 b9 a w, Inv b2 false b6 b7 b8 b9 a w → wpOpIn F n P ops Q 5 (fun a' w' => S w' ∧ Inv b2 true b6 b7 b8 b9 a' w') a w)
    (h6 : ∀ b2 b5 b7 b8 b9 a w, Inv b2 b5 false b7 b8 b9 a w → wpOpIn F n P ops Q 6 (fun a' w' => S w' ∧ Inv b2 b5 true b7 b8 b9 a' w') a w)
    (h7 : ∀ b2 b5 b6 b8 b9 a w, Inv b2 b5 b6 false b8 b9 a w → wpOpIn F n P ops Q 7 (fun a' w' => S w' ∧ Inv b2 b5 b6 true b8 b9 a' w') a w)
    (h8 : ∀ b5 b9 a w, Inv true b5 true true false b9 a w → wpOpIn F n P ops Q 8 (fun a' w' => S w' ∧ Inv true b5 true true true b9 a' w') a w)
    (h9 : ∀ a w, Inv true true true true true false a w → wpOpIn F n P ops Q 9 (fun a' w' => S w' ∧ Inv true true true true true true a' w') a w)
    (hf : ∀ a w, Inv true true true true true true a w → Q .normal a w) :
    ∀ (fuel : Nat) (b2 b5 b6 b7 b8 b9 : Bool) (a : Act) (w : World), c6 b2 b5 b6 b7 b8 b9 = fuel → Inv b2 b5 b6 b7 b8 b9 a w → wpAnyR F n P md ops Q S m fuel (L6 b2 b5 b6 b7 b8 b9) a w := by
  intro fuel
  induction fuel with
  | zero =>
    intro b2 b5 b6 b7 b8 b9 a w hc hI
    obtain ⟨s1, s2⟩ := sixB_spec hB b2 b5 b6 b7 b8 b9
    have hall : b2 = true ∧ b5 = true ∧ b6 = true ∧ b7 = true ∧ b8 = true ∧ b9 = true := by
      unfold c6 f6 at hc
      cases b2 <;> cases b5 <;> cases b6 <;> cases b7 <;> cases b8 <;> cases b9 <;> simp at hc ⊢
    obtain ⟨rfl, rfl, rfl, rfl, rfl, rfl⟩ := hall
    exact ⟨by simpa using s2, hf a w hI⟩
  | succ fuel ih =>
    intro b2 b5 b6 b7 b8 b9 a w hc hI
    obtain ⟨s1, s2⟩ := sixB_spec hB b2 b5 b6 b7 b8 b9
    refine ⟨fun h0 => ?_, fun i hi => ?_⟩
    · rw [h0] at s2
      have hall : b2 = true ∧ b5 = true ∧ b6 = true ∧ b7 = true ∧ b8 = true ∧ b9 = true := by
        cases b2 <;> cases b5 <;> cases b6 <;> cases b7 <;> cases b8 <;> cases b9 <;> simp at s2 ⊢
      obtain ⟨rfl, rfl, rfl, rfl, rfl, rfl⟩ := hall
      cases hc
    · have hm := s1 i hi
      unfold may6 at hm
      simp only [Bool.or_eq_true, Bool.and_eq_true, beq_iff_eq, Bool.not_eq_true'] at hm
      rcases hm with ((((⟨rfl, rfl⟩ | ⟨rfl, rfl⟩) | ⟨rfl, rfl⟩) | ⟨rfl, rfl⟩) | ⟨⟨⟨⟨rfl, rfl⟩, rfl⟩, rfl⟩, rfl⟩) | ⟨⟨⟨⟨⟨⟨rfl, rfl⟩, rfl⟩, rfl⟩, rfl⟩, rfl⟩, rfl⟩
      · exact wpOpIn_mono (fun a' w' h' => ⟨fun _ => h'.1, ih true b5 b6 b7 b8 b9 a' w' (by simp only [c6, f6, Bool.false_eq_true, if_true, if_false] at hc ⊢; omega) h'.2⟩) (h2 _ _ _ _ _ _ _ hI)
      · exact wpOpIn_mono (fun a' w' h' => ⟨fun _ => h'.1, ih b2 true b6 b7 b8 b9 a' w' (by simp only [c6, f6, Bool.false_eq_true, if_true, if_false] at hc ⊢; omega) h'.2⟩) (h5 _ _ _ _ _ _ _ hI)
      · exact wpOpIn_mono (fun a' w' h' => ⟨fun _ => h'.1, ih b2 b5 true b7 b8 b9 a' w' (by simp only [c6, f6, Bool.false_eq_true, if_true, if_false] at hc ⊢; omega) h'.2⟩) (h6 _ _ _ _ _ _ _ hI)
      · exact wpOpIn_mono (fun a' w' h' => ⟨fun _ => h'.1, ih b2 b5 b6 true b8 b9 a' w' (by simp only [c6, f6, Bool.false_eq_true, if_true, if_false] at hc ⊢; omega) h'.2⟩) (h7 _ _ _ _ _ _ _ hI)
      · exact wpOpIn_mono (fun a' w' h' => ⟨fun _ => h'.1, ih true b5 true true true b9 a' w' (by simp only [c6, f6, Bool.false_eq_true, if_true, if_false] at hc ⊢; omega) h'.2⟩) (h8 _ _ _ _ hI)
      · exact wpOpIn_mono (fun a' w' h' => ⟨fun _ => h'.1, ih true true true true true true a' w' (by simp only [c6, f6, Bool.false_eq_true, if_true, if_false] at hc ⊢; omega) h'.2⟩) (h9 _ _ hI)
end
/-- four slots filled in an Act -/
def fill4 (a : Act) (s1 s2 s3 s4 : Nat) (v1 v2 v3 v4 : Value) : Act := { a with tmps := (((a.tmps.setIfInBounds s1 v1).setIfInBounds s2 v2).setIfInBounds s3 v3).setIfInBounds s4 v4 }
def plannedX (ops : Array Oper) : Bool := Region.noSelect ops && noDefer ops && decide (ops.size = 10) && tkB' .any ops [0, 1, 3, 4] (Array.replicate ops.size false) && sixB .any ops
theorem wpIn_region_six {id : Nat} {a : Act} {w : World} (S : World → Prop) (hF : ∀ f, F.fn f) (hm : P.follows .mixedOrders = true) (hB : plannedX ops = true) (hS : S w.drew)
    (Inv : Act → Bool → Bool → Bool → Bool → Bool → Bool → Act → World → Prop)
    (h : wpTk P ops S (fun a' w' => Inv a' false false false false false false a' w' ∧
      (∀ b5 b6 b7 b8 b9 a w, Inv a' false b5 b6 b7 b8 b9 a w → wpOpIn F n P ops (NoPanic Q) 2 (fun a2 w' => S w' ∧ Inv a' true b5 b6 b7 b8 b9 a2 w') a w) ∧
      (∀ b2 b6 b7 b8 b9 a w, Inv a' b2 false b6 b7 b8 b9 a w → wpOpIn F n P ops (NoPanic Q) 5 (fun a2 w' => S w' ∧ Inv a' b2 true b6 b7 b8 b9 a2 w') a w) ∧
      (∀ b2 b5 b7 b8 b9 a w, Inv a' b2 b5 false b7 b8 b9 a w → wpOpIn F n P ops (NoPanic Q) 6 (fun a2 w' => S w' ∧ Inv a' b2 b5 true b7 b8 b9 a2 w') a w) ∧
      (∀ b2 b5 b6 b8 b9 a w, Inv a' b2 b5 b6 false b8 b9 a w → wpOpIn F n P ops (NoPanic Q) 7 (fun a2 w' => S w' ∧ Inv a' b2 b5 b6 true b8 b9 a2 w') a w) ∧
      (∀ b5 b9 a w, Inv a' true b5 true true false b9 a w → wpOpIn F n P ops (NoPanic Q) 8 (fun a2 w' => S w' ∧ Inv a' true b5 true true true b9 a2 w') a w) ∧
      (∀ a w, Inv a' true true true true true false a w → wpOpIn F n P ops (NoPanic Q) 9 (fun a2 w' => S w' ∧ Inv a' true true true true true true a2 w') a w) ∧
      (∀ a w, Inv a' true true true true true true a w → Q .normal a w)) [0, 1, 3, 4] a w.drew) : (Code.region id ops true).wpIn F n P Q a w := by
  refine wpIn_mono ?_ NoPanic.imp
  simp only [plannedX, Bool.and_eq_true, decide_eq_true_eq] at hB
  obtain ⟨⟨⟨⟨h1, h2⟩, h3⟩, h4⟩, h5⟩ := hB
  refine wpIn_region_any hm (anyIn_of_R (S := S) (m := ops.size) _ _ _ _ ?_)
  have H := wpAnyR_tk (Q := NoPanic Q) (fuel := 6) (n := n) hF h1 h2 (fun _ _ _ _ _ h => h.elim) [0, 1, 3, 4] (Array.replicate ops.size false) a w.drew inv_start h4 hS h (fun a' w' _ hK => by
    obtain ⟨k0, k2, k5, k6, k7, k8, k9, kf⟩ := hK
    have hL : tkL [0, 1, 3, 4] (Array.replicate ops.size false) = L6 false false false false false false := by rw [h3]; rfl
    rw [hL]
    exact wpAnyR_six (Inv := Inv a') h5 k2 k5 k6 k7 k8 k9 (fun a w hI => kf a w hI) 6 false false false false false false a' w' rfl k0)
  rw [show 6 + [0, 1, 3, 4].length = ops.size by rw [h3]; rfl] at H
  exact H
theorem tk_take {i d : Nat} {r : List Nat} {K : Act → World → Prop} {oi : Oper} {v : Value} {a : Act} {w : World} (ho : ops[i]? = some oi) (hd : oi.dst = some d) (hw : Region.wanted oi (yielded ops a.tmps) = true) (hy : ∀ w, S w → (execOp a.eval oi).run P w = .ok (.value v) w)
    (h : wpTk P ops S K r { a with tmps := a.tmps.setIfInBounds d v } w) : wpTk P ops S K (i :: r) a w := ⟨oi, v, ho, .inl ⟨hw, hy⟩, by rw [put_some hd]; exact h⟩
theorem op_one {i : Nat} {oi : Oper} {K : Act → World → Prop} {a : Act} {w : World} (ho : ops[i]? = some oi) (h : wpListIn F n P ops (Exit.then K Q) [oi] a w) : wpOpIn F n P ops Q i K a w := by
  unfold wpOpIn
  simp only [ho]
  exact h
end
end Go.Ap



namespace Go.Proofs.YtjmebijckcimoaaGreatDoor
open Go.RowKit Go.Ap Go.Shelf Go.Proofs
/-- how far the six operations are -/
structure Six (wb : World) (n : Nat) (b2 b5 b6 b7 b8 b9 : Bool) (v33 v36 v5 v6 : Value) (W : World) : Prop where
  below : Below wb.heap.size wb W
  o8 : b8 = true → b2 = true ∧ b6 = true ∧ b7 = true
  o9 : b9 = true → b5 = true ∧ b8 = true ∧ b7 = true
  m2 : b2 = true → ∃ r, v33 = .slice (some ⟨r, 0, none⟩) n n ∧ BlkK W r (Array.replicate n (.int .i64 0)) 3 ∧ wb.heap.size ≤ r
  m5 : b5 = true → ∃ r, v36 = .slice (some ⟨r, 0, none⟩) n n ∧ BlkK W r (Array.replicate n (.int .i64 0)) 3 ∧ wb.heap.size ≤ r
  ne : b2 = true → b5 = true → v33 ≠ v36
  x6 : b6 = true → ∃ x, v5 = .pointer (some ⟨x, 0, none⟩) ∧ BlkK W x #[if b8 then v33 else .slice none 0 0] 44 ∧ wb.heap.size ≤ x
  x7 : b7 = true → ∃ x, v6 = .pointer (some ⟨x, 0, none⟩) ∧ BlkK W x #[if b9 then v36 else .slice none 0 0] 44 ∧ wb.heap.size ≤ x
  ne2 : b6 = true → b7 = true → v5 ≠ v6
section
variable {wb W : World} {n : Nat} {b2 b5 b6 b7 b8 b9 : Bool} {v33 v36 v5 v6 : Value}
theorem Six.start (wb : World) (n : Nat) (v33 v36 v5 v6 : Value) : Six wb n false false false false false false v33 v36 v5 v6 wb.drew :=
  ⟨bdrewN wb 1, nofun, nofun, nofun, nofun, nofun, nofun, nofun, nofun⟩
theorem blk_ne {r : Nat} {cs : Array Value} {t : TypeId} (h : BlkK W r cs t) : r ≠ W.heap.size := fun e => by have := h.lt; omega
theorem Six.s2 (h : Six wb n false b5 b6 b7 b8 b9 v33 v36 v5 v6 W) : Six wb n true b5 b6 b7 b8 b9 (.slice (some ⟨W.heap.size, 0, none⟩) n n) v36 v5 v6 (W.alloc (.cells (Array.replicate n (.int .i64 0)) 3)) := by
  have hb8 : b8 = false := by
    cases b8 with
    | false => rfl
    | true => exact absurd (h.o8 rfl).1 (by decide)
  subst hb8
  refine ⟨bstep h.below (balloc _ _), fun h => (by cases h), h.o9, fun _ => ⟨_, rfl, BlkK.new _ _ _, h.below.size⟩, fun hb => ?_, fun _ hb he => ?_, fun hb => ?_, fun hb => ?_, h.ne2⟩
  · obtain ⟨r, h1, h2, h3⟩ := h.m5 hb
    exact ⟨r, h1, h2.allocK _, h3⟩
  · obtain ⟨r, h1, h2, h3⟩ := h.m5 hb
    rw [h1] at he
    injection he with e1
    injection e1 with e1
    injection e1 with e1
    exact blk_ne h2 e1.symm
  · obtain ⟨x, h1, h2, h3⟩ := h.x6 hb
    exact ⟨x, h1, h2.allocK _, h3⟩
  · obtain ⟨x, h1, h2, h3⟩ := h.x7 hb
    exact ⟨x, h1, h2.allocK _, h3⟩
theorem Six.s5 (h : Six wb n b2 false b6 b7 b8 b9 v33 v36 v5 v6 W) : Six wb n b2 true b6 b7 b8 b9 v33 (.slice (some ⟨W.heap.size, 0, none⟩) n n) v5 v6 (W.alloc (.cells (Array.replicate n (.int .i64 0)) 3)) := by
  have hb9 : b9 = false := by
    cases b9 with
    | false => rfl
    | true => exact absurd (h.o9 rfl).1 (by decide)
  subst hb9
  refine ⟨bstep h.below (balloc _ _), h.o8, fun h => (by cases h), fun hb => ?_, fun _ => ⟨_, rfl, BlkK.new _ _ _, h.below.size⟩, fun hb _ he => ?_, fun hb => ?_, fun hb => ?_, h.ne2⟩
  · obtain ⟨r, h1, h2, h3⟩ := h.m2 hb
    exact ⟨r, h1, h2.allocK _, h3⟩
  · obtain ⟨r, h1, h2, h3⟩ := h.m2 hb
    rw [h1] at he
    injection he with e1
    injection e1 with e1
    injection e1 with e1
    exact blk_ne h2 e1
  · obtain ⟨x, h1, h2, h3⟩ := h.x6 hb
    exact ⟨x, h1, h2.allocK _, h3⟩
  · obtain ⟨x, h1, h2, h3⟩ := h.x7 hb
    exact ⟨x, h1, h2.allocK _, h3⟩
theorem Six.s6 (h : Six wb n b2 b5 false b7 b8 b9 v33 v36 v5 v6 W) : Six wb n b2 b5 true b7 b8 b9 v33 v36 (.pointer (some ⟨W.heap.size, 0, none⟩)) v6 (W.alloc (.cells #[.slice none 0 0] 44)) := by
  have hb8 : b8 = false := by
    cases b8 with
    | false => rfl
    | true => exact absurd (h.o8 rfl).2.1 (by decide)
  subst hb8
  refine ⟨bstep h.below (balloc _ _), fun h => (by cases h), h.o9, fun hb => ?_, fun hb => ?_, h.ne, fun _ => ⟨_, rfl, BlkK.new _ _ _, h.below.size⟩, fun hb => ?_, fun _ hb he => ?_⟩
  · obtain ⟨r, h1, h2, h3⟩ := h.m2 hb
    exact ⟨r, h1, h2.allocK _, h3⟩
  · obtain ⟨r, h1, h2, h3⟩ := h.m5 hb
    exact ⟨r, h1, h2.allocK _, h3⟩
  · obtain ⟨x, h1, h2, h3⟩ := h.x7 hb
    exact ⟨x, h1, h2.allocK _, h3⟩
  · obtain ⟨x, h1, h2, h3⟩ := h.x7 hb
    rw [h1] at he
    injection he with e1
    injection e1 with e1
    injection e1 with e1
    exact blk_ne h2 e1.symm
theorem Six.s7 (h : Six wb n b2 b5 b6 false b8 b9 v33 v36 v5 v6 W) : Six wb n b2 b5 b6 true b8 b9 v33 v36 v5 (.pointer (some ⟨W.heap.size, 0, none⟩)) (W.alloc (.cells #[.slice none 0 0] 44)) := by
  have hb9 : b9 = false := by
    cases b9 with
    | false => rfl
    | true => exact absurd (h.o9 rfl).2.2 (by decide)
  subst hb9
  refine ⟨bstep h.below (balloc _ _), fun hb => ⟨(h.o8 hb).1, (h.o8 hb).2.1, rfl⟩, fun h => (by cases h), fun hb => ?_, fun hb => ?_, h.ne, fun hb => ?_, fun _ => ⟨_, rfl, BlkK.new _ _ _, h.below.size⟩, fun hb _ he => ?_⟩
  · obtain ⟨r, h1, h2, h3⟩ := h.m2 hb
    exact ⟨r, h1, h2.allocK _, h3⟩
  · obtain ⟨r, h1, h2, h3⟩ := h.m5 hb
    exact ⟨r, h1, h2.allocK _, h3⟩
  · obtain ⟨x, h1, h2, h3⟩ := h.x6 hb
    exact ⟨x, h1, h2.allocK _, h3⟩
  · obtain ⟨x, h1, h2, h3⟩ := h.x6 hb
    rw [h1] at he
    injection he with e1
    injection e1 with e1
    injection e1 with e1
    exact blk_ne h2 e1
theorem blk_type {a b : Nat} {c d : Array Value} {t u : TypeId} (h : BlkK W a c t) (h' : BlkK W b d u) (hne : t ≠ u) : a ≠ b := fun e => by
  subst e
  have := h.symm.trans h'
  injection this with this
  injection this with _ e2 _
  exact hne e2
theorem Six.s8 {x : Nat} (h : Six wb n true b5 true true false b9 v33 v36 (.pointer (some ⟨x, 0, none⟩)) v6 W) : Six wb n true b5 true true true b9 v33 v36 (.pointer (some ⟨x, 0, none⟩)) v6 (W.setCell ⟨x, 0, none⟩ v33) := by
  obtain ⟨x', e1, k1, k2⟩ := h.x6 rfl
  obtain rfl : x = x' := by
    injection e1 with e1
    injection e1 with e1
    injection e1 with e1
  refine ⟨h.below.setCell (p := ⟨x, 0, none⟩) k2 _, fun _ => ⟨rfl, rfl, rfl⟩, fun hb => ⟨(h.o9 hb).1, rfl, rfl⟩, fun hb => ?_, fun hb => ?_, h.ne, fun _ => ⟨x, rfl, by have := k1.put (i := 0) (v := v33); simpa using this, k2⟩, fun hb => ?_, h.ne2⟩
  · obtain ⟨r, h1, h2, h3⟩ := h.m2 hb
    exact ⟨r, h1, h2.other24 (blk_type h2 k1 (by decide)), h3⟩
  · obtain ⟨r, h1, h2, h3⟩ := h.m5 hb
    exact ⟨r, h1, h2.other24 (blk_type h2 k1 (by decide)), h3⟩
  · obtain ⟨y, h1, h2, h3⟩ := h.x7 hb
    exact ⟨y, h1, h2.other24 (fun e => h.ne2 rfl rfl (by rw [h1, e])), h3⟩
theorem Six.s9 {y : Nat} (h : Six wb n true true true true true false v33 v36 v5 (.pointer (some ⟨y, 0, none⟩)) W) : Six wb n true true true true true true v33 v36 v5 (.pointer (some ⟨y, 0, none⟩)) (W.setCell ⟨y, 0, none⟩ v36) := by
  obtain ⟨y', e1, k1, k2⟩ := h.x7 rfl
  obtain rfl : y = y' := by
    injection e1 with e1
    injection e1 with e1
    injection e1 with e1
  refine ⟨h.below.setCell (p := ⟨y, 0, none⟩) k2 _, fun _ => ⟨rfl, rfl, rfl⟩, fun _ => ⟨rfl, rfl, rfl⟩, fun hb => ?_, fun hb => ?_, h.ne, fun hb => ?_, fun _ => ⟨y, rfl, by have := k1.put (i := 0) (v := v36); simpa using this, k2⟩, h.ne2⟩
  · obtain ⟨r, h1, h2, h3⟩ := h.m2 hb
    exact ⟨r, h1, h2.other24 (blk_type h2 k1 (by decide)), h3⟩
  · obtain ⟨r, h1, h2, h3⟩ := h.m5 hb
    exact ⟨r, h1, h2.other24 (blk_type h2 k1 (by decide)), h3⟩
  · obtain ⟨x, h1, h2, h3⟩ := h.x6 hb
    exact ⟨x, h1, h2.other24 (fun e => h.ne2 rfl rfl (by rw [h1, e])), h3⟩
end
end Go.Proofs.YtjmebijckcimoaaGreatDoor


namespace Go.Ap
open Go Go.RowKit
theorem enE_snoc (l : List Vg.Arc) (a : Vg.Arc) (k : Int) : Vg.enE (l ++ [a]) k = Vg.enE l k + if a.1.2 = k then 1 else 0 := by
  unfold Vg.enE
  rw [List.countP_append]
  congr 1
  by_cases h : a.1.2 = k <;> simp [h]
theorem lvE_snoc (l : List Vg.Arc) (a : Vg.Arc) (k : Int) : Vg.lvE (l ++ [a]) k = Vg.lvE l k + if a.1.1 = k then 1 else 0 := by
  unfold Vg.lvE
  rw [List.countP_append]
  congr 1
  by_cases h : a.1.1 = k <;> simp [h]
theorem enE_le (l : List Vg.Arc) (k : Int) : Vg.enE l k ≤ l.length := List.countP_le_length
theorem lvE_le (l : List Vg.Arc) (k : Int) : Vg.lvE l k ≤ l.length := List.countP_le_length
end Go.Ap
namespace Go.Proofs.YtjmebijckcimoaaGreatDoor
open Go.RowKit Go.Ap Go.Shelf Go.Proofs
attribute [local go_sem] Oper.semAt_some bs_toList empty_toList bs_size bs_extract
/-- what the closure reads -/
structure CtB (W : World) (bl x5 x6 rE rV n : Nat) (L : List Vg.Arc) : Prop where
  las : BlkK W bl #[.int .i64 ((n : Int) - 1)] 3
  bE : BlkK W x5 #[.slice (some ⟨rE, 0, none⟩) n n] 44
  bV : BlkK W x6 #[.slice (some ⟨rV, 0, none⟩) n n] 44
  aE : Arr W rE 3 (arrN n fun k => Vg.enE L k)
  aV : Arr W rV 3 (arrN n fun k => Vg.lvE L k)
theorem CtB.below {W W' : World} {bl x5 x6 rE rV n : Nat} {L : List Vg.Arc} (h : CtB W bl x5 x6 rE rV n L) (hb : Below W.heap.size W W') : CtB W' bl x5 x6 rE rV n L :=
  ⟨h.las.below hb, h.bE.below hb, h.bV.below hb, h.aE.kept hb, h.aV.kept hb⟩
theorem CtB.keptE {W W' : World} {bl x5 x6 rE rV n : Nat} {L : List Vg.Arc} (h : CtB W bl x5 x6 rE rV n L) {row : Option Nat} (hg : W.grownBy W' row) (h1 : some bl ≠ row) (h2 : some x5 ≠ row) (h3 : some x6 ≠ row) (h4 : some rE ≠ row) (h5 : some rV ≠ row) : CtB W' bl x5 x6 rE rV n L :=
  ⟨h.las.keptE hg h1, h.bE.keptE hg h2, h.bV.keptE hg h3, h.aE.keptE hg h4, h.aV.keptE hg h5⟩
theorem Arr.other24 {W : World} {S c j : Nat} {T : TypeId} {xs : List Int} {v : Value} (h : Arr W S T xs) (hne : S ≠ c) : Arr (W.setCell ⟨c, j, none⟩ v) S T xs := (Below.heap_setCell _ _ _ S hne).trans h
theorem BlkK.oth {W : World} {b c j : Nat} {cs : Array Value} {t : TypeId} {v : Value} (h : BlkK W b cs t) (hne : b ≠ c) : BlkK (W.setCell ⟨c, j, none⟩ v) b cs t :=
  (Below.heap_setCell _ _ _ b hne).trans h
theorem Arr.ofRep {W : World} {r n : Nat} {T : TypeId} (h : BlkK W r (Array.replicate n (.int .i64 0)) T) : Arr W r T (arrN n fun _ => 0) := by
  rw [arrN_zero, Arr, show ((List.replicate n (0 : Int)).map (Value.int .i64)).toArray = Array.replicate n (.int .i64 0) by simp]
  exact h
theorem CtB.oth {W : World} {bl x5 x6 rE rV n c j : Nat} {L : List Vg.Arc} {v : Value} (h : CtB W bl x5 x6 rE rV n L) (h1 : bl ≠ c) (h2 : x5 ≠ c) (h3 : x6 ≠ c) (h4 : rE ≠ c) (h5 : rV ≠ c) : CtB (W.setCell ⟨c, j, none⟩ v) bl x5 x6 rE rV n L :=
  ⟨BlkK.oth h.las h1, BlkK.oth h.bE h2, BlkK.oth h.bV h3, Arr.other24 h.aE h4, Arr.other24 h.aV h5⟩
/-- all lie below a bound -/
theorem CtB.lts {W : World} {bl x5 x6 rE rV n : Nat} {L : List Vg.Arc} (h : CtB W bl x5 x6 rE rV n L) : bl < W.heap.size ∧ x5 < W.heap.size ∧ x6 < W.heap.size ∧ rE < W.heap.size ∧ rV < W.heap.size := ⟨h.las.lt, h.bE.lt, h.bV.lt, h.aE.lt, h.aV.lt⟩
theorem CtB.off {W : World} {bl x5 x6 rE rV n c j S : Nat} {L : List Vg.Arc} {v : Value} (h : CtB W bl x5 x6 rE rV n L) (hl : bl < S ∧ x5 < S ∧ x6 < S ∧ rE < S ∧ rV < S) (hc : S ≤ c) : CtB (W.setCell ⟨c, j, none⟩ v) bl x5 x6 rE rV n L := by
  obtain ⟨g1, g2, g3, g4, g5⟩ := hl
  exact h.oth (by omega) (by omega) (by omega) (by omega) (by omega)
/-- one more arc is counted -/
theorem CtB.step {W : World} {bl x5 x6 rE rV n : Nat} {L : List Vg.Arc} (h : CtB W bl x5 x6 rE rV n L) (f t : Nat) (src : List Int) (h1 : bl ≠ rE) (h2 : bl ≠ rV) (h3 : x5 ≠ rE) (h4 : x5 ≠ rV) (h5 : x6 ≠ rE) (h6 : x6 ≠ rV) (h7 : rE ≠ rV) :
    CtB ((W.setCell ⟨rE, t, none⟩ (.int .i64 ((Vg.enE L t + 1 : Nat) : Int))).setCell ⟨rV, f, none⟩ (.int .i64 ((Vg.lvE L f + 1 : Nat) : Int))) bl x5 x6 rE rV n (L ++ [(((f : Int), (t : Int)), src)]) := by
  refine ⟨BlkK.oth (BlkK.oth h.las h1) h2, BlkK.oth (BlkK.oth h.bE h3) h4, BlkK.oth (BlkK.oth h.bV h5) h6, ?_, ?_⟩
  · have := Arr.other24 (c := rV) (j := f) (v := .int .i64 ((Vg.lvE L f + 1 : Nat) : Int)) (h.aE.setN t (Vg.enE L t + 1)) h7
    rw [arrN_ext]
    · exact this
    · intro k _
      rw [enE_snoc]
      unfold Vg.upd
      by_cases hk : k = t
      · subst hk; simp
      · have : ¬((t : Int) = (k : Int)) := by omega
        simp [hk, this]
  · have := (Arr.other24 (c := rE) (j := t) (v := .int .i64 ((Vg.enE L t + 1 : Nat) : Int)) h.aV (Ne.symm h7)).setN f (Vg.lvE L f + 1)
    rw [arrN_ext]
    · exact this
    · intro k _
      rw [lvE_snoc]
      unfold Vg.upd
      by_cases hk : k = f
      · subst hk; simp
      · have : ¬((f : Int) = (k : Int)) := by omega
        simp [hk, this]
set_option maxRecDepth 100000 in
set_option maxHeartbeats 4000000 in
theorem simpleP (f t : Nat) (src : Value) (bl x5 x6 rE rV n : Nat) (L : List Vg.Arc) (W : World) (h : CtB W bl x5 x6 rE rV n L) (hf : f < n) (ht : t < n) :
    Calls Tryz.prog 60 #[.agg #[.int .i64 (f : Int), .int .i64 (t : Int), src], .pointer (some ⟨bl, 0, none⟩), .pointer (some ⟨x6, 0, none⟩), .pointer (some ⟨x5, 0, none⟩)] W fun e W' => e = .returned (.bool (decide (0 < (f : Int) ∧ (t : Int) < (n : Int) - 1 ∧ Vg.lvE L f = 1 ∧ Vg.enE L t = 1))) ∧ Below W.heap.size W W' := by
  have kb := balloc W (.cells #[.int .i64 (f : Int), .int .i64 (t : Int), src] 48)
  have HB := Lib.hid kb
  have h' := h.below kb
  have K := BlkK.new W #[.int .i64 (f : Int), .int .i64 (t : Int), src] 48
  obtain ⟨W1, hW1⟩ : ∃ W1, W.alloc (.cells #[.int .i64 (f : Int), .int .i64 (t : Int), src] 48) = W1 := ⟨_, rfl⟩
  rw [hW1] at h' K HB
  have k0 := K.cell (i := 0) (u := .int .i64 (f : Int)) rfl
  have k1 := K.cell (i := 1) (u := .int .i64 (t : Int)) rfl
  have l0 := h'.las.cell (i := 0) (u := .int .i64 ((n : Int) - 1)) rfl
  have l1 := h'.bE.cell (i := 0) (u := .slice (some ⟨rE, 0, none⟩) n n) rfl
  have l2 := h'.bV.cell (i := 0) (u := .slice (some ⟨rV, 0, none⟩) n n) rfl
  have l3 := h'.aE.getN ht
  have l4 := h'.aV.getN hf
  obtain ⟨lv, hlv⟩ : ∃ c, Vg.lvE L f = c := ⟨_, rfl⟩
  obtain ⟨en, hen⟩ : ∃ c, Vg.enE L t = c := ⟨_, rfl⟩
  rw [hlv] at l4
  rw [hen] at l3
  have HLV := Lib.hid hlv
  have HEN := Lib.hid hen
  have i1 : (f : Int) < (n : Int) := by omega
  have i2 : (t : Int) < (n : Int) := by omega
  clear h h' K kb hlv hen
  by_cases d1 : 0 < f
  · have e1 : (0 : Int) < (f : Int) := by omega
    by_cases d2 : (t : Int) < (n : Int) - 1
    · by_cases d3 : lv = 1
      · by_cases d4 : en = 1
        · have HD := Lib.hid (show decide (0 < (f : Int) ∧ (t : Int) < (n : Int) - 1 ∧ Vg.lvE L f = 1 ∧ Vg.enE L t = 1) = true by rw [HLV.out, HEN.out]; exact decide_eq_true ⟨e1, d2, d3, d4⟩)
          subst d3 d4
          rw [HD.out]
          go_enter Tryz.func60, Tryz.ntmps60
          go_wp2_with (fail)
          go_ret
          exact ⟨rfl, HB.out⟩
        · have HD := Lib.hid (show decide (0 < (f : Int) ∧ (t : Int) < (n : Int) - 1 ∧ Vg.lvE L f = 1 ∧ Vg.enE L t = 1) = false by rw [HLV.out, HEN.out]; exact decide_eq_false fun h => d4 h.2.2.2)
          have d5 : ((en : Int) == 1) = false := beq_eq_false_iff_ne.2 (by omega)
          subst d3
          rw [HD.out]
          go_enter Tryz.func60, Tryz.ntmps60
          go_wp2_with (fail)
          go_ret
          exact ⟨rfl, HB.out⟩
      · have HD := Lib.hid (show decide (0 < (f : Int) ∧ (t : Int) < (n : Int) - 1 ∧ Vg.lvE L f = 1 ∧ Vg.enE L t = 1) = false by rw [HLV.out]; exact decide_eq_false fun h => d3 h.2.2.1)
        have d5 : ((lv : Int) == 1) = false := beq_eq_false_iff_ne.2 (by omega)
        rw [HD.out]
        go_enter Tryz.func60, Tryz.ntmps60
        go_wp2_with (fail)
        go_ret
        exact ⟨rfl, HB.out⟩
    · have HD := Lib.hid (show decide (0 < (f : Int) ∧ (t : Int) < (n : Int) - 1 ∧ Vg.lvE L f = 1 ∧ Vg.enE L t = 1) = false from decide_eq_false fun h => d2 h.2.1)
      rw [HD.out]
      go_enter Tryz.func60, Tryz.ntmps60
      go_wp2_with (fail)
      go_ret
      exact ⟨rfl, HB.out⟩
  · have HD := Lib.hid (show decide (0 < (f : Int) ∧ (t : Int) < (n : Int) - 1 ∧ Vg.lvE L f = 1 ∧ Vg.enE L t = 1) = false from decide_eq_false fun h => d1 (by have := h.1; omega))
    have e1 : ¬((0 : Int) < (f : Int)) := by omega
    rw [HD.out]
    go_enter Tryz.func60, Tryz.ntmps60
    go_wp2_with (fail)
    go_ret
    exact ⟨rfl, HB.out⟩
end Go.Proofs.YtjmebijckcimoaaGreatDoor



namespace Go.Ap
open Go Go.RowKit
section
variable {α : Type}
def rngL (n : Nat) (F : Nat → α) : List α := (List.range n).map F
theorem rngL_len (n : Nat) (F : Nat → α) : (rngL n F).length = n := by simp [rngL]
theorem rngL_get {n k : Nat} (F : Nat → α) (h : k < n) : (rngL n F)[k]? = some (F k) := by
  unfold rngL
  rw [List.getElem?_map, List.getElem?_range h]
  rfl
theorem rngL_ext {n : Nat} {F G : Nat → α} (h : ∀ k, k < n → F k = G k) : rngL n F = rngL n G := List.map_congr_left fun k hk => h k (List.mem_range.1 hk)
theorem rngL_set {n k : Nat} (F : Nat → α) (z : α) : (rngL n F).set k z = rngL n fun j => if j = k then z else F j := by
  apply List.ext_getElem?
  intro i
  rw [List.getElem?_set]
  by_cases hi : i < n
  · rw [rngL_get F hi, rngL_get _ hi, rngL_len]
    by_cases hk : k = i
    · subst hk; simp [hi]
    · simp [hk, Ne.symm hk]
  · rw [List.getElem?_eq_none (by rw [rngL_len]; omega), List.getElem?_eq_none (l := rngL n _) (by rw [rngL_len]; omega), rngL_len]
    by_cases hk : k = i
    · subst hk; simp [hi]
    · simp [hk]
end
/-- the two arrays while they are laid -/
def F0 (j x : Nat) : Int := if x < j then (x : Int) else 0
def G0 (ws : List Str) (j x : Nat) : Str := if x < j then ws.getD x [] else []
def wsF (ws : List Str) (k : Int) : Str := ws.getD k.toNat []
/-- behind the nodes below k, and (d) node k -/
def FK (e : Int) (al : List Vg.Arc) (k : Nat) (d : Bool) (x : Nat) : Int := if x < k ∨ (x = k ∧ d = true) then Vg.fst e al x else x
def GK (e : Int) (al : List Vg.Arc) (ws : List Str) (k : Nat) (d : Bool) (x : Nat) : Str := Vg.accW [32] e al (wsF ws) (if d then k + 1 else k) x
def dI (e : Int) (al : List Vg.Arc) (k i : Nat) : Bool := decide (∃ a ∈ al.take i, Vg.Simp e al a ∧ a.1.2 = (k : Int))
section
variable {e : Int} {al : List Vg.Arc} (V : Vg.ValidG e al) {ws : List Str} {n k i : Nat}
theorem GK_last : rngL n (GK e al ws (n - 1) false) = rngL n fun x => Vg.accW [32] e al (wsF ws) (n - 1) x := rngL_ext fun x _ => by simp [GK]
theorem dI_zero : dI e al k 0 = false := by simp [dI]
include V
theorem FK_one : rngL n (F0 n) = rngL n (FK e al 1 false) := rngL_ext fun x hx => by
  unfold F0 FK
  rw [if_pos hx]
  by_cases h0 : x = 0
  · subst h0
    simp [(V.fst_none V.pre0).1]
  · rw [if_neg (by simp; omega)]
theorem GK_one : rngL n (G0 ws n) = rngL n (GK e al ws 1 false) := rngL_ext fun x hx => by
  unfold G0 GK
  rw [if_pos hx]
  simp only [Bool.false_eq_true, if_false]
  rw [show (1 : Nat) = 0 + 1 from rfl, Vg.accW, if_neg (fun h => h.2 V.pre0), Vg.accW]
  simp [wsF]
theorem arc_nodup {a : Vg.Arc} (ha : al[i]? = some a) : a ∉ al.take i := fun hm => by
  obtain ⟨j, hj, he⟩ := List.getElem_of_mem hm
  rw [List.length_take] at hj
  rw [List.getElem_take] at he
  obtain ⟨hi, hi2⟩ := List.getElem?_eq_some_iff.1 ha
  have := List.pairwise_iff_getElem.1 V.asc j i (by omega) hi (by omega)
  rw [he, hi2] at this
  unfold Vg.ltE at this
  omega
/-- the simple arc to k comes up -/
theorem dI_hit {a : Vg.Arc} (ha : al[i]? = some a) (hs : Vg.Simp e al a) (hk : a.1.2 = (k : Int)) : dI e al k i = false ∧ dI e al k (i + 1) = true ∧ Vg.pre e al k = some a.1.1 := by
  refine ⟨decide_eq_false ?_, decide_eq_true ⟨a, ?_, hs, hk⟩, Vg.pre_some.2 ⟨a, List.mem_of_getElem? ha, hs, by rw [← hk]⟩⟩
  · rintro ⟨b, hb, hbs, hbk⟩
    have : a = b := Vg.en_unique (List.mem_of_getElem? ha) (List.mem_of_mem_take hb) hs.2.2.2 (by rw [hk, hbk])
    rw [this] at ha
    exact arc_nodup V ha hb
  · rw [List.take_add_one, ha]
    simp
omit V in
theorem dI_miss {a : Vg.Arc} (ha : al[i]? = some a) (hs : ¬(Vg.Simp e al a ∧ a.1.2 = (k : Int))) : dI e al k (i + 1) = dI e al k i := by
  unfold dI
  rw [decide_eq_decide, List.take_add_one, ha]
  constructor
  · rintro ⟨b, hb, h⟩
    rcases List.mem_append.1 hb with hb | hb
    · exact ⟨b, hb, h⟩
    · simp at hb
      subst hb
      exact absurd h hs
  · rintro ⟨b, hb, h⟩
    exact ⟨b, List.mem_append_left _ hb, h⟩
omit V in
theorem dI_end : dI e al k al.length = true ↔ Vg.pre e al k ≠ none := by
  unfold dI
  rw [decide_eq_true_iff, List.take_length, Ne, Vg.pre_none]
  constructor
  · rintro ⟨a, ha, hs, hk⟩ h
    exact h a ha hs hk
  · intro h
    apply Classical.byContradiction
    intro hn
    exact h fun a ha hs hk => hn ⟨a, ha, hs, hk⟩
/-- first[k] = first[a.From] -/
theorem FK_hit {f : Nat} (hp : Vg.pre e al k = some (f : Int)) (hkn : k < n) : (rngL n (FK e al k false)).set k (FK e al k false f) = rngL n (FK e al k true) ∧ FK e al k false f = Vg.fst e al k := by
  have hlt := V.pre_lt hp
  have hf : FK e al k false f = Vg.fst e al k := by
    unfold FK
    rw [if_pos (.inl (by omega)), (V.fst_some hp).1]
  refine ⟨?_, hf⟩
  rw [hf, rngL_set]
  refine rngL_ext fun x _ => ?_
  unfold FK
  by_cases hx : x = k
  · subst hx; simp
  · simp [hx]
omit V in
/-- .. and the words -/
theorem GK_hit {y : Nat} (hp : Vg.pre e al k ≠ none) (hy : (y : Int) = Vg.fst e al k) : (rngL n (GK e al ws k false)).set y (GK e al ws k false y ++ ([32] ++ ws.getD k [])) = rngL n (GK e al ws k true) := by
  rw [rngL_set]
  refine rngL_ext fun x _ => ?_
  unfold GK
  simp only [Bool.false_eq_true, if_false, if_true]
  rw [Vg.accW]
  by_cases hx : x = y
  · subst hx
    rw [if_pos rfl, if_pos ⟨hy.symm, hp⟩]
    simp [wsF]
  · rw [if_neg hx, if_neg (fun h => hx (by have := h.1; omega))]
theorem FK_end {d : Bool} (hd : d = true ↔ Vg.pre e al k ≠ none) : rngL n (FK e al k d) = rngL n (FK e al (k + 1) false) := rngL_ext fun x _ => by
  unfold FK
  by_cases hx : x = k
  · subst hx
    by_cases h : d = true
    · simp [h]
    · have hp : Vg.pre e al (x : Int) = none := by
        apply Classical.byContradiction
        intro h2
        exact h (hd.2 h2)
      simp [h, (V.fst_none hp).1]
  · by_cases hlt : x < k
    · simp [hlt, Nat.lt_succ_of_lt hlt]
    · simp [hx, hlt, show ¬x < k + 1 by omega]
theorem FK_last (hn : (n : Int) = e + 1) : rngL n (FK e al (n - 1) false) = rngL n fun x => Vg.fst e al x := rngL_ext fun x hx => by
  unfold FK
  by_cases hlt : x < n - 1
  · rw [if_pos (.inl hlt)]
  · rw [if_neg (by simp; omega), show ((x : Nat) : Int) = e by omega, (V.fst_none V.preE).1]
omit V in
theorem GK_end {d : Bool} (hd : d = true ↔ Vg.pre e al k ≠ none) : rngL n (GK e al ws k d) = rngL n (GK e al ws (k + 1) false) := rngL_ext fun x _ => by
  unfold GK
  cases d with
  | true => simp
  | false =>
    have hp : Vg.pre e al (k : Int) = none := by
      apply Classical.byContradiction
      intro h2
      exact absurd (hd.2 h2) (by decide)
    simp only [Bool.false_eq_true, if_false]
    rw [Vg.accW, if_neg (fun h => h.2 hp)]
end
end Go.Ap
namespace Go.Proofs.YtjmebijckcimoaaGreatDoor
open Go.RowKit Go.Ap Go.Shelf Go.Proofs
theorem make_strs24 (n : Nat) (hn : n ≤ 65536) (w : World) : (Instr.makeSlice 22 (.int .i64 n) (.int .i64 n)).run Tryz.prog w = .ok (.slice (some ⟨w.heap.size, 0, none⟩) n n) (w.alloc (.cells (Array.replicate n (.string { data := #[] })) 9)) := by
  obtain ⟨i0, hi0, hz0, hz1, hz2⟩ := info_parts infoStr24
  have h := run_make_row (P := Tryz.prog) 22 9 i0 (.string { data := #[] }) Tryz.underlying22 hi0 hz0 hz1 rfl .i64 .i64 n (by rw [hz2]; omega) (by omega) w
  rw [show madeCells #[Value.string { data := #[] }] n = ((List.replicate n ([] : Str)).map sv).toArray from made_all (enc := sv) (x := []) rfl n, show ((List.replicate n ([] : Str)).map sv).toArray = Array.replicate n (.string { data := #[] }) by simp [sv, bs]] at h
  exact h
/-- the two arrays in memory -/
structure CtS (W : World) (rF rW n : Nat) (F : Nat → Int) (G : Nat → Str) : Prop where
  fir : Arr W rF 3 (rngL n F)
  wrd : ArrG sv W rW 9 (rngL n G)
section
variable {W W' : World} {rF rW n k : Nat} {F : Nat → Int} {G : Nat → Str}
theorem CtS.below (h : CtS W rF rW n F G) (hb : Below W.heap.size W W') : CtS W' rF rW n F G := ⟨h.fir.kept hb, h.wrd.kept hb⟩
theorem CtS.ne (h : CtS W rF rW n F G) : rF ≠ rW := fun e => by
  subst e
  have := (show W.heap[rF]? = _ from h.fir).symm.trans h.wrd
  injection this with this
  injection this with _ e2 _
  exact absurd e2 (by decide)
theorem CtS.f (h : CtS W rF rW n F G) (hk : k < n) : W.cell? ⟨rF, k, none⟩ = some (.int .i64 (F k)) := by
  rw [h.fir.cell (by rw [rngL_len]; exact hk)]
  unfold nth
  rw [List.getD_eq_getElem?_getD, rngL_get F hk]
  rfl
theorem CtS.w (h : CtS W rF rW n F G) (hk : k < n) : W.cell? ⟨rW, k, none⟩ = some (.string (bs (G k))) := h.wrd.cell (rngL_get G hk)
theorem CtS.setF (h : CtS W rF rW n F G) (z : Int) : Arr (W.setCell ⟨rF, k, none⟩ (.int .i64 z)) rF 3 ((rngL n F).set k z) ∧ ArrG sv (W.setCell ⟨rF, k, none⟩ (.int .i64 z)) rW 9 (rngL n G) :=
  ⟨h.fir.set k z, (Below.heap_setCell _ _ _ rW (Ne.symm h.ne)).trans h.wrd⟩
theorem CtS.setW (h : CtS W rF rW n F G) (z : Str) : Arr (W.setCell ⟨rW, k, none⟩ (.string (bs z))) rF 3 (rngL n F) ∧ ArrG sv (W.setCell ⟨rW, k, none⟩ (.string (bs z))) rW 9 ((rngL n G).set k z) :=
  ⟨(Below.heap_setCell _ _ _ rF h.ne).trans h.fir, h.wrd.set k z⟩
theorem CtS.new (W : World) (n : Nat) (ws : List Str) : CtS ((W.alloc (.cells (Array.replicate n (.int .i64 0)) 3)).alloc (.cells (Array.replicate n (.string { data := #[] })) 9)) W.heap.size (W.heap.size + 1) n (F0 0) (G0 ws 0) where
  fir := by
    have h : Arr (W.alloc (.cells (Array.replicate n (.int .i64 0)) 3)) W.heap.size 3 (rngL n (F0 0)) := by
      have e : (rngL n (F0 0)).map (Value.int .i64) = List.replicate n (.int .i64 0) := by
        unfold rngL F0
        simp [List.map_const']
      rw [Arr, e, List.toArray_replicate]
      exact heap_fresh rfl
    exact h.kept (balloc _ _)
  wrd := by
    have e : (rngL n (G0 ws 0)).map sv = List.replicate n (.string { data := #[] }) := by
      unfold rngL G0
      simp [List.map_const', sv, bs]
    rw [ArrG, e, List.toArray_replicate]
    exact heap_fresh (by simp)
theorem CtS.lay {ws : List Str} (h : CtS W rF rW n (F0 k) (G0 ws k)) : CtS ((W.setCell ⟨rF, k, none⟩ (.int .i64 (k : Int))).setCell ⟨rW, k, none⟩ (.string (bs (ws.getD k [])))) rF rW n (F0 (k + 1)) (G0 ws (k + 1)) := by
  obtain ⟨h1, h2⟩ := h.setF (k := k) (k : Int)
  rw [rngL_set] at h1
  have e1 : rngL n (fun j => if j = k then (k : Int) else F0 k j) = rngL n (F0 (k + 1)) := rngL_ext fun x _ => by
    unfold F0
    by_cases hx : x = k
    · subst hx; simp
    · by_cases hlt : x < k
      · simp [hx, hlt, Nat.lt_succ_of_lt hlt]
      · simp [hx, hlt, show ¬x < k + 1 by omega]
  rw [e1] at h1
  obtain ⟨h3, h4⟩ := (CtS.mk h1 h2).setW (k := k) (ws.getD k [])
  rw [rngL_set] at h4
  have e2 : rngL n (fun j => if j = k then ws.getD k [] else G0 ws k j) = rngL n (G0 ws (k + 1)) := rngL_ext fun x _ => by
    unfold G0
    by_cases hx : x = k
    · subst hx; simp
    · by_cases hlt : x < k
      · simp [hx, hlt, Nat.lt_succ_of_lt hlt]
      · simp [hx, hlt, show ¬x < k + 1 by omega]
  rw [e2] at h4
  exact ⟨h3, h4⟩
end
end Go.Proofs.YtjmebijckcimoaaGreatDoor




namespace Go.Proofs.YtjmebijckcimoaaGreatDoor
open Go.RowKit Go.Ap Go.Shelf Go.Proofs Go.Maps
theorem keyI_int24 {P : Program} {k : TypeId} (hk : P.underlying k = some (.int .i64)) {v : Value} {l : Lit} (h : keyOf P k v = some l) : ∃ s : Int, v = .int .i64 s ∧ l = .int .i64 s := by
  obtain ⟨n, rfl, hl, _⟩ := Maps.keyOf_int_inv hk h
  exact ⟨n, rfl, hl⟩
def tII : MapT Tryz.prog 98 3 3 Int Int where
  kl s := .int .i64 s
  kv s := .int .i64 s
  dl v := .int .i64 v
  dv v := .int .i64 v
  zero := 0
  fit s := I64 s
  fitE v := I64 v
  keyed := Maps.int_keyed Tryz.underlying3
  und := Tryz.underlying98
  inj h := by cases h; rfl
  key h := keyOf_int_mk Tryz.underlying3 (wf_i64 h)
  keyI h := keyI_int24 Tryz.underlying3 h
  elem h := plainElem_int Tryz.underlying3 (wf_i64 h)
  elemI h := by obtain ⟨a, h1, h2, _⟩ := plainElem_int_inv Tryz.underlying3 h; exact ⟨a, h1, h2⟩
  dinj h := by cases h; rfl
  zeroV w := Tryz.zeroValue3 w
  zeroF := ⟨by decide, by decide⟩
end Go.Proofs.YtjmebijckcimoaaGreatDoor




namespace Go.Proofs.YtjmebijckcimoaaGreatDoor
open Go.RowKit Go.Ap Go.Shelf Go.Proofs
/-- the places below k -/
def placesF (e : Int) (al : List Vg.Arc) (k : Nat) (x : Int) : Option Int := if 0 ≤ x ∧ x < (k : Int) ∧ Vg.pre e al x = none then some ((Vg.rk e al x : Nat) : Int) else none
theorem placesF_zero (e : Int) (al : List Vg.Arc) (x : Int) : placesF e al 0 x = none := if_neg (by omega)
theorem placesF_skip {e : Int} {al : List Vg.Arc} {k : Nat} (h : Vg.pre e al (k : Int) ≠ none) (x : Int) : placesF e al k x = placesF e al (k + 1) x := by
  unfold placesF
  by_cases hx : x = (k : Int)
  · subst hx
    rw [if_neg (by omega), if_neg (fun g => h g.2.2)]
  · have : (0 ≤ x ∧ x < (k : Int) ∧ Vg.pre e al x = none) ↔ (0 ≤ x ∧ x < ((k + 1 : Nat) : Int) ∧ Vg.pre e al x = none) := ⟨fun h => ⟨h.1, by omega, h.2.2⟩, fun h => ⟨h.1, by omega, h.2.2⟩⟩
    by_cases g : 0 ≤ x ∧ x < (k : Int) ∧ Vg.pre e al x = none
    · rw [if_pos g, if_pos (this.1 g)]
    · rw [if_neg g, if_neg (fun h => g (this.2 h))]
theorem placesF_take {e : Int} {al : List Vg.Arc} {k : Nat} (h : Vg.pre e al (k : Int) = none) (x : Int) : updF (placesF e al k) (k : Int) ((Vg.rk e al (k : Int) : Nat) : Int) x = placesF e al (k + 1) x := by
  unfold updF placesF
  by_cases hx : x = (k : Int)
  · subst hx
    rw [if_pos rfl, if_pos ⟨by omega, by omega, h⟩]
  · rw [if_neg hx]
    have : (0 ≤ x ∧ x < (k : Int) ∧ Vg.pre e al x = none) ↔ (0 ≤ x ∧ x < ((k + 1 : Nat) : Int) ∧ Vg.pre e al x = none) := ⟨fun h => ⟨h.1, by omega, h.2.2⟩, fun h => ⟨h.1, by omega, h.2.2⟩⟩
    by_cases g : 0 ≤ x ∧ x < (k : Int) ∧ Vg.pre e al x = none
    · rw [if_pos g, if_pos (this.1 g)]
    · rw [if_neg g, if_neg (fun h => g (this.2 h))]
/-- the words of the places below k -/
def wordsK (e : Int) (al : List Vg.Arc) (ws : List Str) (n k : Nat) : List Str := (Vg.firstsL e al k).map fun x : Nat => Vg.accW [32] e al (wsF ws) (n - 1) (x : Int)
theorem wordsK_len (e : Int) (al : List Vg.Arc) (ws : List Str) (n k : Nat) : (wordsK e al ws n k).length = Vg.rk e al (k : Int) := by
  unfold wordsK
  rw [List.length_map, Vg.firstsL_len]
theorem wordsK_skip {e : Int} {al : List Vg.Arc} {k : Nat} (h : Vg.pre e al (k : Int) ≠ none) (ws : List Str) (n : Nat) : wordsK e al ws n (k + 1) = wordsK e al ws n k := by
  unfold wordsK
  rw [Vg.firstsL_succ]
  cases hp : Vg.pre e al (k : Int) with
  | none => exact absurd hp h
  | some _ => simp
theorem wordsK_take {e : Int} {al : List Vg.Arc} {k : Nat} (h : Vg.pre e al (k : Int) = none) (ws : List Str) (n : Nat) : wordsK e al ws n (k + 1) = wordsK e al ws n k ++ [Vg.accW [32] e al (wsF ws) (n - 1) (k : Int)] := by
  unfold wordsK
  rw [Vg.firstsL_succ, h]
  simp
theorem wordsK_le (e : Int) (al : List Vg.Arc) (ws : List Str) (n : Nat) : ∀ k, (wordsK e al ws n k).length ≤ k := fun k => by
  unfold wordsK Vg.firstsL
  rw [List.length_map]
  exact Nat.le_trans (List.length_filter_le _ _) (by simp)
/-- what the loop keeps: boxes bo < bm < S, all else below bo -/
structure C5 (W : World) (e : Int) (al : List Vg.Arc) (ws : List Str) (S bo bm rF n bl x5 x6 rE rV k : Nat) (v : Value) : Prop where
  cts : CtS W rF (rF + 1) n (fun x => Vg.fst e al x) (fun x => Vg.accW [32] e al (wsF ws) (n - 1) x)
  ctb : CtB W bl x5 x6 rE rV n al
  box : BlkK W bo #[v, .slice none 0 0] 31
  row : OwnS W S v (wordsK e al ws n k)
  map : MapG tII W bm k (placesF e al k)
/-- where they lie -/
structure L5 (S bo bm rF bl x5 x6 rE rV : Nat) : Prop where
  lts : bl < rF ∧ x5 < rF ∧ x6 < rF ∧ rE < rF ∧ rV < rF
  f : rF + 1 < bo
  o : bo < bm
  m : bm < S
section
variable {W W' : World} {e : Int} {al : List Vg.Arc} {ws : List Str} {S bo bm rF n bl x5 x6 rE rV k : Nat} {v : Value}
theorem CtS.keptE {F : Nat → Int} {G : Nat → Str} {row : Option Nat} (h : CtS W rF (rF + 1) n F G) (hg : W.grownBy W' row) (h1 : some rF ≠ row) (h2 : some (rF + 1) ≠ row) : CtS W' rF (rF + 1) n F G :=
  ⟨(hg.block _ h.fir.lt h1).trans h.fir, (hg.block _ (ArrG.lt h.wrd) h2).trans h.wrd⟩
theorem C5.below (h : C5 W e al ws S bo bm rF n bl x5 x6 rE rV k v) (hb : Below W.heap.size W W') : C5 W' e al ws S bo bm rF n bl x5 x6 rE rV k v :=
  ⟨h.cts.below hb, h.ctb.below hb, h.box.below hb, h.row.below hb, h.map.below hb⟩
/-- a place is laid -/
theorem C5.placed (h : C5 W e al ws S bo bm rF n bl x5 x6 rE rV k v) (L : L5 S bo bm rF bl x5 x6 rE rV) (hg : W.grownBy W' (some bm)) :
    CtS W' rF (rF + 1) n (fun x => Vg.fst e al x) (fun x => Vg.accW [32] e al (wsF ws) (n - 1) x) ∧ CtB W' bl x5 x6 rE rV n al ∧ BlkK W' bo #[v, .slice none 0 0] 31 ∧ OwnS W' S v (wordsK e al ws n k) := by
  obtain ⟨⟨g1, g2, g3, g4, g5⟩, g6, g7, g8⟩ := L
  have ne : ∀ x, x < bm → some x ≠ some bm := fun x hx e => by cases e; omega
  refine ⟨h.cts.keptE hg (ne _ (by omega)) (ne _ (by omega)), h.ctb.keptE hg (ne _ (by omega)) (ne _ (by omega)) (ne _ (by omega)) (ne _ (by omega)) (ne _ (by omega)), h.box.keptE hg (ne _ (by omega)), ?_⟩
  refine World.ownsRow.kept h.row hg ?_
  rcases hv : v.ownBlock with _ | b
  · exact .inl rfl
  · refine .inr fun e => ?_
    cases e
    have := (h.row.lt bm hv).1
    omega
/-- a word is appended, and the box holds the longer slice -/
theorem C5.pushed {W2 W4 : World} {u : Str} {v1 : Value} {tmp : Obj} (L : L5 S bo bm rF bl x5 x6 rE rV) (hS : S ≤ W2.heap.size)
    (h1 : CtS W2 rF (rF + 1) n (fun x => Vg.fst e al x) (fun x => Vg.accW [32] e al (wsF ws) (n - 1) x)) (h2 : CtB W2 bl x5 x6 rE rV n al) (h3 : BlkK W2 bo #[v, .slice none 0 0] 31) (h4 : OwnS W2 S v (wordsK e al ws n k))
    (h5 : MapG tII W2 bm (k + 1) (placesF e al (k + 1))) (hu : wordsK e al ws n (k + 1) = wordsK e al ws n k ++ [u])
    (hown : W4.ownsRow S 9 1 v1 ((wordsK e al ws n k).length + 1) ((wordsK e al ws n k).map sv ++ [.string (bs u)])) (hg : (W2.alloc tmp).grownBy W4 v.ownBlock) :
    C5 (W4.setCell ⟨bo, 0, none⟩ v1) e al ws S bo bm rF n bl x5 x6 rE rV (k + 1) v1 ∧ (BlkK W4 bo #[v, .slice none 0 0] 31 ∧ CtS W4 rF (rF + 1) n (fun x => Vg.fst e al x) (fun x => Vg.accW [32] e al (wsF ws) (n - 1) x)) ∧ ∀ B, B ≤ bo → Below B W2 (W4.setCell ⟨bo, 0, none⟩ v1) := by
  obtain ⟨⟨g1, g2, g3, g4, g5⟩, g6, g7, g8⟩ := L
  have kb := balloc W2 tmp
  have nv : ∀ x, x < S → some x ≠ v.ownBlock := fun x hx e => by
    have := (h4.lt x e.symm).1
    omega
  have gs := grownBy_setCell' W4 bo v1
  have no : ∀ x, x ≠ bo → some x ≠ some bo := fun x hx e => hx (by cases e; rfl)
  have b4 := (h3.below kb).keptE hg (nv _ (by omega))
  have hr1 : OwnS W4 S v1 (wordsK e al ws n (k + 1)) := by
    rw [hu]
    unfold OwnS
    simpa [sv] using hown
  refine ⟨⟨((h1.below kb).keptE hg (nv _ (by omega)) (nv _ (by omega))).keptE gs (no _ (by omega)) (no _ (by omega)), ((h2.below kb).keptE hg (nv _ (by omega)) (nv _ (by omega)) (nv _ (by omega)) (nv _ (by omega)) (nv _ (by omega))).keptE gs (no _ (by omega)) (no _ (by omega)) (no _ (by omega)) (no _ (by omega)) (no _ (by omega)), ?_, ?_, ?_⟩, ⟨b4, (h1.below kb).keptE hg (nv _ (by omega)) (nv _ (by omega))⟩, fun B hB => ?_⟩
  · have := b4.put (i := 0) (v := v1)
    simpa using this
  · exact World.ownsRow.kept hr1 gs (.inr (BlkK.apart b4 hr1 (by decide)).symm)
  · exact ((h5.below kb).kept hg (nv _ (by omega))).kept gs (no _ (by omega))
  · have hsz : B ≤ W2.heap.size := by omega
    refine ((kb.mono hsz).grown hg (by simp; omega) fun r hr => ?_).grown gs ?_ fun r hr => by cases hr; exact hB
    · have := (h4.lt r hr).1
      omega
    · have := hg.size
      simp at this
      omega
end
end Go.Proofs.YtjmebijckcimoaaGreatDoor



namespace Go.Ap
open Go Go.RowKit
/-- what the arcs that are not simple give -/
def entC (e : Int) (al l : List Vg.Arc) : List (Vg.En × Int) := l.flatMap fun a => if Vg.Simp e al a then [] else a.2.map fun s => (Vg.mapE (Vg.num e al) a.1, s)
theorem entC_snoc_simp {e : Int} {al l : List Vg.Arc} {a : Vg.Arc} (h : Vg.Simp e al a) : entC e al (l ++ [a]) = entC e al l := by
  unfold entC
  rw [List.flatMap_append]
  simp [h]
theorem entC_snoc {e : Int} {al l : List Vg.Arc} {a : Vg.Arc} (h : ¬Vg.Simp e al a) : entC e al (l ++ [a]) = entC e al l ++ a.2.map fun s => (Vg.mapE (Vg.num e al) a.1, s) := by
  unfold entC
  rw [List.flatMap_append]
  simp [h]
theorem entC_mem (e : Int) (al : List Vg.Arc) (x : Vg.En) (s : Int) : (x, s) ∈ entC e al al ↔ ∃ a ∈ al, ¬Vg.Simp e al a ∧ Vg.mapE (Vg.num e al) a.1 = x ∧ s ∈ a.2 := by
  unfold entC
  rw [List.mem_flatMap]
  constructor
  · rintro ⟨a, ha, hm⟩
    by_cases h : Vg.Simp e al a
    · rw [if_pos h] at hm
      cases hm
    · rw [if_neg h, List.mem_map] at hm
      obtain ⟨s', hs, he⟩ := hm
      simp only [Prod.mk.injEq] at he
      exact ⟨a, ha, h, he.1, he.2 ▸ hs⟩
  · rintro ⟨a, ha, h, hx, hs⟩
    refine ⟨a, ha, ?_⟩
    rw [if_neg h, List.mem_map]
    exact ⟨s, hs, by rw [hx]⟩
theorem entC_len (e : Int) (al : List Vg.Arc) : ∀ l : List Vg.Arc, (entC e al l).length ≤ (allS l).length
  | [] => Nat.le_refl _
  | a :: r => by
    have ih := entC_len e al r
    unfold entC allS at ih ⊢
    rw [List.flatMap_cons, List.flatMap_cons, List.length_append, List.length_append]
    have : (if Vg.Simp e al a then [] else a.2.map fun s => (Vg.mapE (Vg.num e al) a.1, s)).length ≤ a.2.length := by
      split
      · simp
      · simp
    omega
end Go.Ap






namespace Go.Ap
open Go Go.RowKit
section
variable {P : Program} {w : World}
theorem wpList_append_ints_at {ops : Array Oper} {rest : List Oper} {o : Oper} {a : Act} {Q : Exit → Act → World → Prop} (hgd : o.guard = none) (s x : Operand) (t e : TypeId)
    (ho : o.op = .call { callee := .builtin .append, args := #[s, x], argTypes := #[t, t] })
    (base : Nat) (i : TypeInfo) (ht : P.underlying t = some (.slice e)) (hi : P.info? e = some i) (hz : i.zero = some (.int .i64 0)) (hsize : i.size = 1) (hby : i.bytes = 8)
    (v : Value) (xs : List Int) (hs : a.eval s = v) (hown : OwnI e w base v xs) (b off m c : Nat) (ys : List Int) (hx : a.eval x = .slice (some ⟨b, off, none⟩) m c) (hyl : ys.length = m)
    (hy : ∀ j y, ys[j]? = some y → w.cell? ⟨b, off + j, none⟩ = some (.int .i64 y)) (hyi : ∀ y ∈ ys, I64 y)
    (hlen : xs.length + m ≤ 8388608) (hbase : base ≤ w.heap.size)
    (h : ∀ v' w', OwnI e w' base v' (xs ++ ys) → w.grownBy w' v.ownBlock → (v'.ownBlock = v.ownBlock ∨ v'.ownBlock = some w.heap.size) → wpList P ops Q rest (a.put o.dst v') w') : wpList P ops Q (o :: rest) a w := by
  refine wpList_append_own_at w hgd s x t ho base e i (.int .i64 0) 1 8 ht hi hz hsize hby rfl (by decide) v xs.length (xs.map (Value.int .i64)) hs hown.1 ⟨b, off, none⟩ m c (ys.map (Value.int .i64)) hx (by simp [hyl]) ?_ (by intro u hu; obtain ⟨x, _, rfl⟩ := List.mem_map.1 hu; rfl) (by unfold maxLen; omega) (by omega) hbase ?_
  · intro j u hu
    rw [List.getElem?_map] at hu
    obtain ⟨y, hyj, rfl⟩ := Option.map_eq_some_iff.1 hu
    have hadd : (⟨b, off, none⟩ : Addr).add j = ⟨b, off + j, none⟩ := by unfold Addr.add; split <;> simp_all
    rw [hadd]
    exact hy j y hyj
  · intro v' w' h1 h2 _ h4
    refine h v' w' ⟨?_, fun z hz => ?_⟩ h2 h4
    · rw [List.length_append, List.map_append, hyl]
      exact h1
    · rcases List.mem_append.1 hz with h3 | h3
      · exact hown.2 z h3
      · exact hyi z h3
end
theorem num_rng {e : Int} (al : List Vg.Arc) (k : Int) {m : Int} (h : Vg.fst e al k ≤ m) (hm : 0 ≤ m) : 0 ≤ Vg.num e al k ∧ Vg.num e al k ≤ m := by
  unfold Vg.num Vg.rk
  have h1 := List.countP_le_length (p := fun i : Nat => (Vg.pre e al (i : Int)).isNone) (l := List.range (Vg.fst e al k).toNat)
  rw [List.length_range] at h1
  omega
theorem allS_take (al : List Vg.Arc) (i : Nat) : (allS (al.take i)).length ≤ (allS al).length := by
  have h : allS al = allS (al.take i) ++ allS (al.drop i) := by
    unfold allS
    rw [← List.flatMap_append, List.take_append_drop]
  rw [h, List.length_append]
  exact Nat.le_add_right _ _
theorem allS_at {al : List Vg.Arc} {i : Nat} {x : Vg.Arc} (h : al[i]? = some x) : (allS (al.take i)).length + x.2.length ≤ (allS al).length := by
  have h1 := allS_take al (i + 1)
  rw [List.take_add_one, h] at h1
  unfold allS at h1 ⊢
  rw [List.flatMap_append, List.length_append] at h1
  simpa using h1
theorem entC_i64 {e : Int} {al : List Vg.Arc} (V : Vg.ValidG e al) (he : e ≤ 1000000) : ∀ x ∈ entC e al al, I64 x.1.1 ∧ I64 x.1.2 := fun x hx => by
  obtain ⟨a, ha, _, hm, _⟩ := (entC_mem e al x.1 x.2).1 hx
  obtain ⟨r1, r2, r3⟩ := V.rng a ha
  have n1 := num_rng al a.1.1 (V.fst_le _ a.1.1 rfl).1 r1
  have n2 := num_rng al a.1.2 (V.fst_le _ a.1.2 rfl).1 (by omega)
  rw [← hm]
  show I64 (Vg.num e al a.1.1) ∧ I64 (Vg.num e al a.1.2)
  unfold I64
  omega
/-- two slices hold no number -/
theorem not_int2 {W : World} {B i : Nat} {t : TypeId} {k : IntKind} {x : Int} {a a' : Option Addr} {n c n' c' : Nat} (hB : BlkK W B #[.slice a n c, .slice a' n' c'] t) : W.cell? ⟨B, i, none⟩ ≠ some (.int k x) := fun h => by
  simp only [World.cell?, show W.heap[B]? = _ from hB] at h
  rcases i with _ | _ | i
  · simp at h
  · simp at h
  · simp at h
section
variable {W W' : World} {B : Nat} {t : TypeId} {a a' : Option Addr} {n c n' c' : Nat}
theorem Ints.off2 {b : Option Addr} {m : Nat} {xs : List Int} (h : Ints W b m xs) (hB : BlkK W B #[.slice a n c, .slice a' n' c'] t) (hg : W.grownBy W' (some B)) : Ints W' b m xs :=
  ⟨h.len, h.small, fun k x hk => by
    obtain ⟨b, off, v, ha, hc, hv, hi⟩ := h.cells k x hk
    subst hv
    exact ⟨b, off, _, ha, cell_off hc hg (fun e => not_int2 hB (e ▸ hc)), rfl, hi⟩⟩
theorem Arcs.off2 {b : Option Addr} {m : Nat} {l : List Vg.Arc} (h : Arcs W b m l) (hB : BlkK W B #[.slice a n c, .slice a' n' c'] t) (hg : W.grownBy W' (some B)) : Arcs W' b m l :=
  SlM.mono h fun b o x hr => by
    obtain ⟨a1, k1, h1, h2, h3, h4⟩ := hr
    have hne : b ≠ B := fun e => not_int2 hB (e ▸ h1)
    exact ⟨a1, k1, cell_off h1 hg hne, cell_off h2 hg hne, cell_off h3 hg hne, h4.fr, h4.to, h4.src.off2 hB hg⟩
end
theorem own_off {W W' : World} {base b : Nat} {v : Value} {us : List Str} (h : OwnS W base v us) (hg : W.grownBy W' (some b)) (hb : b < base) : OwnS W' base v us := by
  refine World.ownsRow.kept h hg ?_
  cases hv : v.ownBlock with
  | none => exact .inl rfl
  | some k =>
    refine .inr fun e => ?_
    have := (World.ownsRow.lt h k hv).1
    cases e
    omega
/-- one store into a block of two cells -/
theorem store1 {W : World} {b : Nat} {c0 c1 : Value} {t : TypeId} (h : BlkK W b #[c0, c1] t) (a1 : Value) :
    ∃ W', W' = W.setCell ⟨b, 1, none⟩ a1 ∧ BlkK W' b #[c0, a1] t ∧ W.grownBy W' (some b) := by
  refine ⟨_, rfl, BlkK.put h, rfl, rfl, rfl, by simp [World.setCell], fun k _ hk => ?_⟩
  have hne : b ≠ k := fun e => hk (by rw [e])
  rw [Below.heap_setCell _ _ _ _ hne.symm]
end Go.Ap
namespace Go.Proofs.YtjmebijckcimoaaGreatDoor
open Go.RowKit Go.Ap Go.Shelf Go.Proofs Go.Maps
theorem grpEntry {W : World} {bE n : Nat} {g : Vg.En → List Int} (h : Grp tEn 3 W bE bE n g) {x y : Int} (hx : I64 x) (hy : I64 y) (hn : n ≤ 100000) :
    ∃ u wa st, (Instr.mapEntry 73 (.map (some bE)) (.agg #[.int .i64 x, .int .i64 y])).run Tryz.prog W = .ok (.tuple #[u, st]) wa ∧ OwnI 3 wa bE u (g (x, y)) ∧ Below bE W wa ∧ W.grownBy wa (some bE) ∧
      ∀ w9 v9 xs, wa.grownBy w9 u.ownBlock → OwnI 3 w9 bE v9 xs → xs ≠ [] → (v9.ownBlock = u.ownBlock ∨ v9.ownBlock = some wa.heap.size) →
        ∃ w', (Instr.entryStore 73 (.map (some bE)) st v9).run Tryz.prog w9 = .ok () w' ∧ Grp tEn 3 w' bE bE (n + 1) (updG g (x, y) xs) ∧ Below bE W w' := by
  obtain ⟨u, wa, st, o1, r1, r2, r3, r4, r5, r6, r7⟩ := Grp.entry (T := tEn) (ie := 3) (s := (x, y)) rfl h (by unfold maxLen; omega) ⟨hx, hy⟩
  have ba : Below bE W wa := below_of_grown r3 (by omega) fun k hk => by cases hk; exact Nat.le_refl _
  have sza := ba.size
  refine ⟨u, wa, st, r1, r2, ba, r3, fun w9 v9 xs q1 q2 q3 q4 => ?_⟩
  have b9 : Below bE wa w9 := below_of_grown q1 (by omega) fun k hk => (r2.1.lt k hk).1
  have hne : some bE ≠ u.ownBlock := fun e => by
    have := own_not r2.1 r4 r5
    rcases this with h5 | h5
    · rw [h5] at e; cases e
    · exact h5 e.symm
  obtain ⟨w3, p1, p2, p3⟩ := r7 w9 v9 xs ((q1.block bE (by omega) hne).trans r4) q1 q2 q3 (q4.imp id fun h => ⟨_, Nat.le_refl _, h⟩)
  exact ⟨w3, p1, p2, (ba.trans b9).trans (below_of_grown p3 (by have := b9.size; omega) fun k hk => by cases hk; exact Nat.le_refl _)⟩
/-- the end of the groups' loop -/
theorem contr_idx (e : Int) (al : List Vg.Arc) : Vg.Contr e al (Vg.idxE (entC e al al)) := Vg.Contr.of_idx (Vg.idxE_is _) (entC_mem e al)
end Go.Proofs.YtjmebijckcimoaaGreatDoor
