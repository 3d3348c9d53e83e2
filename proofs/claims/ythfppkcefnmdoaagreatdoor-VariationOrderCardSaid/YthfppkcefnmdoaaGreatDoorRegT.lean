/-
  A region that draws its order, of which the rest may go in several orders: one after the other.
-/
import Derived.Test.YthfppkcefnmdoaaGreatDoorRb
namespace Go.Ap
open Go Go.RowKit
section
variable {F : Fence} {P : Program} {ops : Array Oper} {md : Region.Mode} {S : World → Prop} {n : Nat} {Q : Exit → Act → World → Prop}
/-- whatever one of S waits for, directly and through others: those below k are looked at -/
def needL (md : Region.Mode) (ops : Array Oper) : List Nat → Nat → List Nat
  | S, 0 => S
  | S, k + 1 => needL md ops (if S.any (fun s => Region.waitsFor md ops s k) then k :: S else S) k
theorem needL_listed {m t : Nat} {listed : Array Bool} (inv : HeadInv md ops m listed) (ht : t ∈ Region.ready md ops listed) : ∀ (k : Nat) (L : List Nat), (∀ s ∈ L, s = t ∨ listed.getD s false = true) → ∀ s ∈ needL md ops L k, s = t ∨ listed.getD s false = true
  | 0, _, h => h
  | k + 1, L, h => by
    rw [needL]
    refine needL_listed inv ht k _ ?_
    split
    · rename_i hw
      intro s hs
      rcases List.mem_cons.1 hs with rfl | hs
      · obtain ⟨r, hr, hrw⟩ := List.any_eq_true.1 hw
        obtain ⟨o, ho, e, he, hb, hon⟩ := Region.waitsFor_spec hrw
        obtain ⟨_, ot, hot, hall⟩ := mem_ready.1 ht
        rcases h r hr with rfl | hl
        · rw [ho] at hot
          cases hot
          have := hall e he hb
          rw [hon] at this
          exact .inr this
        · have := inv.closed r o ho hl e he hb
          rw [hon] at this
          exact .inr this
      · exact h s hs
    · exact h
def gateRB2 (md : Region.Mode) (ops : Array Oper) (m : Nat) : Bool :=
  (List.range ops.size).all fun t => decide (t < m) || (List.range m).all fun i => (needL md ops [t] t).contains i
theorem gateR_of2 {m : Nat} (h : gateRB2 md ops m = true) : GateR md ops m := by
  intro listed inv i hi hun t ht hr
  obtain ⟨_, ot, hot, _⟩ := mem_ready.1 hr
  have h1 := List.all_eq_true.1 h t (List.mem_range.2 (Array.getElem?_eq_some_iff.1 hot).1)
  simp only [Bool.or_eq_true, decide_eq_true_eq] at h1
  rcases h1 with h1 | h1
  · omega
  · have h2 := List.all_eq_true.1 h1 i (List.mem_range.2 hi)
    rcases needL_listed inv hr t [t] (fun s hs => .inl (by simpa using hs)) i (by simpa using h2) with h3 | h3
    · omega
    · rw [getD_both hun] at h3; cases h3
/-- the look at the region -/
def heldB2 (ops : Array Oper) (m : Nat) (is : List Nat) : Bool :=
  Region.noSelect ops && noDefer ops && gateRB2 .any ops m && takesB .any ops m is (Array.replicate ops.size false)
/-- some operations first, whatever comes then -/
theorem wpIn_region_heldA {id : Nat} {a : Act} {w : World} (S : World → Prop) (m k : Nat) (is : List Nat) (listed : Array Bool) (hF : ∀ f, F.fn f) (hm : P.follows .mixedOrders = true) (hB : heldB2 ops m is = true)
    (hk : k + is.length = ops.size) (hl : listL is (Array.replicate ops.size false) = listed) (hS : S w.drew)
    (h : wpTakes P ops S (fun a' => wpAnyR F n P .any ops (NoPanic Q) S m k listed a' w.drew) is a) : (Code.region id ops true).wpIn F n P Q a w := by
  refine wpIn_mono (Q := NoPanic Q) ?_ NoPanic.imp
  simp only [heldB2, Bool.and_eq_true] at hB
  obtain ⟨⟨⟨h1, h2⟩, h4⟩, h5⟩ := hB
  refine wpIn_region_any hm (anyIn_of_R (S := S) (m := m) _ _ _ _ ?_)
  subst hl
  suffices H : wpAnyR F n P .any ops (NoPanic Q) S m (k + is.length) (Array.replicate ops.size false) a { w with drawn := w.drawn + 1 } by rwa [hk] at H
  exact wpAnyR_takes hF h1 h2 (gateR_of2 h4) (fun _ _ _ _ _ h => h.elim) (by exact hS) is _ a inv_start h5 h
/-- what is listed is closed -/
def headB (md : Region.Mode) (ops : Array Oper) (m : Nat) (listed : Array Bool) : Bool :=
  decide (listed.size = ops.size) &&
  ((List.range ops.size).all fun j => !(listed.getD j false) || match ops[j]? with
    | some oj => oj.after.toList.all fun e => !(Region.binds md e) || listed.getD e.on false
    | none => true) &&
  ((List.range ops.size).all fun t => decide (t < m) || !(listed.getD t true))
theorem head_of_B {m : Nat} {listed : Array Bool} (h : headB md ops m listed = true) : HeadInv md ops m listed := by
  simp only [headB, Bool.and_eq_true, decide_eq_true_eq] at h
  obtain ⟨⟨h1, h2⟩, h3⟩ := h
  refine ⟨h1, fun j oj hj hl e he hb => ?_, fun t ht hts => ?_⟩
  · have h4 := List.all_eq_true.1 h2 j (List.mem_range.2 (Array.getElem?_eq_some_iff.1 hj).1)
    simp only [hj, hl, Bool.not_true, Bool.false_or] at h4
    have h5 := List.all_eq_true.1 h4 e (by simpa using he)
    rwa [hb, Bool.not_true, Bool.false_or] at h5
  · have h4 := List.all_eq_true.1 h3 t (List.mem_range.2 hts)
    simp only [Bool.or_eq_true, decide_eq_true_eq] at h4
    rcases h4 with h4 | h4
    · omega
    · simpa using h4
def earlyB (md : Region.Mode) (ops : Array Oper) (m i : Nat) (listed : Array Bool) : Bool :=
  Region.noSelect ops && noDefer ops && gateRB2 md ops m && headB md ops m listed && Nat.blt i m && (Region.ready md ops listed).contains i && Region.free md ops listed i
/-- an operation that reads only, as soon as it may come -/
theorem wpAnyR_early {m i d k : Nat} {oi : Oper} {v : Value} {listed : Array Bool} {a : Act} {w : World} (ho : ops[i]? = some oi) (hd : oi.dst = some d) (hF : ∀ f, F.fn f) (hB : earlyB md ops m i listed = true) (hw : Region.wanted oi (yielded ops a.tmps) = true)
    (hy : ∀ w, S w → (execOp a.eval oi).run P w = .ok (.value v) w) (hS : S w)
    (h : wpAnyR F n P md ops (NoPanic Q) S m k (listed.setIfInBounds i true) { a with tmps := a.tmps.setIfInBounds d v } w) : wpAnyR F n P md ops (NoPanic Q) S m (k + 1) listed a w := by
  simp only [earlyB, Bool.and_eq_true] at hB
  obtain ⟨⟨⟨⟨⟨⟨h1, h2⟩, h3⟩, h4⟩, h5⟩, h6⟩, h7⟩ := hB
  exact wpAnyR_first hF ho (Region.noSelect_spec h1) (fun j o c hj => noDefer_spec h2 hj c) (gateR_of2 h3) (Nat.le_of_ble_eq_true h5) (fun _ _ _ h => h.elim) k listed a w (head_of_B h4) (Region.free_spec ho h7) (by simpa using h6) (.inl ⟨hw, hy⟩) hS (by rw [put_some hd]; exact h)
/-- the one operation that may come -/
theorem wpAnyR_one {m i k : Nat} {o : Oper} {listed : Array Bool} {a : Act} {w : World} (ho : ops[i]? = some o) (hr : Region.ready md ops listed = [i])
    (h : wpListIn F n P ops (Exit.then (fun a' w' => (i < m → S w') ∧ wpAnyR F n P md ops Q S m k (listed.setIfInBounds i true) a' w') Q) [o] a w) : wpAnyR F n P md ops Q S m (k + 1) listed a w := by
  refine ⟨fun h0 => (by rw [hr] at h0; cases h0), fun j hj => ?_⟩
  rw [hr] at hj
  obtain rfl : j = i := by simpa using hj
  unfold wpOpIn
  simp only [ho]
  exact h
/-- one of two -/
theorem wpAnyR_two {m i j k : Nat} {oi oj : Oper} {listed : Array Bool} {a : Act} {w : World} (hoi : ops[i]? = some oi) (hoj : ops[j]? = some oj) (hr : Region.ready md ops listed = [i, j])
    (hi : wpListIn F n P ops (Exit.then (fun a' w' => (i < m → S w') ∧ wpAnyR F n P md ops Q S m k (listed.setIfInBounds i true) a' w') Q) [oi] a w)
    (hj : wpListIn F n P ops (Exit.then (fun a' w' => (j < m → S w') ∧ wpAnyR F n P md ops Q S m k (listed.setIfInBounds j true) a' w') Q) [oj] a w) : wpAnyR F n P md ops Q S m (k + 1) listed a w := by
  refine ⟨fun h0 => (by rw [hr] at h0; cases h0), fun t ht => ?_⟩
  rw [hr] at ht
  rcases List.mem_cons.1 ht with rfl | ht
  · unfold wpOpIn
    simp only [hoi]
    exact hi
  · obtain rfl : t = j := by simpa using ht
    unfold wpOpIn
    simp only [hoj]
    exact hj
/-- the rest is one order from here on -/
theorem wpAnyR_rest {m : Nat} (is : List Nat) {listed : Array Bool} {a : Act} {w : World} (hB : forcedB md ops is listed = true) (h : wpSeqR F n P ops Q S m is a w) : wpAnyR F n P md ops Q S m is.length listed a w := wpAnyR_seq is listed a w hB h
end
end Go.Ap
