/-
  A region that draws its order: some operations are taken first, then the rest in one order; a store may come last.
-/
import Derived.Test.YtngdmpkoedpgdaaGreatDoorGd
namespace Go.Ap
open Go Go.RowKit
section
variable {F : Fence} {P : Program} {ops : Array Oper} {md : Region.Mode} {S : World → Prop} {n : Nat} {Q : Exit → Act → World → Prop}
/-- whatever one of S waits for, directly and through others: those below k are looked at -/
def needL (md : Region.Mode) (ops : Array Oper) : List Nat → Nat → List Nat
  | S, 0 => S
  | S, k + 1 => needL md ops (if S.any (fun s => Region.waitsFor md ops s k) then k :: S else S) k
theorem needL_listed {m t : Nat} {listed : Array Bool} (inv : HeadInv md ops m listed) (ht : t ∈ Region.ready md ops listed) : ∀ (k : Nat) (L : List Nat), (∀ s ∈ L, s = t ∨ listed.getD s false = true) → ∀ s ∈ needL md ops L k, s = t ∨ listed.getD s false = true
  | 0, _, h => h
  | k + 1, L, h => by
    rw [needL]
    refine needL_listed inv ht k _ ?_
    split
    · rename_i hw
      intro s hs
      rcases List.mem_cons.1 hs with rfl | hs
      · obtain ⟨r, hr, hrw⟩ := List.any_eq_true.1 hw
        obtain ⟨o, ho, e, he, hb, hon⟩ := Region.waitsFor_spec hrw
        obtain ⟨_, ot, hot, hall⟩ := mem_ready.1 ht
        rcases h r hr with rfl | hl
        · rw [ho] at hot
          cases hot
          have := hall e he hb
          rw [hon] at this
          exact .inr this
        · have := inv.closed r o ho hl e he hb
          rw [hon] at this
          exact .inr this
      · exact h s hs
    · exact h
def gateRB2 (md : Region.Mode) (ops : Array Oper) (m : Nat) : Bool :=
  (List.range ops.size).all fun t => decide (t < m) || (List.range m).all fun i => (needL md ops [t] t).contains i
theorem gateR_of2 {m : Nat} (h : gateRB2 md ops m = true) : GateR md ops m := by
  intro listed inv i hi hun t ht hr
  obtain ⟨_, ot, hot, _⟩ := mem_ready.1 hr
  have h1 := List.all_eq_true.1 h t (List.mem_range.2 (Array.getElem?_eq_some_iff.1 hot).1)
  simp only [Bool.or_eq_true, decide_eq_true_eq] at h1
  rcases h1 with h1 | h1
  · omega
  · have h2 := List.all_eq_true.1 h1 i (List.mem_range.2 hi)
    rcases needL_listed inv hr t [t] (fun s hs => .inl (by simpa using hs)) i (by simpa using h2) with h3 | h3
    · omega
    · rw [getD_both hun] at h3; cases h3
/-- the look at the region -/
def heldB2 (ops : Array Oper) (m : Nat) (is : List Nat) : Bool :=
  Region.noSelect ops && noDefer ops && gateRB2 .any ops m && takesB .any ops m is (Array.replicate ops.size false)
/-- some operations first, whatever comes then -/
theorem wpIn_region_heldA {id : Nat} {a : Act} {w : World} (S : World → Prop) (m k : Nat) (is : List Nat) (listed : Array Bool) (hF : ∀ f, F.fn f) (hm : P.follows .mixedOrders = true) (hB : heldB2 ops m is = true)
    (hk : k + is.length = ops.size) (hl : listL is (Array.replicate ops.size false) = listed) (hS : S w.drew)
    (h : wpTakes P ops S (fun a' => wpAnyR F n P .any ops (NoPanic Q) S m k listed a' w.drew) is a) : (Code.region id ops true).wpIn F n P Q a w := by
  refine wpIn_mono (Q := NoPanic Q) ?_ NoPanic.imp
  simp only [heldB2, Bool.and_eq_true] at hB
  obtain ⟨⟨⟨h1, h2⟩, h4⟩, h5⟩ := hB
  refine wpIn_region_any hm (anyIn_of_R (S := S) (m := m) _ _ _ _ ?_)
  subst hl
  suffices H : wpAnyR F n P .any ops (NoPanic Q) S m (k + is.length) (Array.replicate ops.size false) a { w with drawn := w.drawn + 1 } by rwa [hk] at H
  exact wpAnyR_takes hF h1 h2 (gateR_of2 h4) (fun _ _ _ _ _ h => h.elim) (by exact hS) is _ a inv_start h5 h
/-- the rest is one order from here on -/
theorem wpAnyR_rest {m : Nat} (is : List Nat) {listed : Array Bool} {a : Act} {w : World} (hB : forcedB md ops is listed = true) (h : wpSeqR F n P ops Q S m is a w) : wpAnyR F n P md ops Q S m is.length listed a w := wpAnyR_seq is listed a w hB h
end
end Go.Ap
