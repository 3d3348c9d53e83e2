/-
  A region walked by a plan whose last operations (from m on) may write what its first ones read.
-/
import Derived.Test.YtjmebijckcimoaaGreatDoorUa
namespace Go.Ap
open Go Go.RowKit
section
variable {F : Fence} {P : Program} {ops : Array Oper} {md : Region.Mode} {S : World → Prop} {n m : Nat} {Q : Exit → Act → World → Prop}
/-- no operation from m on is ready while one ahead of m is not done -/
def gateC (md : Region.Mode) (ops : Array Oper) (m : Nat) : Bool :=
  (List.range m).all fun i => ((List.range m).any fun j => decide (i < j) && Region.waitsFor md ops j i) || ((List.range ops.size).all fun t => decide (t < m) || Region.waitsFor md ops t i)
theorem gateC_of (h : gateC md ops m = true) : GateR md ops m := by
  intro listed inv i hi hun t ht hr
  obtain ⟨_, ot, hot, hall⟩ := mem_ready.1 hr
  have htl := (Array.getElem?_eq_some_iff.1 hot).1
  have key : ∀ d i, m - i = d → i < m → listed.getD i true = false → False := by
    intro d
    induction d using Nat.strongRecOn with
    | _ d ih =>
      intro i hd hi hun
      have h3 := List.all_eq_true.1 h i (List.mem_range.2 hi)
      rw [Bool.or_eq_true] at h3
      rcases h3 with h3 | h3
      · obtain ⟨j, hj, hj2⟩ := List.any_eq_true.1 h3
        simp only [Bool.and_eq_true, decide_eq_true_eq] at hj2
        have hjm := List.mem_range.1 hj
        obtain ⟨oj, hoj, e, he', hb, hon⟩ := Region.waitsFor_spec hj2.2
        have hjl := (Array.getElem?_eq_some_iff.1 hoj).1
        cases hl : listed.getD j false with
        | true =>
          have h4 := inv.closed j oj hoj hl e he' hb
          rw [hon, getD_both hun] at h4
          cases h4
        | false => exact ih (m - j) (by omega) j rfl hjm (getD_inR (by rw [inv.size]; exact hjl) hl)
      · have h5 := List.all_eq_true.1 h3 t (List.mem_range.2 htl)
        simp only [Bool.or_eq_true, decide_eq_true_eq] at h5
        rcases h5 with h5 | h5
        · omega
        · obtain ⟨o', ho', e, he, hb, hon⟩ := Region.waitsFor_spec h5
          have : o' = ot := Option.some.inj (ho'.symm.trans hot)
          subst this
          have h4 := hall e he hb
          rw [hon, getD_both hun] at h4
          cases h4
  exact key _ i rfl hi hun
def Pln.ones : Pln → Bool
  | .fin => true
  | .one _ r => r.ones
  | .take _ _ => false
  | .two _ _ _ _ => false
def wpPlanM (F : Fence) (n : Nat) (P : Program) (ops : Array Oper) (Q : Exit → Act → World → Prop) (S : World → Prop) (m : Nat) : Pln → Act → World → Prop
  | .fin, a, w => Q .normal a w
  | .take i r, a, w => ∃ oi v, ops[i]? = some oi ∧ YieldsIf P ops S oi v a ∧ wpPlanM F n P ops Q S m r (a.put oi.dst v) w
  | .one i r, a, w => wpOpIn F n P ops Q i (fun a' w' => (i < m → S w') ∧ wpPlanM F n P ops Q S m r a' w') a w
  | .two _ _ _ _, _, _ => False
def planM (md : Region.Mode) (ops : Array Oper) (m : Nat) : Pln → Array Bool → Bool
  | .fin, l => (Region.ready md ops l).isEmpty
  | .take i r, l => decide (i < m) && (Region.ready md ops l).contains i && Region.free md ops l i && planM md ops m r (l.setIfInBounds i true)
  | .one i r, l => decide (Region.ready md ops l = [i]) && (decide (i < m) || r.ones) && planM md ops m r (l.setIfInBounds i true)
  | .two _ _ _ _, _ => false
theorem wpAnyR_ones : ∀ (p : Pln) (listed : Array Bool) (a : Act) (w : World), p.ones = true → planM md ops m p listed = true → wpPlanM F n P ops Q S m p a w → wpAnyR F n P md ops Q S m p.len listed a w
  | .fin, listed, a, w, _, hB, h => ⟨by simpa [planM] using hB, h⟩
  | .one i r, listed, a, w, ho, hB, h => by
    simp only [planM, Bool.and_eq_true, decide_eq_true_eq] at hB
    refine ⟨fun h0 => (by rw [hB.1.1] at h0; cases h0), fun j hj => ?_⟩
    rw [hB.1.1] at hj
    have hji : j = i := by simpa using hj
    subst hji
    exact wpOpIn_mono (fun a' w' h' => ⟨h'.1, wpAnyR_ones r _ a' w' ho hB.2 h'.2⟩) h
  | .take _ _, _, _, _, ho, _, _ => by cases ho
  | .two _ _ _ _, _, _, _, ho, _, _ => by cases ho
theorem wpAnyR_planM (hF : ∀ f, F.fn f) (hsel : Region.noSelect ops = true) (hdef : noDefer ops = true) (gate : GateR md ops m) (hQ : ∀ d v c a w, Q (.panic c) (a.put d v) w → Q (.panic c) a w) :
    ∀ (p : Pln) (listed : Array Bool) (a : Act) (w : World), HeadInv md ops m listed → planM md ops m p listed = true → S w → wpPlanM F n P ops Q S m p a w → wpAnyR F n P md ops Q S m p.len listed a w
  | .fin, listed, a, w, _, hB, _, h => ⟨by simpa [planM] using hB, h⟩
  | .take i r, listed, a, w, inv, hB, hS, ⟨oi, v, ho, hy, h⟩ => by
    simp only [planM, Bool.and_eq_true, decide_eq_true_eq] at hB
    obtain ⟨⟨⟨him, hr⟩, hf⟩, hB'⟩ := hB
    have hr' : i ∈ Region.ready md ops listed := by simpa using hr
    exact wpAnyR_first hF ho (Region.noSelect_spec hsel) (fun j o c hj => noDefer_spec hdef hj c) gate him (fun c a w => hQ _ _ c a w) r.len listed a w inv (Region.free_spec ho hf) hr' hy hS
      (wpAnyR_planM hF hsel hdef gate hQ r _ _ _ (setInv inv hr' him) hB' hS h)
  | .one i r, listed, a, w, inv, hB, hS, h => by
    simp only [planM, Bool.and_eq_true, Bool.or_eq_true, decide_eq_true_eq] at hB
    refine ⟨fun h0 => (by rw [hB.1.1] at h0; cases h0), fun j hj => ?_⟩
    have hj' := hj
    rw [hB.1.1] at hj
    have hji : j = i := by simpa using hj
    subst hji
    by_cases him : j < m
    · exact wpOpIn_mono (fun a' w' h' => ⟨h'.1, wpAnyR_planM hF hsel hdef gate hQ r _ a' w' (setInv inv hj' him) hB.2 (h'.1 him) h'.2⟩) h
    · have ho : r.ones = true := by
        rcases hB.1.2 with h1 | h1
        · exact absurd h1 him
        · exact h1
      exact wpOpIn_mono (fun a' w' h' => ⟨h'.1, wpAnyR_ones r _ a' w' ho hB.2 h'.2⟩) h
  | .two _ _ _ _, _, _, _, _, hB, _, _ => by simp [planM] at hB
def plannedM (ops : Array Oper) (m : Nat) (p : Pln) : Bool := Region.noSelect ops && noDefer ops && decide (p.len = ops.size) && gateC .any ops m && planM .any ops m p (Array.replicate ops.size false)
theorem wpIn_region_planM {id : Nat} {a : Act} {w : World} (S : World → Prop) (m : Nat) (p : Pln) (hF : ∀ f, F.fn f) (hm : P.follows .mixedOrders = true) (hB : plannedM ops m p = true)
    (hS : S w.drew) (h : wpPlanM F n P ops (NoPanic Q) S m p a w.drew) : (Code.region id ops true).wpIn F n P Q a w := by
  refine wpIn_mono ?_ NoPanic.imp
  simp only [plannedM, Bool.and_eq_true, decide_eq_true_eq] at hB
  obtain ⟨⟨⟨⟨h1, h2⟩, h3⟩, h5⟩, h4⟩ := hB
  refine wpIn_region_any hm (anyIn_of_R (S := S) (m := m) _ _ _ _ ?_)
  have H := wpAnyR_planM (Q := NoPanic Q) hF h1 h2 (gateC_of h5) (fun _ _ _ _ _ h => h.elim) p (Array.replicate ops.size false) a w.drew inv_start h4 hS h
  rw [h3] at H
  exact H
section
variable {i j t d : Nat} {r : Pln} {oi oj : Oper} {b c : Bool} {v : Value} {a : Act} {w : World}
theorem pm_take (ho : ops[i]? = some oi) (hd : oi.dst = some d) (hw : Region.wanted oi (yielded ops a.tmps) = true) (hy : ∀ w, S w → (execOp a.eval oi).run P w = .ok (.value v) w)
    (h : wpPlanM F n P ops Q S m r { a with tmps := a.tmps.setIfInBounds d v } w) : wpPlanM F n P ops Q S m (.take i r) a w := ⟨oi, v, ho, .inl ⟨hw, hy⟩, by rw [put_some hd]; exact h⟩
theorem pm_no (ho : ops[i]? = some oi) (hd : oi.dst = some d) (hg : oi.guard = some (j, c)) (hj : ops[j]? = some oj) (hdj : oj.dst = some t) (hv : a.tmps[t]? = some (.bool b)) (hn : (b == c) = false)
    (h : wpPlanM F n P ops Q S m r { a with tmps := a.tmps.setIfInBounds d undef } w) : wpPlanM F n P ops Q S m (.take i r) a w := ⟨oi, undef, ho, .inr ⟨(wanted_gd hg hj hdj hv).trans hn, rfl⟩, by rw [put_some hd]; exact h⟩
theorem pm_gd (ho : ops[i]? = some oi) (hd : oi.dst = some d) (hg : oi.guard = some (j, c)) (hj : ops[j]? = some oj) (hdj : oj.dst = some t) (hv : a.tmps[t]? = some (.bool b)) (hn : (b == c) = true)
    (hy : ∀ w, S w → (execOp a.eval oi).run P w = .ok (.value v) w) (h : wpPlanM F n P ops Q S m r { a with tmps := a.tmps.setIfInBounds d v } w) : wpPlanM F n P ops Q S m (.take i r) a w :=
  pm_take ho hd ((wanted_gd hg hj hdj hv).trans hn) hy h
theorem pm_un (ho : ops[i]? = some oi) (hd : oi.dst = some d) (hg : oi.guard = some (j, c)) (hj : ops[j]? = some oj) (hdj : oj.dst = some t) (hv : a.tmps[t]? = some undef)
    (h : wpPlanM F n P ops Q S m r { a with tmps := a.tmps.setIfInBounds d undef } w) : wpPlanM F n P ops Q S m (.take i r) a w := ⟨oi, undef, ho, .inr ⟨wanted_un hg hj hdj hv, rfl⟩, by rw [put_some hd]; exact h⟩
theorem pm_one (ho : ops[i]? = some oi) (h : wpListIn F n P ops (Exit.then (fun a' w' => (i < m → S w') ∧ wpPlanM F n P ops Q S m r a' w') Q) [oi] a w) : wpPlanM F n P ops Q S m (.one i r) a w := by
  unfold wpPlanM wpOpIn
  simp only [ho]
  exact h
theorem pm_fin (h : Q .normal a w) : wpPlanM F n P ops (NoPanic Q) S m .fin a w := h
end
end
end Go.Ap
