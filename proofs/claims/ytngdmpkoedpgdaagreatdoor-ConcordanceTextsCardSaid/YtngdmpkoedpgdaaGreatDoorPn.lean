/-
  A region that draws its order, walked by a plan: operations that may be taken at once, operations that are the only one ready, two that are ready in either order.
-/
import Derived.Test.YtngdmpkoedpgdaaGreatDoorGd
namespace Go.Ap
open Go Go.RowKit
/-- a plan for the operations of a region -/
inductive Pln where
  | fin
  | take (i : Nat) (r : Pln)
  | one (i : Nat) (r : Pln)
  | two (i j : Nat) (r s : Pln)
def Pln.len : Pln → Nat
  | .fin => 0
  | .take _ r => r.len + 1
  | .one _ r => r.len + 1
  | .two _ _ r _ => r.len + 1
section
variable {F : Fence} {P : Program} {ops : Array Oper} {md : Region.Mode} {S : World → Prop} {n : Nat} {Q : Exit → Act → World → Prop}
def wpPlanR (F : Fence) (n : Nat) (P : Program) (ops : Array Oper) (Q : Exit → Act → World → Prop) (S : World → Prop) : Pln → Act → World → Prop
  | .fin, a, w => Q .normal a w
  | .take i r, a, w => ∃ oi v, ops[i]? = some oi ∧ YieldsIf P ops S oi v a ∧ wpPlanR F n P ops Q S r (a.put oi.dst v) w
  | .one i r, a, w => wpOpIn F n P ops Q i (fun a' w' => S w' ∧ wpPlanR F n P ops Q S r a' w') a w
  | .two i j r s, a, w => wpOpIn F n P ops Q i (fun a' w' => S w' ∧ wpPlanR F n P ops Q S r a' w') a w ∧ wpOpIn F n P ops Q j (fun a' w' => S w' ∧ wpPlanR F n P ops Q S s a' w') a w
def planB (md : Region.Mode) (ops : Array Oper) : Pln → Array Bool → Bool
  | .fin, l => (Region.ready md ops l).isEmpty
  | .take i r, l => (Region.ready md ops l).contains i && Region.free md ops l i && planB md ops r (l.setIfInBounds i true)
  | .one i r, l => decide (Region.ready md ops l = [i]) && planB md ops r (l.setIfInBounds i true)
  | .two i j r s, l => decide (Region.ready md ops l = [i, j]) && planB md ops r (l.setIfInBounds i true) && planB md ops s (l.setIfInBounds j true) && decide (r.len = s.len)
theorem gate_all : GateR md ops ops.size := fun _ _ _ _ _ t ht hr => by
  obtain ⟨_, ot, hot, _⟩ := mem_ready.1 hr
  have := (Array.getElem?_eq_some_iff.1 hot).1
  omega
theorem ready_lt {listed : Array Bool} {j : Nat} (h : j ∈ Region.ready md ops listed) : j < ops.size := by
  obtain ⟨_, ot, hot, _⟩ := mem_ready.1 h
  exact (Array.getElem?_eq_some_iff.1 hot).1
theorem wpAnyR_plan (hF : ∀ f, F.fn f) (hsel : Region.noSelect ops = true) (hdef : noDefer ops = true) (hQ : ∀ d v c a w, Q (.panic c) (a.put d v) w → Q (.panic c) a w) :
    ∀ (p : Pln) (listed : Array Bool) (a : Act) (w : World), HeadInv md ops ops.size listed → planB md ops p listed = true → S w → wpPlanR F n P ops Q S p a w → wpAnyR F n P md ops Q S ops.size p.len listed a w
  | .fin, listed, a, w, _, hB, _, h => ⟨by simpa [planB] using hB, h⟩
  | .take i r, listed, a, w, inv, hB, hS, ⟨oi, v, ho, hy, h⟩ => by
    simp only [planB, Bool.and_eq_true] at hB
    obtain ⟨⟨hr, hf⟩, hB'⟩ := hB
    have hr' : i ∈ Region.ready md ops listed := by simpa using hr
    have him : i < ops.size := (Array.getElem?_eq_some_iff.1 ho).1
    exact wpAnyR_first hF ho (Region.noSelect_spec hsel) (fun j o c hj => noDefer_spec hdef hj c) gate_all him (fun c a w => hQ _ _ c a w) r.len listed a w inv (Region.free_spec ho hf) hr' hy hS
      (wpAnyR_plan hF hsel hdef hQ r _ _ _ (setInv inv hr' him) hB' hS h)
  | .one i r, listed, a, w, inv, hB, hS, h => by
    simp only [planB, Bool.and_eq_true, decide_eq_true_eq] at hB
    refine ⟨fun h0 => (by rw [hB.1] at h0; cases h0), fun j hj => ?_⟩
    have hj' := hj
    rw [hB.1] at hj
    have hji : j = i := by simpa using hj
    subst hji
    exact wpOpIn_mono (fun a' w' h' => ⟨fun _ => h'.1, wpAnyR_plan hF hsel hdef hQ r _ a' w' (setInv inv hj' (ready_lt hj')) hB.2 h'.1 h'.2⟩) h
  | .two i j r s, listed, a, w, inv, hB, hS, h => by
    simp only [planB, Bool.and_eq_true, decide_eq_true_eq] at hB
    obtain ⟨⟨⟨h1, h2⟩, h3⟩, h4⟩ := hB
    refine ⟨fun h0 => (by rw [h1] at h0; cases h0), fun k hk => ?_⟩
    have hk' := hk
    rw [h1] at hk
    rcases List.mem_cons.1 hk with rfl | hk
    · exact wpOpIn_mono (fun a' w' h' => ⟨fun _ => h'.1, wpAnyR_plan hF hsel hdef hQ r _ a' w' (setInv inv hk' (ready_lt hk')) h2 h'.1 h'.2⟩) h.1
    · have hkj : k = j := by simpa using hk
      subst hkj
      refine wpOpIn_mono (fun a' w' h' => ⟨fun _ => h'.1, ?_⟩) h.2
      have := wpAnyR_plan hF hsel hdef hQ s _ a' w' (setInv inv hk' (ready_lt hk')) h3 h'.1 h'.2
      rw [← h4] at this
      exact this
def planned (ops : Array Oper) (p : Pln) : Bool := Region.noSelect ops && noDefer ops && decide (p.len = ops.size) && planB .any ops p (Array.replicate ops.size false)
theorem wpIn_region_plan {id : Nat} {a : Act} {w : World} (S : World → Prop) (p : Pln) (hF : ∀ f, F.fn f) (hm : P.follows .mixedOrders = true) (hB : planned ops p = true)
    (hQ : ∀ d v c a w, Q (.panic c) (a.put d v) w → Q (.panic c) a w) (hS : S w.drew) (h : wpPlanR F n P ops Q S p a w.drew) : (Code.region id ops true).wpIn F n P Q a w := by
  simp only [planned, Bool.and_eq_true, decide_eq_true_eq] at hB
  obtain ⟨⟨⟨h1, h2⟩, h3⟩, h4⟩ := hB
  refine wpIn_region_any hm (anyIn_of_R (S := S) (m := ops.size) _ _ _ _ ?_)
  have H := wpAnyR_plan hF h1 h2 hQ p (Array.replicate ops.size false) a w.drew inv_start h4 hS h
  rw [h3] at H
  exact H
/-- the same where the post hangs on the frame at a panic: the region does not panic -/
theorem wpIn_region_planN {id : Nat} {a : Act} {w : World} (S : World → Prop) (p : Pln) (hF : ∀ f, F.fn f) (hm : P.follows .mixedOrders = true) (hB : planned ops p = true)
    (hS : S w.drew) (h : wpPlanR F n P ops (NoPanic Q) S p a w.drew) : (Code.region id ops true).wpIn F n P Q a w :=
  wpIn_mono (wpIn_region_plan (Q := NoPanic Q) S p hF hm hB (fun _ _ _ _ _ h => h.elim) hS h) NoPanic.imp
section
variable {i j t d : Nat} {r s : Pln} {oi oj : Oper} {b c : Bool} {v : Value} {a : Act} {w : World}
theorem plan_take (ho : ops[i]? = some oi) (hd : oi.dst = some d) (hw : Region.wanted oi (yielded ops a.tmps) = true) (hy : ∀ w, S w → (execOp a.eval oi).run P w = .ok (.value v) w)
    (h : wpPlanR F n P ops Q S r { a with tmps := a.tmps.setIfInBounds d v } w) : wpPlanR F n P ops Q S (.take i r) a w := ⟨oi, v, ho, .inl ⟨hw, hy⟩, by rw [put_some hd]; exact h⟩
theorem plan_no (ho : ops[i]? = some oi) (hd : oi.dst = some d) (hg : oi.guard = some (j, c)) (hj : ops[j]? = some oj) (hdj : oj.dst = some t) (hv : a.tmps[t]? = some (.bool b)) (hn : (b == c) = false)
    (h : wpPlanR F n P ops Q S r { a with tmps := a.tmps.setIfInBounds d undef } w) : wpPlanR F n P ops Q S (.take i r) a w := ⟨oi, undef, ho, .inr ⟨(wanted_gd hg hj hdj hv).trans hn, rfl⟩, by rw [put_some hd]; exact h⟩
theorem plan_gd (ho : ops[i]? = some oi) (hd : oi.dst = some d) (hg : oi.guard = some (j, c)) (hj : ops[j]? = some oj) (hdj : oj.dst = some t) (hv : a.tmps[t]? = some (.bool b)) (hn : (b == c) = true)
    (hy : ∀ w, S w → (execOp a.eval oi).run P w = .ok (.value v) w) (h : wpPlanR F n P ops Q S r { a with tmps := a.tmps.setIfInBounds d v } w) : wpPlanR F n P ops Q S (.take i r) a w :=
  plan_take ho hd ((wanted_gd hg hj hdj hv).trans hn) hy h
theorem plan_un (ho : ops[i]? = some oi) (hd : oi.dst = some d) (hg : oi.guard = some (j, c)) (hj : ops[j]? = some oj) (hdj : oj.dst = some t) (hv : a.tmps[t]? = some undef)
    (h : wpPlanR F n P ops Q S r { a with tmps := a.tmps.setIfInBounds d undef } w) : wpPlanR F n P ops Q S (.take i r) a w := ⟨oi, undef, ho, .inr ⟨wanted_un hg hj hdj hv, rfl⟩, by rw [put_some hd]; exact h⟩
theorem plan_one (ho : ops[i]? = some oi) (h : wpListIn F n P ops (Exit.then (fun a' w' => S w' ∧ wpPlanR F n P ops Q S r a' w') Q) [oi] a w) : wpPlanR F n P ops Q S (.one i r) a w := by
  unfold wpPlanR wpOpIn
  simp only [ho]
  exact h
theorem plan_two (hi : ops[i]? = some oi) (hj : ops[j]? = some oj) (h1 : wpListIn F n P ops (Exit.then (fun a' w' => S w' ∧ wpPlanR F n P ops Q S r a' w') Q) [oi] a w)
    (h2 : wpListIn F n P ops (Exit.then (fun a' w' => S w' ∧ wpPlanR F n P ops Q S s a' w') Q) [oj] a w) : wpPlanR F n P ops Q S (.two i j r s) a w := by
  unfold wpPlanR wpOpIn
  simp only [hi, hj]
  exact ⟨h1, h2⟩
/-- both orders end alike: what is left is proved once -/
theorem plan_two_key {K : Prop} (hi : ops[i]? = some oi) (hj : ops[j]? = some oj) (h1 : K → wpListIn F n P ops (Exit.then (fun a' w' => S w' ∧ wpPlanR F n P ops Q S r a' w') Q) [oi] a w)
    (h2 : K → wpListIn F n P ops (Exit.then (fun a' w' => S w' ∧ wpPlanR F n P ops Q S s a' w') Q) [oj] a w) (k : K) : wpPlanR F n P ops Q S (.two i j r s) a w := plan_two hi hj (h1 k) (h2 k)
theorem plan_fin (h : Q .normal a w) : wpPlanR F n P ops (NoPanic Q) S .fin a w := h
end
end
end Go.Ap
