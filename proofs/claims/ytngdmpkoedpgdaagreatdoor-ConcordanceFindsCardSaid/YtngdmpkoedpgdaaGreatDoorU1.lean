import Derived.Test.YtngdmpkoedpgdaaGreatDoorPl
import Derived.OrdersHeld
import Derived.OrdersIn
import Derived.StillTail
import Derived.Deep.RegionHeld3

/-
  A region that draws its order, in a fence that asks nothing (in a round, too): operations that read what none of the others writes are taken first, the rest goes in one order.
-/




namespace Go.Ap
open Go Go.RowKit

section
variable {F : Fence} {P : Program} {ops : Array Oper} {md : Region.Mode} {S : World → Prop} {n : Nat} {Q : Exit → Act → World → Prop}

/-- the region holds no defer statement -/
def noDefer (ops : Array Oper) : Bool := ops.all fun o => match o.op with | .defer _ => false | _ => true
theorem noDefer_spec (h : noDefer ops = true) {j : Nat} {o : Oper} (hj : ops[j]? = some o) (c) : o.op ≠ .defer c := fun he => by
  obtain ⟨hl, rfl⟩ := Array.getElem?_eq_some_iff.1 hj
  have := (Array.all_eq_true.1 h) j hl
  rw [he] at this
  cases this
theorem semR {o : Oper} (ro : Option Nat) (a : Act) (h : ∀ c, o.op ≠ .defer c) : o.semAt ro a.eval = execOp a.eval o := Oper.semAt_eq ro a.eval o h

theorem YieldsIf.wpOpR {i : Nat} {o : Oper} {v : Value} {a : Act} (hF : ∀ f, F.fn f) (hi : ops[i]? = some o) (hd : ∀ c, o.op ≠ .defer c) (hy : YieldsIf P ops S o v a)
    {K : Act → World → Prop} {w : World} (hS : S w) (h : K (a.put o.dst v) w) : wpOpIn F n P ops Q i K a w := by
  unfold Go.wpOpIn
  simp only [hi]
  rcases hy with ⟨hw, hv⟩ | ⟨hw, rfl⟩
  · simp only [hw, if_true, Oper.wpIn]
    refine ⟨fun f _ => hF f, ?_⟩
    rw [semR F.round a hd, hv w hS, Oper.uponIn]
    exact h
  · simp only [hw, Bool.false_eq_true, if_false]
    exact ⟨fun f _ => hF f, h⟩

theorem wpOpR_put {j : Nat} {oi oj : Oper} {v : Value} (hF : ∀ f, F.fn f) (hj : ops[j]? = some oj) (hap : oi.apart ops oj = true)
    (hsi : ∀ cs b, oi.op ≠ .select cs b) (hsj : ∀ cs b, oj.op ≠ .select cs b) (hdj : ∀ c, oj.op ≠ .defer c)
    (hQ : ∀ c a w, Q (.panic c) (a.put oi.dst v) w → Q (.panic c) a w) {K : Act → World → Prop} {a : Act} {w : World}
    (hy : YieldsIf P ops S oi v a) (h : wpOpIn F n P ops Q j K (a.put oi.dst v) w) :
    wpOpIn F n P ops Q j (fun a' w' => YieldsIf P ops S oi v a' ∧ K (a'.put oi.dst v) w') a w := by
  obtain ⟨h1, h2, h3⟩ := Oper.apart_spec hap
  have keep : ∀ (a : Act), YieldsIf P ops S oi v a → ∀ u, YieldsIf P ops S oi v (a.put oj.dst u) := fun a hy u =>
    hy.of_same (execOp_put oi hsi a oj.dst u h3) (wanted_put oi a oj.dst u h3)
  have keepD : ∀ d, YieldsIf P ops S oi v { a with defers := d :: a.defers } := fun d => hy.of_same rfl rfl
  unfold wpOpIn at *
  simp only [hj] at *
  rw [wanted_put oj a oi.dst v h1] at h
  split
  · rename_i hw
    simp only [hw, if_true] at h
    unfold Oper.wpIn at *
    refine ⟨fun f _ => hF f, ?_⟩
    have h := h.2
    rw [semR F.round _ hdj, execOp_put oj hsj a oi.dst v h1] at h
    rw [semR F.round _ hdj]
    generalize (execOp a.eval oj).run P w = r at *
    cases r with
    | ok x w' =>
      cases x <;> simp only [Oper.uponIn] at h ⊢
      case value u => exact ⟨keep a hy u, by rw [← Act.put_comm a v u h2]; exact h⟩
      case skip => exact ⟨keep a hy _, by rw [← Act.put_comm a v undef h2]; exact h⟩
      case defer d =>
        refine ⟨keep _ (keepD d) _, ?_⟩
        rw [← Act.put_comm _ v undef h2, ← Act.put_defers]
        exact h
      case enter f args =>
        refine ⟨h.1, CallsIn.mono h.2 fun e w'' he => ?_⟩
        cases e with
        | returned u => exact ⟨keep a hy u, by rw [← Act.put_comm a v u h2]; exact he⟩
        | panicked c => exact hQ _ _ _ he
        | outgrown => exact he
      case row row args => exact ⟨h.1, RowsIn.mono h.2 fun u w'' he => ⟨keep a hy u, by rw [← Act.put_comm a v u h2]; exact he⟩⟩
      case round l f tmps assign body =>
        refine ⟨h.1, RoundIn.mono h.2 fun e w'' he => ?_⟩
        cases e with
        | returned u => exact ⟨keep a hy u, by rw [← Act.put_comm a v u h2]; exact he⟩
        | panicked c => exact hQ _ _ _ he
        | outgrown => exact he
    | halt x w' =>
      cases x <;> simp only [Oper.uponIn] at h ⊢
      case panic u => exact hQ _ _ _ h
  · rename_i hw
    simp only [hw] at h
    exact ⟨fun f _ => hF f, keep a hy _, by rw [← Act.put_comm a v undef h2]; exact h.2⟩

/-- whatever order is picked from here on, and S holds behind each operation ahead of m -/
def wpAnyR (F : Fence) (n : Nat) (P : Program) (md : Region.Mode) (ops : Array Oper) (Q : Exit → Act → World → Prop) (S : World → Prop) (m : Nat) : Nat → Array Bool → Act → World → Prop
  | 0, listed, a, w => Region.ready md ops listed = [] ∧ Q .normal a w
  | fuel + 1, listed, a, w =>
    (Region.ready md ops listed = [] → Q .normal a w) ∧
    ∀ i ∈ Region.ready md ops listed, wpOpIn F n P ops Q i (fun a' w' => (i < m → S w') ∧ wpAnyR F n P md ops Q S m fuel (listed.setIfInBounds i true) a' w') a w
theorem anyIn_of_R {m : Nat} : ∀ (fuel : Nat) (listed : Array Bool) (a : Act) (w : World), wpAnyR F n P md ops Q S m fuel listed a w → wpAnyIn F n P md ops Q fuel listed a w
  | 0, _, _, _, h => h
  | fuel + 1, _, _, _, h => ⟨h.1, fun i hi => wpOpIn_mono (fun a' w' h' => anyIn_of_R fuel _ a' w' h'.2) (h.2 i hi)⟩

/-- none from m on may come up while one ahead of m has not -/
def GateR (md : Region.Mode) (ops : Array Oper) (m : Nat) : Prop := ∀ listed, HeadInv md ops m listed → ∀ i, i < m → listed.getD i true = false → ∀ t, m ≤ t → t ∉ Region.ready md ops listed
theorem setInv {m k : Nat} {listed : Array Bool} (inv : HeadInv md ops m listed) (hr : k ∈ Region.ready md ops listed) (hk : k < m) : HeadInv md ops m (listed.setIfInBounds k true) := inv.set hr hk

theorem wpAnyR_first {m i : Nat} {oi : Oper} {v : Value} (hF : ∀ f, F.fn f) (hi : ops[i]? = some oi) (hsel : ∀ (j : Nat) (o : Oper) cs b, ops[j]? = some o → o.op ≠ .select cs b)
    (hdef : ∀ (j : Nat) (o : Oper) c, ops[j]? = some o → o.op ≠ .defer c) (gate : GateR md ops m) (hin : i < m)
    (hQ : ∀ c a w, Q (.panic c) (a.put oi.dst v) w → Q (.panic c) a w) :
    ∀ (fuel : Nat) (listed : Array Bool) (a : Act) (w : World), HeadInv md ops m listed →
      (∀ j oj, ops[j]? = some oj → j ≠ i → listed.getD j true = false → (∀ e ∈ oj.after, Region.binds md e = true → e.on ≠ i) → oi.apart ops oj = true) →
      i ∈ Region.ready md ops listed → YieldsIf P ops S oi v a → S w →
      wpAnyR F n P md ops Q S m fuel (listed.setIfInBounds i true) (a.put oi.dst v) w → wpAnyR F n P md ops Q S m (fuel + 1) listed a w := by
  intro fuel
  induction fuel with
  | zero =>
    intro listed a w _ _ hr hy hS H
    refine ⟨fun h => (by rw [h] at hr; cases hr), fun j hj => ?_⟩
    by_cases hji : j = i
    · subst hji; exact YieldsIf.wpOpR hF hi (fun c => hdef _ _ c hi) hy hS ⟨fun _ => hS, H⟩
    · have := ready_mono hj hji
      rw [H.1] at this
      cases this
  | succ fuel ih =>
    intro listed a w inv hfree hr hy hS H
    refine ⟨fun h => (by rw [h] at hr; cases hr), fun j hj => ?_⟩
    have hjm : j < m := by
      rcases Nat.lt_or_ge j m with h | h
      · exact h
      · exact absurd hj (gate listed inv i hin (mem_ready.1 hr).1 j h)
    by_cases hji : j = i
    · subst hji; exact YieldsIf.wpOpR hF hi (fun c => hdef _ _ c hi) hy hS ⟨fun _ => hS, H⟩
    · have h1 := H.2 j (ready_mono hj hji)
      obtain ⟨hjun, oj, hoj, hall⟩ := mem_ready.1 hj
      have hnot : ∀ e ∈ oj.after, Region.binds md e = true → e.on ≠ i := fun e he hb heq => by
        have h1 := hall e he hb
        have h0 := (mem_ready.1 hr).1
        rw [heq] at h1
        rcases Nat.lt_or_ge i listed.size with h' | h'
        · simp [h'] at h0 h1; rw [h0] at h1; cases h1
        · simp [Array.getElem?_eq_none h'] at h1
      have h2 := wpOpR_put hF hoj (hfree j oj hoj hji hjun hnot) (fun cs b => hsel i oi cs b hi) (fun cs b => hsel j oj cs b hoj) (fun c => hdef j oj c hoj) hQ hy h1
      have hfree' : ∀ k ok, ops[k]? = some ok → k ≠ i → (listed.setIfInBounds j true).getD k true = false →
          (∀ e ∈ ok.after, Region.binds md e = true → e.on ≠ i) → oi.apart ops ok = true := fun k ok hk hki hun hno => by
        refine hfree k ok hk hki ?_ hno
        by_cases hjk : j = k
        · subst hjk; exact hjun
        · rw [getD_set_ne true hjk] at hun; exact hun
      refine wpOpIn_mono (fun a' w' h3 => ⟨h3.2.1, ih (listed.setIfInBounds j true) a' w' (setInv inv hj hjm) hfree' (ready_mono hr (Ne.symm hji)) h3.1 (h3.2.1 hjm) ?_⟩) h2
      rw [Array.setIfInBounds_comm _ _ hji]
      exact h3.2.2

/-- operations that are taken first, one behind the other -/
def wpTakes (P : Program) (ops : Array Oper) (S : World → Prop) (K : Act → Prop) : List Nat → Act → Prop
  | [], a => K a
  | i :: is, a => ∃ oi v, ops[i]? = some oi ∧ YieldsIf P ops S oi v a ∧ wpTakes P ops S K is (a.put oi.dst v)
theorem wpTakes_cons {K : Act → Prop} {i : Nat} {is : List Nat} {oi : Oper} {v : Value} {a : Act} (ho : ops[i]? = some oi) (hw : Region.wanted oi (yielded ops a.tmps) = true) (hy : ∀ w, S w → (execOp a.eval oi).run P w = .ok (.value v) w)
    (h : wpTakes P ops S K is (a.put oi.dst v)) : wpTakes P ops S K (i :: is) a := ⟨oi, v, ho, .inl ⟨hw, hy⟩, h⟩
def listL : List Nat → Array Bool → Array Bool
  | [], l => l
  | i :: is, l => listL is (l.setIfInBounds i true)
def takesB (md : Region.Mode) (ops : Array Oper) (m : Nat) : List Nat → Array Bool → Bool
  | [], _ => true
  | i :: is, l => Nat.blt i m && (Region.ready md ops l).contains i && Region.free md ops l i && takesB md ops m is (l.setIfInBounds i true)
theorem wpAnyR_takes {m : Nat} (hF : ∀ f, F.fn f) (hsel : Region.noSelect ops = true) (hdef : noDefer ops = true) (gate : GateR md ops m) (hQ : ∀ d v c a w, Q (.panic c) (a.put d v) w → Q (.panic c) a w) {fuel : Nat} {w : World} (hS : S w) :
    ∀ (is : List Nat) (listed : Array Bool) (a : Act), HeadInv md ops m listed → takesB md ops m is listed = true → wpTakes P ops S (fun a' => wpAnyR F n P md ops Q S m fuel (listL is listed) a' w) is a →
      wpAnyR F n P md ops Q S m (fuel + is.length) listed a w
  | [], listed, a, _, _, h => h
  | i :: is, listed, a, inv, hB, ⟨oi, v, ho, hy, h⟩ => by
    simp only [takesB, Bool.and_eq_true] at hB
    obtain ⟨⟨⟨hm, hr⟩, hf⟩, hB'⟩ := hB
    have hr' : i ∈ Region.ready md ops listed := by simpa using hr
    have him : i < m := Nat.le_of_ble_eq_true hm
    rw [List.length_cons, ← Nat.add_assoc]
    exact wpAnyR_first hF ho (Region.noSelect_spec hsel) (fun j o c hj => noDefer_spec hdef hj c) gate him (fun c a w => hQ _ _ c a w) (fuel + is.length) listed a w inv (Region.free_spec ho hf) hr' hy hS
      (wpAnyR_takes hF hsel hdef gate hQ hS is _ _ (setInv inv hr' him) hB' h)

/-- the rest, in one order -/
def wpSeqR (F : Fence) (n : Nat) (P : Program) (ops : Array Oper) (Q : Exit → Act → World → Prop) (S : World → Prop) (m : Nat) : List Nat → Act → World → Prop
  | [], a, w => Q .normal a w
  | i :: is, a, w => wpOpIn F n P ops Q i (fun a' w' => (i < m → S w') ∧ wpSeqR F n P ops Q S m is a' w') a w
def forcedB (md : Region.Mode) (ops : Array Oper) : List Nat → Array Bool → Bool
  | [], l => (Region.ready md ops l).isEmpty
  | i :: is, l => decide (Region.ready md ops l = [i]) && forcedB md ops is (l.setIfInBounds i true)
theorem wpAnyR_seq {m : Nat} : ∀ (is : List Nat) (listed : Array Bool) (a : Act) (w : World), forcedB md ops is listed = true → wpSeqR F n P ops Q S m is a w → wpAnyR F n P md ops Q S m is.length listed a w
  | [], listed, a, w, hB, h => ⟨by simpa [forcedB] using hB, h⟩
  | i :: is, listed, a, w, hB, h => by
    simp only [forcedB, Bool.and_eq_true, decide_eq_true_eq] at hB
    refine ⟨fun h0 => (by rw [hB.1] at h0; cases h0), fun j hj => ?_⟩
    rw [hB.1] at hj
    have hji : j = i := by simpa using hj
    subst hji
    exact wpOpIn_mono (fun a' w' h' => ⟨h'.1, wpAnyR_seq is _ a' w' hB.2 h'.2⟩) h
/-- one operation of the rest, walked as a row of its own -/
theorem wpSeqR_cons {m i : Nat} {is : List Nat} {o : Oper} {a : Act} {w : World} (ho : ops[i]? = some o) (h : wpListIn F n P ops (Exit.then (fun a' w' => (i < m → S w') ∧ wpSeqR F n P ops Q S m is a' w') Q) [o] a w) :
    wpSeqR F n P ops Q S m (i :: is) a w := by
  unfold wpSeqR wpOpIn
  simp only [ho]
  exact h

def gateRB (md : Region.Mode) (ops : Array Oper) (m : Nat) : Bool :=
  ((List.range (m - 1)).all fun i => (List.range m).any fun j => decide (i < j) && Region.waitsFor md ops j i) && ((List.range ops.size).all fun t => decide (t < m) || Region.waitsFor md ops t (m - 1))
theorem getD_inR {listed : Array Bool} {i : Nat} (h : i < listed.size) (hl : listed.getD i false = false) : listed.getD i true = false := by
  simp [h] at hl ⊢; exact hl
theorem gateR_of {m : Nat} (h : gateRB md ops m = true) (hm : m ≤ ops.size) : GateR md ops m := by
  simp only [gateRB, Bool.and_eq_true] at h
  obtain ⟨h1, h2⟩ := h
  intro listed inv i hi hun
  have key : ∀ d i, m - 1 - i = d → i < m → listed.getD i true = false → listed.getD (m - 1) false = false := by
    intro d
    induction d using Nat.strongRecOn with
    | _ d ih =>
      intro i hd hi hun
      by_cases he : i = m - 1
      · subst he; exact getD_both hun
      · have h3 := List.all_eq_true.1 h1 i (List.mem_range.2 (by omega))
        obtain ⟨j, hj, hj2⟩ := List.any_eq_true.1 h3
        simp only [Bool.and_eq_true, decide_eq_true_eq] at hj2
        have hjm := List.mem_range.1 hj
        obtain ⟨oj, hoj, e, he', hb, hon⟩ := Region.waitsFor_spec hj2.2
        cases hl : listed.getD j false with
        | true =>
          have h4 := inv.closed j oj hoj hl e he' hb
          rw [hon, getD_both hun] at h4
          cases h4
        | false => exact ih (m - 1 - j) (by omega) j rfl hjm (getD_inR (by rw [inv.size]; omega) hl)
  intro t ht hr
  obtain ⟨_, ot, hot, hall⟩ := mem_ready.1 hr
  have htl := (Array.getElem?_eq_some_iff.1 hot).1
  have h3 := List.all_eq_true.1 h2 t (List.mem_range.2 htl)
  simp only [Bool.or_eq_true, decide_eq_true_eq] at h3
  rcases h3 with h3 | h3
  · omega
  · obtain ⟨o', ho', e, he, hb, hon⟩ := Region.waitsFor_spec h3
    have : o' = ot := Option.some.inj (ho'.symm.trans hot)
    subst this
    have h4 := hall e he hb
    rw [hon, key _ i rfl hi hun] at h4
    cases h4
theorem inv_start {m : Nat} : HeadInv md ops m (Array.replicate ops.size false) := by
  refine ⟨by simp, fun j oj hj hl => ?_, fun t _ hts => ?_⟩
  · simp [Array.getD] at hl
  · simp [Array.getD, hts]
/-- the look at a region: those that are taken first; the rest -/
def heldB (ops : Array Oper) (m : Nat) (is rs : List Nat) : Bool :=
  Region.noSelect ops && noDefer ops && decide (m ≤ ops.size) && gateRB .any ops m && takesB .any ops m is (Array.replicate ops.size false) && decide (rs.length + is.length = ops.size) && forcedB .any ops rs (listL is (Array.replicate ops.size false))
theorem wpIn_region_heldR {id : Nat} {a : Act} {w : World} (S : World → Prop) (m : Nat) (is rs : List Nat) (hF : ∀ f, F.fn f) (hm : P.follows .mixedOrders = true) (hB : heldB ops m is rs = true)
    (hQ : ∀ d v c a w, Q (.panic c) (a.put d v) w → Q (.panic c) a w) (hS : S w.drew)
    (h : wpTakes P ops S (fun a' => wpSeqR F n P ops Q S m rs a' w.drew) is a) : (Code.region id ops true).wpIn F n P Q a w := by
  simp only [heldB, Bool.and_eq_true, decide_eq_true_eq] at hB
  obtain ⟨⟨⟨⟨⟨⟨h1, h2⟩, h3⟩, h4⟩, h5⟩, h6⟩, h7⟩ := hB
  refine wpIn_region_any hm (anyIn_of_R (S := S) (m := m) _ _ _ _ ?_)
  suffices H : wpAnyR F n P .any ops Q S m (rs.length + is.length) (Array.replicate ops.size false) a { w with drawn := w.drawn + 1 } by rwa [h6] at H
  refine wpAnyR_takes hF h1 h2 (gateR_of h4 h3) hQ (by exact hS) is _ a inv_start h5 ?_
  have key : ∀ (is : List Nat) (a : Act), wpTakes P ops S (fun a' => wpSeqR F n P ops Q S m rs a' w.drew) is a → wpTakes P ops S (fun a' => wpAnyR F n P .any ops Q S m rs.length (listL _ (Array.replicate ops.size false)) a' w.drew) is a := fun is => by
    induction is with
    | nil => exact fun a h => wpAnyR_seq rs _ a _ h7 h
    | cons i is ih => exact fun a ⟨oi, v, g1, g2, g3⟩ => ⟨oi, v, g1, g2, ih _ g3⟩
  exact key is a h
end
end Go.Ap

/-
  Regions that draw their order: guarded operations, posts that hang on the frame.
-/


namespace Go.Ap
open Go Go.RowKit
section
variable {P : Program} {ops : Array Oper} {S : World → Prop}
theorem wpTakes_skip {K : Act → Prop} {i : Nat} {is : List Nat} {oi : Oper} {a : Act} (ho : ops[i]? = some oi) (hw : Region.wanted oi (yielded ops a.tmps) = false)
    (h : wpTakes P ops S K is (a.put oi.dst undef)) : wpTakes P ops S K (i :: is) a := ⟨oi, undef, ho, .inr ⟨hw, rfl⟩, h⟩
end
end Go.Ap
namespace Go.Ap
open Go Go.RowKit
theorem wanted_gd {ops : Array Oper} {tmps : Array Value} {o oj : Oper} {j t : Nat} {b c : Bool} (hg : o.guard = some (j, c)) (hj : ops[j]? = some oj) (hd : oj.dst = some t) (hv : tmps[t]? = some (.bool b)) : Region.wanted o (yielded ops tmps) = (b == c) := by
  unfold Region.wanted
  rw [hg]
  simp only [yielded, hj, Option.bind_some, hd, hv]
  rfl
/-- a guarded operation that is not wanted -/
theorem wpTakes_no {P : Program} {ops : Array Oper} {S : World → Prop} {K : Act → Prop} {i j t : Nat} {is : List Nat} {oi oj : Oper} {b c : Bool} {a : Act} (ho : ops[i]? = some oi) (hg : oi.guard = some (j, c)) (hj : ops[j]? = some oj) (hd : oj.dst = some t) (hv : a.tmps[t]? = some (.bool b)) (hn : (b == c) = false)
    (h : wpTakes P ops S K is (a.put oi.dst undef)) : wpTakes P ops S K (i :: is) a := wpTakes_skip ho ((wanted_gd hg hj hd hv).trans hn) h
/-- a guarded operation that is wanted -/
theorem wpTakes_gd {P : Program} {ops : Array Oper} {S : World → Prop} {K : Act → Prop} {i j t : Nat} {is : List Nat} {oi oj : Oper} {b c : Bool} {v : Value} {a : Act} (ho : ops[i]? = some oi) (hg : oi.guard = some (j, c)) (hj : ops[j]? = some oj) (hd : oj.dst = some t) (hv : a.tmps[t]? = some (.bool b)) (hn : (b == c) = true)
    (hy : ∀ w, S w → (execOp a.eval oi).run P w = .ok (.value v) w) (h : wpTakes P ops S K is (a.put oi.dst v)) : wpTakes P ops S K (i :: is) a := wpTakes_cons ho ((wanted_gd hg hj hd hv).trans hn) hy h
/-- wpIn_region_heldR where the post hangs on the frame at a panic: the region does not panic -/
theorem wpIn_region_heldN {F : Fence} {P : Program} {ops : Array Oper} {n : Nat} {Q : Exit → Act → World → Prop} {id : Nat} {a : Act} {w : World} (S : World → Prop) (m : Nat) (is rs : List Nat) (hF : ∀ f, F.fn f) (hm : P.follows .mixedOrders = true) (hB : heldB ops m is rs = true)
    (hS : S w.drew) (h : wpTakes P ops S (fun a' => wpSeqR F n P ops (NoPanic Q) S m rs a' w.drew) is a) : (Code.region id ops true).wpIn F n P Q a w :=
  wpIn_mono (wpIn_region_heldR (Q := NoPanic Q) S m is rs hF hm hB (fun _ _ _ _ _ h => h.elim) hS h) NoPanic.imp
theorem wpTakes_nil {P : Program} {ops : Array Oper} {S : World → Prop} {K : Act → Prop} {a : Act} (h : K a) : wpTakes P ops S K [] a := h
theorem wpSeqR_nilN {F : Fence} {P : Program} {ops : Array Oper} {n m : Nat} {S : World → Prop} {Q : Exit → Act → World → Prop} {a : Act} {w : World} (h : Q .normal a w) : wpSeqR F n P ops (NoPanic Q) S m [] a w := h
theorem wpSeqR_nil {F : Fence} {P : Program} {ops : Array Oper} {n m : Nat} {S : World → Prop} {Q : Exit → Act → World → Prop} {a : Act} {w : World} (h : Q .normal a w) : wpSeqR F n P ops Q S m [] a w := h
theorem wanted_un {ops : Array Oper} {tmps : Array Value} {o oj : Oper} {j t : Nat} {c : Bool} (hg : o.guard = some (j, c)) (hj : ops[j]? = some oj) (hd : oj.dst = some t) (hv : tmps[t]? = some undef) : Region.wanted o (yielded ops tmps) = false := by
  unfold Region.wanted
  rw [hg]
  simp only [yielded, hj, Option.bind_some, hd, hv]
  rfl
/-- an operation whose guard was not wanted -/
theorem wpTakes_un {P : Program} {ops : Array Oper} {S : World → Prop} {K : Act → Prop} {i j t : Nat} {is : List Nat} {oi oj : Oper} {c : Bool} {a : Act} (ho : ops[i]? = some oi) (hg : oi.guard = some (j, c)) (hj : ops[j]? = some oj) (hd : oj.dst = some t) (hv : a.tmps[t]? = some undef)
    (h : wpTakes P ops S K is (a.put oi.dst undef)) : wpTakes P ops S K (i :: is) a := wpTakes_skip ho (wanted_un hg hj hd hv) h
section
variable {P : Program} {ops : Array Oper} {S : World → Prop} {K : Act → Prop} {i j t d : Nat} {is : List Nat} {oi oj : Oper} {b c : Bool} {v : Value} {a : Act}
theorem put_some (hd : oi.dst = some d) (v : Value) (a : Act) : a.put oi.dst v = { a with tmps := a.tmps.setIfInBounds d v } := by rw [hd]; rfl
theorem wpTakes_consD (ho : ops[i]? = some oi) (hd : oi.dst = some d) (hw : Region.wanted oi (yielded ops a.tmps) = true) (hy : ∀ w, S w → (execOp a.eval oi).run P w = .ok (.value v) w)
    (h : wpTakes P ops S K is { a with tmps := a.tmps.setIfInBounds d v }) : wpTakes P ops S K (i :: is) a := wpTakes_cons ho hw hy (by rw [put_some hd]; exact h)
theorem wpTakes_noD (ho : ops[i]? = some oi) (hd : oi.dst = some d) (hg : oi.guard = some (j, c)) (hj : ops[j]? = some oj) (hdj : oj.dst = some t) (hv : a.tmps[t]? = some (.bool b)) (hn : (b == c) = false)
    (h : wpTakes P ops S K is { a with tmps := a.tmps.setIfInBounds d undef }) : wpTakes P ops S K (i :: is) a := wpTakes_no ho hg hj hdj hv hn (by rw [put_some hd]; exact h)
theorem wpTakes_gdD (ho : ops[i]? = some oi) (hd : oi.dst = some d) (hg : oi.guard = some (j, c)) (hj : ops[j]? = some oj) (hdj : oj.dst = some t) (hv : a.tmps[t]? = some (.bool b)) (hn : (b == c) = true)
    (hy : ∀ w, S w → (execOp a.eval oi).run P w = .ok (.value v) w) (h : wpTakes P ops S K is { a with tmps := a.tmps.setIfInBounds d v }) : wpTakes P ops S K (i :: is) a := wpTakes_gd ho hg hj hdj hv hn hy (by rw [put_some hd]; exact h)
theorem wpTakes_unD (ho : ops[i]? = some oi) (hd : oi.dst = some d) (hg : oi.guard = some (j, c)) (hj : ops[j]? = some oj) (hdj : oj.dst = some t) (hv : a.tmps[t]? = some undef)
    (h : wpTakes P ops S K is { a with tmps := a.tmps.setIfInBounds d undef }) : wpTakes P ops S K (i :: is) a := wpTakes_un ho hg hj hdj hv (by rw [put_some hd]; exact h)
end
end Go.Ap

/-
  A region that draws its order, walked by a plan: operations that may be taken at once, operations that are the only one ready, two that are ready in either order.
-/

namespace Go.Ap
open Go Go.RowKit
/-- a plan for the operations of a region -/
inductive Pln where
  | fin
  | take (i : Nat) (r : Pln)
  | one (i : Nat) (r : Pln)
  | two (i j : Nat) (r s : Pln)
def Pln.len : Pln → Nat
  | .fin => 0
  | .take _ r => r.len + 1
  | .one _ r => r.len + 1
  | .two _ _ r _ => r.len + 1
section
variable {F : Fence} {P : Program} {ops : Array Oper} {md : Region.Mode} {S : World → Prop} {n : Nat} {Q : Exit → Act → World → Prop}
def wpPlanR (F : Fence) (n : Nat) (P : Program) (ops : Array Oper) (Q : Exit → Act → World → Prop) (S : World → Prop) : Pln → Act → World → Prop
  | .fin, a, w => Q .normal a w
  | .take i r, a, w => ∃ oi v, ops[i]? = some oi ∧ YieldsIf P ops S oi v a ∧ wpPlanR F n P ops Q S r (a.put oi.dst v) w
  | .one i r, a, w => wpOpIn F n P ops Q i (fun a' w' => S w' ∧ wpPlanR F n P ops Q S r a' w') a w
  | .two i j r s, a, w => wpOpIn F n P ops Q i (fun a' w' => S w' ∧ wpPlanR F n P ops Q S r a' w') a w ∧ wpOpIn F n P ops Q j (fun a' w' => S w' ∧ wpPlanR F n P ops Q S s a' w') a w
def planB (md : Region.Mode) (ops : Array Oper) : Pln → Array Bool → Bool
  | .fin, l => (Region.ready md ops l).isEmpty
  | .take i r, l => (Region.ready md ops l).contains i && Region.free md ops l i && planB md ops r (l.setIfInBounds i true)
  | .one i r, l => decide (Region.ready md ops l = [i]) && planB md ops r (l.setIfInBounds i true)
  | .two i j r s, l => decide (Region.ready md ops l = [i, j]) && planB md ops r (l.setIfInBounds i true) && planB md ops s (l.setIfInBounds j true) && decide (r.len = s.len)
theorem gate_all : GateR md ops ops.size := fun _ _ _ _ _ t ht hr => by
  obtain ⟨_, ot, hot, _⟩ := mem_ready.1 hr
  have := (Array.getElem?_eq_some_iff.1 hot).1
  omega
theorem ready_lt {listed : Array Bool} {j : Nat} (h : j ∈ Region.ready md ops listed) : j < ops.size := by
  obtain ⟨_, ot, hot, _⟩ := mem_ready.1 h
  exact (Array.getElem?_eq_some_iff.1 hot).1
theorem wpAnyR_plan (hF : ∀ f, F.fn f) (hsel : Region.noSelect ops = true) (hdef : noDefer ops = true) (hQ : ∀ d v c a w, Q (.panic c) (a.put d v) w → Q (.panic c) a w) :
    ∀ (p : Pln) (listed : Array Bool) (a : Act) (w : World), HeadInv md ops ops.size listed → planB md ops p listed = true → S w → wpPlanR F n P ops Q S p a w → wpAnyR F n P md ops Q S ops.size p.len listed a w
  | .fin, listed, a, w, _, hB, _, h => ⟨by simpa [planB] using hB, h⟩
  | .take i r, listed, a, w, inv, hB, hS, ⟨oi, v, ho, hy, h⟩ => by
    simp only [planB, Bool.and_eq_true] at hB
    obtain ⟨⟨hr, hf⟩, hB'⟩ := hB
    have hr' : i ∈ Region.ready md ops listed := by simpa using hr
    have him : i < ops.size := (Array.getElem?_eq_some_iff.1 ho).1
    exact wpAnyR_first hF ho (Region.noSelect_spec hsel) (fun j o c hj => noDefer_spec hdef hj c) gate_all him (fun c a w => hQ _ _ c a w) r.len listed a w inv (Region.free_spec ho hf) hr' hy hS
      (wpAnyR_plan hF hsel hdef hQ r _ _ _ (setInv inv hr' him) hB' hS h)
  | .one i r, listed, a, w, inv, hB, hS, h => by
    simp only [planB, Bool.and_eq_true, decide_eq_true_eq] at hB
    refine ⟨fun h0 => (by rw [hB.1] at h0; cases h0), fun j hj => ?_⟩
    have hj' := hj
    rw [hB.1] at hj
    have hji : j = i := by simpa using hj
    subst hji
    exact wpOpIn_mono (fun a' w' h' => ⟨fun _ => h'.1, wpAnyR_plan hF hsel hdef hQ r _ a' w' (setInv inv hj' (ready_lt hj')) hB.2 h'.1 h'.2⟩) h
  | .two i j r s, listed, a, w, inv, hB, hS, h => by
    simp only [planB, Bool.and_eq_true, decide_eq_true_eq] at hB
    obtain ⟨⟨⟨h1, h2⟩, h3⟩, h4⟩ := hB
    refine ⟨fun h0 => (by rw [h1] at h0; cases h0), fun k hk => ?_⟩
    have hk' := hk
    rw [h1] at hk
    rcases List.mem_cons.1 hk with rfl | hk
    · exact wpOpIn_mono (fun a' w' h' => ⟨fun _ => h'.1, wpAnyR_plan hF hsel hdef hQ r _ a' w' (setInv inv hk' (ready_lt hk')) h2 h'.1 h'.2⟩) h.1
    · have hkj : k = j := by simpa using hk
      subst hkj
      refine wpOpIn_mono (fun a' w' h' => ⟨fun _ => h'.1, ?_⟩) h.2
      have := wpAnyR_plan hF hsel hdef hQ s _ a' w' (setInv inv hk' (ready_lt hk')) h3 h'.1 h'.2
      rw [← h4] at this
      exact this
def planned (ops : Array Oper) (p : Pln) : Bool := Region.noSelect ops && noDefer ops && decide (p.len = ops.size) && planB .any ops p (Array.replicate ops.size false)
theorem wpIn_region_plan {id : Nat} {a : Act} {w : World} (S : World → Prop) (p : Pln) (hF : ∀ f, F.fn f) (hm : P.follows .mixedOrders = true) (hB : planned ops p = true)
    (hQ : ∀ d v c a w, Q (.panic c) (a.put d v) w → Q (.panic c) a w) (hS : S w.drew) (h : wpPlanR F n P ops Q S p a w.drew) : (Code.region id ops true).wpIn F n P Q a w := by
  simp only [planned, Bool.and_eq_true, decide_eq_true_eq] at hB
  obtain ⟨⟨⟨h1, h2⟩, h3⟩, h4⟩ := hB
  refine wpIn_region_any hm (anyIn_of_R (S := S) (m := ops.size) _ _ _ _ ?_)
  have H := wpAnyR_plan hF h1 h2 hQ p (Array.replicate ops.size false) a w.drew inv_start h4 hS h
  rw [h3] at H
  exact H
/-- the same where the post hangs on the frame at a panic: the region does not panic -/
theorem wpIn_region_planN {id : Nat} {a : Act} {w : World} (S : World → Prop) (p : Pln) (hF : ∀ f, F.fn f) (hm : P.follows .mixedOrders = true) (hB : planned ops p = true)
    (hS : S w.drew) (h : wpPlanR F n P ops (NoPanic Q) S p a w.drew) : (Code.region id ops true).wpIn F n P Q a w :=
  wpIn_mono (wpIn_region_plan (Q := NoPanic Q) S p hF hm hB (fun _ _ _ _ _ h => h.elim) hS h) NoPanic.imp
section
variable {i j t d : Nat} {r s : Pln} {oi oj : Oper} {b c : Bool} {v : Value} {a : Act} {w : World}
theorem plan_take (ho : ops[i]? = some oi) (hd : oi.dst = some d) (hw : Region.wanted oi (yielded ops a.tmps) = true) (hy : ∀ w, S w → (execOp a.eval oi).run P w = .ok (.value v) w)
    (h : wpPlanR F n P ops Q S r { a with tmps := a.tmps.setIfInBounds d v } w) : wpPlanR F n P ops Q S (.take i r) a w := ⟨oi, v, ho, .inl ⟨hw, hy⟩, by rw [put_some hd]; exact h⟩
theorem plan_no (ho : ops[i]? = some oi) (hd : oi.dst = some d) (hg : oi.guard = some (j, c)) (hj : ops[j]? = some oj) (hdj : oj.dst = some t) (hv : a.tmps[t]? = some (.bool b)) (hn : (b == c) = false)
    (h : wpPlanR F n P ops Q S r { a with tmps := a.tmps.setIfInBounds d undef } w) : wpPlanR F n P ops Q S (.take i r) a w := ⟨oi, undef, ho, .inr ⟨(wanted_gd hg hj hdj hv).trans hn, rfl⟩, by rw [put_some hd]; exact h⟩
theorem plan_gd (ho : ops[i]? = some oi) (hd : oi.dst = some d) (hg : oi.guard = some (j, c)) (hj : ops[j]? = some oj) (hdj : oj.dst = some t) (hv : a.tmps[t]? = some (.bool b)) (hn : (b == c) = true)
    (hy : ∀ w, S w → (execOp a.eval oi).run P w = .ok (.value v) w) (h : wpPlanR F n P ops Q S r { a with tmps := a.tmps.setIfInBounds d v } w) : wpPlanR F n P ops Q S (.take i r) a w :=
  plan_take ho hd ((wanted_gd hg hj hdj hv).trans hn) hy h
theorem plan_un (ho : ops[i]? = some oi) (hd : oi.dst = some d) (hg : oi.guard = some (j, c)) (hj : ops[j]? = some oj) (hdj : oj.dst = some t) (hv : a.tmps[t]? = some undef)
    (h : wpPlanR F n P ops Q S r { a with tmps := a.tmps.setIfInBounds d undef } w) : wpPlanR F n P ops Q S (.take i r) a w := ⟨oi, undef, ho, .inr ⟨wanted_un hg hj hdj hv, rfl⟩, by rw [put_some hd]; exact h⟩
theorem plan_one (ho : ops[i]? = some oi) (h : wpListIn F n P ops (Exit.then (fun a' w' => S w' ∧ wpPlanR F n P ops Q S r a' w') Q) [oi] a w) : wpPlanR F n P ops Q S (.one i r) a w := by
  unfold wpPlanR wpOpIn
  simp only [ho]
  exact h
theorem plan_two (hi : ops[i]? = some oi) (hj : ops[j]? = some oj) (h1 : wpListIn F n P ops (Exit.then (fun a' w' => S w' ∧ wpPlanR F n P ops Q S r a' w') Q) [oi] a w)
    (h2 : wpListIn F n P ops (Exit.then (fun a' w' => S w' ∧ wpPlanR F n P ops Q S s a' w') Q) [oj] a w) : wpPlanR F n P ops Q S (.two i j r s) a w := by
  unfold wpPlanR wpOpIn
  simp only [hi, hj]
  exact ⟨h1, h2⟩
/-- both orders end alike: what is left is proved once -/
theorem plan_two_key {K : Prop} (hi : ops[i]? = some oi) (hj : ops[j]? = some oj) (h1 : K → wpListIn F n P ops (Exit.then (fun a' w' => S w' ∧ wpPlanR F n P ops Q S r a' w') Q) [oi] a w)
    (h2 : K → wpListIn F n P ops (Exit.then (fun a' w' => S w' ∧ wpPlanR F n P ops Q S s a' w') Q) [oj] a w) (k : K) : wpPlanR F n P ops Q S (.two i j r s) a w := plan_two hi hj (h1 k) (h2 k)
theorem plan_fin (h : Q .normal a w) : wpPlanR F n P ops (NoPanic Q) S .fin a w := h
end
end
end Go.Ap
