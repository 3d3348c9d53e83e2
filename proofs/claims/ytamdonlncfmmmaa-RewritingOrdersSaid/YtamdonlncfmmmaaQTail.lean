/-
  A region that draws its order, in a fence that asks nothing: operations that read, a value that is handed on, operations that read, and at its end operations that wait one for the other and may write: one walk serves.
-/
import Derived.Test.YtamdonlncfmmmaaLex
import Derived.StillTail
import Derived.OrdersIn
namespace Go.Ap
open Go Go.RowKit

section
variable {P : Program} {ops : Array Oper} {md : Region.Mode} {C : World → Prop} {n : Nat}

theorem wide_of_quiet {o : Oper} {a : Act} {K : Act → Prop} {K' : Act → World → Prop} {Q' : Exit → Act → World → Prop} {w : World} (hw : C w) (h : ∀ a w', C w' → K a → K' a w') (hh : o.quiet P a C K) : o.wpIn Fence.wide n P a w K' Q' := by
  obtain ⟨v, h1, h2⟩ := hh
  have h3 := h1 w hw
  unfold Oper.quietAt at h3
  unfold Oper.wpIn
  refine ⟨fun _ _ => trivial, ?_⟩
  rw [show Fence.wide.round = none from rfl, Oper.semAt_none]
  generalize (execOp a.eval o).run P w = r at *
  cases r with
  | ok x w' =>
    cases x <;> simp only [Oper.quietUpon] at h3 <;> simp only [Oper.uponIn]
    case value u =>
      obtain ⟨e1, e2⟩ := h3
      rw [e1, e2]
      exact h _ _ hw h2
    case skip =>
      obtain ⟨e1, e2⟩ := h3
      rw [e1, ← e2]
      exact h _ _ hw h2
    case enter f args =>
      obtain ⟨e1, hc⟩ := h3
      rw [e1]
      refine ⟨fun hd => (by cases hd), callsIn_wide.2 ?_⟩
      exact hc.mono fun e w'' ⟨he, hw''⟩ => by subst he; exact h _ _ hw'' h2
  | halt x w' => simp only [Oper.quietUpon] at h3
theorem wpOpIn_of_qOp {i : Nat} {a : Act} {K : Act → Prop} {K' : Act → World → Prop} {Q' : Exit → Act → World → Prop} {w : World} (hC : C w) (h : ∀ a w', C w' → K a → K' a w') (hh : qOp P ops C i K a) : wpOpIn Fence.wide n P ops Q' i K' a w := by
  unfold qOp at hh
  unfold wpOpIn
  split
  · rename_i ho; simp only [ho] at hh; exact h _ _ hC hh
  · rename_i o ho
    simp only [ho] at hh
    split
    · rename_i hw; simp only [hw, if_true] at hh; exact wide_of_quiet hC h hh
    · rename_i hw; simp only [hw] at hh; exact ⟨fun _ _ => trivial, h _ _ hC hh⟩

/-- the first operations, in whatever order, ahead of those from m on -/
def wpAnyH (P : Program) (md : Region.Mode) (ops : Array Oper) (C : World → Prop) (m : Nat) (L : Array Bool → Act → Prop) : Nat → Array Bool → Act → Prop
  | 0, listed, a => L listed a
  | f + 1, listed, a => Region.ready md ops listed ≠ [] ∧ ∀ i ∈ Region.ready md ops listed, i < m ∧ qOp P ops C i (wpAnyH P md ops C m L f (listed.setIfInBounds i true)) a
theorem wpAnyIn_of_headH {m g : Nat} {L : Array Bool → Act → Prop} {Q' : Exit → Act → World → Prop} (hL : ∀ listed a w, C w → L listed a → wpAnyIn Fence.wide n P md ops Q' g listed a w) :
    ∀ (f : Nat) (listed : Array Bool) (a : Act) (w : World), C w → wpAnyH P md ops C m L f listed a → wpAnyIn Fence.wide n P md ops Q' (f + g) listed a w
  | 0, listed, a, w, hC, h => by rw [Nat.zero_add]; exact hL _ _ _ hC h
  | f + 1, listed, a, w, hC, h => by
    rw [show f + 1 + g = (f + g) + 1 by omega]
    exact ⟨fun h0 => absurd h0 h.1, fun i hi => wpOpIn_of_qOp hC (fun a' w' hC' h' => wpAnyIn_of_headH hL f _ a' w' hC' h') (h.2 i hi).2⟩

/-- none from m on may come up while one ahead of m has not -/
def Gate (md : Region.Mode) (ops : Array Oper) (m k : Nat) : Prop := ∀ listed, HeadInv md ops m listed → (∀ i, i < k → listed.getD i false = true) → ∀ i, i < m → listed.getD i true = false → ∀ t, m ≤ t → t ∉ Region.ready md ops listed

theorem wpAnyH_first {m k i : Nat} {oi : Oper} {v : Value} {L : Array Bool → Act → Prop} (hi : ops[i]? = some oi) (hsel : ∀ (j : Nat) (o : Oper) cs b, ops[j]? = some o → o.op ≠ .select cs b)
    (gate : Gate md ops m k) (hin : i < m) (hdone : ∀ listed a, L listed a → ∀ j ∈ Region.ready md ops listed, m ≤ j) :
    ∀ (f : Nat) (listed : Array Bool) (a : Act), HeadInv md ops m listed → (∀ i, i < k → listed.getD i false = true) →
      (∀ j oj, ops[j]? = some oj → j ≠ i → listed.getD j true = false → (∀ e ∈ oj.after, Region.binds md e = true → e.on ≠ i) → oi.apart ops oj = true) →
      i ∈ Region.ready md ops listed → YieldsIn P ops C oi v a →
      wpAnyH P md ops C m L f (listed.setIfInBounds i true) (a.put oi.dst v) → wpAnyH P md ops C m L (f + 1) listed a := by
  intro f
  induction f with
  | zero =>
    intro listed a inv hpre _ hr hy H
    have hun := (mem_ready.1 hr).1
    refine ⟨fun h => (by rw [h] at hr; cases hr), fun j hj => ?_⟩
    have hjn : j < m := by
      rcases Nat.lt_or_ge j m with h | h
      · exact h
      · exact absurd hj (gate listed inv hpre i hin hun j h)
    refine ⟨hjn, ?_⟩
    by_cases hji : j = i
    · subst hji; exact hy.qOp hi H
    · have := hdone _ _ H j (ready_mono hj hji)
      omega
  | succ f ih =>
    intro listed a inv hpre hfree hr hy H
    have hun := (mem_ready.1 hr).1
    refine ⟨fun h => (by rw [h] at hr; cases hr), fun j hj => ?_⟩
    have hjn : j < m := by
      rcases Nat.lt_or_ge j m with h | h
      · exact h
      · exact absurd hj (gate listed inv hpre i hin hun j h)
    refine ⟨hjn, ?_⟩
    by_cases hji : j = i
    · subst hji; exact hy.qOp hi H
    · have h1 := (H.2 j (ready_mono hj hji)).2
      obtain ⟨hjun, oj, hoj, hall⟩ := mem_ready.1 hj
      have hnot : ∀ e ∈ oj.after, Region.binds md e = true → e.on ≠ i := fun e he hb heq => by
        have h1 := hall e he hb
        rw [heq, getD_both hun] at h1
        cases h1
      have h2 := qOp_put hoj (hfree j oj hoj hji hjun hnot) (fun cs b => hsel i oi cs b hi) (fun cs b => hsel j oj cs b hoj) hy h1
      have hfree' : ∀ k ok, ops[k]? = some ok → k ≠ i → (listed.setIfInBounds j true).getD k true = false →
          (∀ e ∈ ok.after, Region.binds md e = true → e.on ≠ i) → oi.apart ops ok = true := fun k ok hk hki hun hno => by
        refine hfree k ok hk hki ?_ hno
        by_cases hjk : j = k
        · subst hjk; exact hjun
        · rw [getD_set_ne true hjk] at hun; exact hun
      have hpre' : ∀ i, i < k → (listed.setIfInBounds j true).getD i false = true := fun i hik => by
        by_cases hji : j = i
        · subst hji; exact getD_set_true (hpre j hik)
        · rw [getD_set_ne false hji]; exact hpre i hik
      refine qOp_mono (fun a' h3 => ih (listed.setIfInBounds j true) a' (inv.set hj hjn) hpre' hfree' (ready_mono hr (Ne.symm hji)) h3.1 ?_) h2
      rw [Array.setIfInBounds_comm _ _ hji]
      exact h3.2

/-- the operations from k on, f of them, come up in the text's order -/
def endL : Nat → Nat → Array Bool → Array Bool
  | 0, _, l => l
  | f + 1, k, l => endL f (k + 1) (l.setIfInBounds k true)
def headB (md : Region.Mode) (ops : Array Oper) : Nat → Nat → Array Bool → Bool
  | 0, _, _ => true
  | f + 1, k, l => (Region.ready md ops l).contains k && Region.free md ops l k && headB md ops f (k + 1) (l.setIfInBounds k true)

theorem wpAnyH_lex {m k0 : Nat} {Lq : Act → Prop} (hsel : Region.noSelect ops = true) (gate : Gate md ops m k0) :
    ∀ (l : List Oper) (k : Nat) (listed : Array Bool) (a : Act), (∀ j, j < l.length → l[j]? = ops[k + j]?) → k + l.length = m → HeadInv md ops m listed → (∀ i, i < k0 → listed.getD i false = true) →
    ((Region.ready md ops (endL l.length k listed)).all fun j => decide (m ≤ j)) = true →
    headB md ops l.length k listed = true → wpQuiet P ops C Lq l a →
    wpAnyH P md ops C m (fun listed' a' => listed' = endL l.length k listed ∧ Lq a') l.length listed a
  | [], k, listed, a, _, _, _, _, _, _, h => ⟨rfl, h⟩
  | o :: l, k, listed, a, hl, hk, inv, hpre, hd, hB, h => by
    have h0 : ops[k]? = some o := by simpa using (hl 0 (by simp)).symm
    simp only [List.length_cons, headB, Bool.and_eq_true] at hB
    obtain ⟨⟨hr, hf⟩, hB'⟩ := hB
    have hkn : k < m := by simp only [List.length_cons] at hk; omega
    have hr' : k ∈ Region.ready md ops listed := by simpa using hr
    have hst : qOp P ops C k (wpQuiet P ops C Lq l) a := by unfold qOp; simp only [h0]; exact h
    obtain ⟨v, hy, hK⟩ := yieldsIn_of_qOp h0 hst
    have hpre' : ∀ i, i < k0 → (listed.setIfInBounds k true).getD i false = true := fun i hik => by
      by_cases hji : k = i
      · subst hji; exact getD_set_true (hpre k hik)
      · rw [getD_set_ne false hji]; exact hpre i hik
    refine wpAnyH_first h0 (Region.noSelect_spec hsel) gate hkn (fun listed' a' hL j hj => ?_) l.length listed a inv hpre (Region.free_spec h0 hf) hr' hy
      (wpAnyH_lex hsel gate l (k + 1) _ _ (fun j hj => by have := hl (j + 1) (by simp; omega); simpa [Nat.add_assoc, Nat.add_comm 1 j] using this) (by simp only [List.length_cons] at hk; omega) (inv.set hr' hkn) hpre' hd hB' hK)
    rw [hL.1] at hj
    exact of_decide_eq_true (List.all_eq_true.1 hd j hj)

theorem wpAnyIn_of_seq {Q' : Exit → Act → World → Prop} : ∀ (l : List Oper) (k : Nat) (listed : Array Bool) (a : Act) (w : World), (∀ j, l[j]? = ops[k + j]?) →
    Region.seqB md ops l.length k listed = true → wpListIn Fence.wide n P ops Q' l a w → wpAnyIn Fence.wide n P md ops Q' l.length listed a w
  | [], _, _, _, _, _, hB, h => ⟨by simpa [Region.seqB] using hB, h⟩
  | o :: l, k, listed, a, w, hl, hB, h => by
    have h0 : ops[k]? = some o := by simpa using (hl 0).symm
    simp only [List.length_cons, Region.seqB, Bool.and_eq_true, decide_eq_true_eq] at hB
    refine ⟨fun h1 => (by rw [hB.1] at h1; cases h1), fun i hi => ?_⟩
    rw [hB.1] at hi
    have hik : i = k := by simpa using hi
    subst hik
    have hw : wpOpIn Fence.wide n P ops Q' i (wpListIn Fence.wide n P ops Q' l) a w := by unfold wpOpIn; simp only [h0]; exact h
    exact wpOpIn_mono (fun a' w' h' => wpAnyIn_of_seq l (i + 1) _ a' w' (fun j => by have := hl (j + 1); simpa [Nat.add_assoc, Nat.add_comm 1 j] using this) hB.2 h') hw

/-- each operation ahead of m - 1, from k on, is waited for by one ahead of m; all from m on wait for m - 1 -/
def gate1B (md : Region.Mode) (ops : Array Oper) (m : Nat) : Bool :=
  ((List.range (m - 1)).all fun i => (List.range m).any fun j => decide (i < j) && Region.waitsFor md ops j i) && ((List.range ops.size).all fun t => decide (t < m) || Region.waitsFor md ops t (m - 1))
theorem gate1_of {m : Nat} (h : gate1B md ops m = true) (hm : m ≤ ops.size) : Gate md ops m 0 := by
  simp only [gate1B, Bool.and_eq_true] at h
  obtain ⟨h1, h2⟩ := h
  intro listed inv _ i hi hun
  have key : ∀ d i, m - 1 - i = d → i < m → listed.getD i true = false → listed.getD (m - 1) false = false := by
    intro d
    induction d using Nat.strongRecOn with
    | _ d ih =>
      intro i hd hi hun
      by_cases he : i = m - 1
      · subst he; exact getD_both hun
      · have h3 := List.all_eq_true.1 h1 i (List.mem_range.2 (by omega))
        obtain ⟨j, hj, hj2⟩ := List.any_eq_true.1 h3
        simp only [Bool.and_eq_true, decide_eq_true_eq] at hj2
        have hjm := List.mem_range.1 hj
        obtain ⟨oj, hoj, e, he', hb, hon⟩ := Region.waitsFor_spec hj2.2
        cases hl : listed.getD j false with
        | true =>
          have h4 := inv.closed j oj hoj hl e he' hb
          rw [hon, getD_both hun] at h4
          cases h4
        | false => exact ih (m - 1 - j) (by omega) j rfl hjm (getD_in (by rw [inv.size]; omega) hl)
  intro t ht hr
  obtain ⟨_, ot, hot, hall⟩ := mem_ready.1 hr
  have htl := (Array.getElem?_eq_some_iff.1 hot).1
  have h3 := List.all_eq_true.1 h2 t (List.mem_range.2 htl)
  simp only [Bool.or_eq_true, decide_eq_true_eq] at h3
  rcases h3 with h3 | h3
  · omega
  · obtain ⟨o', ho', e, he, hb, hon⟩ := Region.waitsFor_spec h3
    have : o' = ot := Option.some.inj (ho'.symm.trans hot)
    subst this
    have h4 := hall e he hb
    rw [hon, key _ i rfl hi hun] at h4
    cases h4
/-- each operation from k on and ahead of m is waited for by one up to m; each behind m waits for the one before it -/
def gate2B (md : Region.Mode) (ops : Array Oper) (m k : Nat) : Bool :=
  ((List.range m).all fun i => decide (i < k) || (List.range (m + 1)).any fun j => decide (i < j) && Region.waitsFor md ops j i) && Region.chainB md ops m
theorem gate2_of {m k : Nat} (h : gate2B md ops m k = true) (hm : m < ops.size) : Gate md ops m k := by
  simp only [gate2B, Bool.and_eq_true] at h
  obtain ⟨h1, hc⟩ := h
  intro listed inv hpre
  have key : ∀ d i, m - i = d → i < m → listed.getD i true = false → ∀ t, m ≤ t → t ∉ Region.ready md ops listed := by
    intro d
    induction d using Nat.strongRecOn with
    | _ d ih =>
      intro i hd hi hun t ht hr
      obtain ⟨_, ot, hot, hall⟩ := mem_ready.1 hr
      have htlt : t < ops.size := (Array.getElem?_eq_some_iff.1 hot).1
      by_cases htn : t = m
      · subst htn
        have h3 := List.all_eq_true.1 h1 i (List.mem_range.2 hi)
        simp only [Bool.or_eq_true, decide_eq_true_eq] at h3
        rcases h3 with h3 | h3
        · have := hpre i h3
          rw [getD_both hun] at this
          cases this
        obtain ⟨j, hj, hj2⟩ := List.any_eq_true.1 h3
        simp only [Bool.and_eq_true, decide_eq_true_eq] at hj2
        obtain ⟨oj, hoj, e, he, hb, hon⟩ := Region.waitsFor_spec hj2.2
        have hjle : j ≤ t := by have := List.mem_range.1 hj; omega
        by_cases hjt : j = t
        · subst hjt
          have : oj = ot := Option.some.inj (hoj.symm.trans hot)
          subst this
          have h2 := hall e he hb
          rw [hon, getD_both hun] at h2
          cases h2
        · cases hl : listed.getD j false with
          | true =>
            have h2 := inv.closed j oj hoj hl e he hb
            rw [hon, getD_both hun] at h2
            cases h2
          | false =>
            have hjs : j < listed.size := by rw [inv.size]; omega
            exact ih (t - j) (by omega) j rfl (by omega) (getD_in hjs hl) t (Nat.le_refl _) hr
      · have h1 := List.all_eq_true.1 hc t (List.mem_range.2 htlt)
        simp only [Bool.or_eq_true, decide_eq_true_eq] at h1
        rcases h1 with h1 | h1
        · omega
        · obtain ⟨o', ho', e, he, hb, hon⟩ := Region.waitsFor_spec h1
          have : o' = ot := Option.some.inj (ho'.symm.trans hot)
          subst this
          have h2 := hall e he hb
          rw [hon, getD_both (inv.tail (t - 1) (by omega) (by omega))] at h2
          cases h2
  exact fun i hi hun => key _ i rfl hi hun

def invB (md : Region.Mode) (ops : Array Oper) (m : Nat) (listed : Array Bool) : Bool :=
  (listed.size == ops.size) && ((List.range ops.size).all fun j => !listed.getD j false || match ops[j]? with | some oj => oj.after.all fun e => !Region.binds md e || listed.getD e.on false | none => true) && ((List.range ops.size).all fun t => decide (t < m) || !listed.getD t true)
theorem inv_of {m : Nat} {listed : Array Bool} (h : invB md ops m listed = true) : HeadInv md ops m listed := by
  simp only [invB, Bool.and_eq_true, beq_iff_eq] at h
  obtain ⟨⟨h1, h2⟩, h3⟩ := h
  refine ⟨h1, fun j oj hj hl e he hb => ?_, fun t ht hts => ?_⟩
  · have := List.all_eq_true.1 h2 j (List.mem_range.2 (Array.getElem?_eq_some_iff.1 hj).1)
    rw [hj, hl] at this
    simp only [Bool.not_true, Bool.false_or] at this
    have := (Array.all_eq_true_iff_forall_mem.1 this) e he
    rw [hb] at this
    simpa using this
  · have := List.all_eq_true.1 h3 t (List.mem_range.2 hts)
    simp only [Bool.or_eq_true, decide_eq_true_eq] at this
    rcases this with h | h
    · omega
    · simpa using h
/-- what has come up once m operations, and the one behind them, have -/
def lst1 (s m : Nat) : Array Bool := (endL m 0 (Array.replicate s false)).setIfInBounds m true
/-- the look at a region: m1 operations that all others wait for; one that may be taken at once; then those up to m3; then a row, each waiting for the one before it -/
def splitB (md : Region.Mode) (ops : Array Oper) (m1 m3 : Nat) : Bool :=
  Region.noSelect ops && decide (m1 < m3) && decide (m3 < ops.size) && gate1B md ops m1 && gate2B md ops m3 (m1 + 1) && invB md ops m1 (Array.replicate ops.size false) && headB md ops m1 0 (Array.replicate ops.size false) &&
  ((Region.ready md ops (endL m1 0 (Array.replicate ops.size false))).all fun j => decide (m1 ≤ j)) && Region.free md ops (endL m1 0 (Array.replicate ops.size false)) m1 && (Region.ready md ops (endL m1 0 (Array.replicate ops.size false))).contains m1 &&
  invB md ops m3 (lst1 ops.size m1) && ((List.range (m1 + 1)).all fun i => (lst1 ops.size m1).getD i false) && headB md ops (m3 - (m1 + 1)) (m1 + 1) (lst1 ops.size m1) &&
  ((Region.ready md ops (endL (m3 - (m1 + 1)) (m1 + 1) (lst1 ops.size m1))).all fun j => decide (m3 ≤ j)) && Region.seqB md ops (ops.size - m3) m3 (endL (m3 - (m1 + 1)) (m1 + 1) (lst1 ops.size m1))

theorem wpIn_region_split {id : Nat} {Q : Exit → Act → World → Prop} {a : Act} {w : World} {l : List Oper} (m1 m3 : Nat) (o1 : Oper) (ho1 : l[m1]? = some o1) (hm : P.follows .mixedOrders = true) (hB : splitB .any l.toArray m1 m3 = true)
    (hQ : ∀ v c a w, Q (.panic c) (a.put o1.dst v) w → Q (.panic c) a w)
    (h : wpQuiet P l.toArray (fun w' => ∃ n, w' = w.drewN n) (fun a1 => ∃ v, YieldsFenced P l.toArray o1 v a1 ∧
      wpQuiet P l.toArray (fun w' => ∃ n, w' = w.drewN n) (fun a2 => ∀ w', (∃ n, w' = w.drewN n) → wpListIn Fence.wide n P l.toArray Q (l.drop m3) a2 w') ((l.take m3).drop (m1 + 1)) (a1.put o1.dst v)) (l.take m1) a) :
    (Code.region id l.toArray true).wpIn Fence.wide n P Q a w := by
  simp only [splitB, Bool.and_eq_true, decide_eq_true_eq] at hB
  obtain ⟨⟨⟨⟨⟨⟨⟨⟨⟨⟨⟨⟨⟨⟨hsel, h13⟩, h3s⟩, hg1⟩, hg2⟩, hi1⟩, hh1⟩, hd1⟩, hf1⟩, hr1⟩, hi3⟩, hp3⟩, hh3⟩, hd3⟩, hseq⟩ := hB
  have hsz : l.toArray.size = l.length := by simp
  have ht1 : (l.take m1).length = m1 := by simp; omega
  have ht3 : ((l.take m3).drop (m1 + 1)).length = m3 - (m1 + 1) := by simp; omega
  have hd3' : (l.drop m3).length = l.toArray.size - m3 := by simp
  have H := wpAnyH_lex (P := P) (md := .any) (C := fun w' => ∃ n, w' = w.drewN n) hsel (gate1_of hg1 (by omega)) (l.take m1) 0 (Array.replicate l.toArray.size false) a (fun j hj => by
    have hj' : j < m1 := by rw [ht1] at hj; exact hj
    simp [hj']) (by simpa using ht1) (inv_of hi1) (fun i hi => by omega) (by rw [ht1]; exact hd1) (by rw [ht1]; exact hh1) h
  rw [ht1] at H
  refine wpIn_region_any hm ?_
  have step := wpAnyIn_of_headH (n := n) (Q' := Q) (g := l.toArray.size - m1) (fun listed a' w' hC hL => ?_) m1 _ a { w with drawn := w.drawn + 1 } ⟨1, rfl⟩ H
  · rw [show m1 + (l.toArray.size - m1) = l.toArray.size by omega] at step
    exact step
  · obtain ⟨rfl, v, hy, h2⟩ := hL
    obtain ⟨g, hg⟩ : ∃ g, l.toArray.size - m1 = g + 1 := ⟨l.toArray.size - m1 - 1, by omega⟩
    rw [hg]
    refine wpAnyIn_take rfl (by simpa using ho1) hsel hf1 hr1 (fun c a w => hQ v c a w) hy ?_
    have H2 := wpAnyH_lex (P := P) (md := .any) (C := fun w' => ∃ n, w' = w.drewN n) hsel (gate2_of hg2 h3s) ((l.take m3).drop (m1 + 1)) (m1 + 1) (lst1 l.toArray.size m1) (a'.put o1.dst v) (fun j hj => by
      rw [ht3] at hj
      rw [List.getElem?_drop, List.getElem?_take, if_pos (by omega)]
      simp) (by rw [ht3]; omega) (inv_of hi3) (fun i hi => List.all_eq_true.1 hp3 i (List.mem_range.2 hi)) (by rw [ht3]; exact hd3) (by rw [ht3]; exact hh3) h2
    rw [ht3] at H2
    have step2 := wpAnyIn_of_headH (n := n) (Q' := Q) (g := l.toArray.size - m3) (fun listed a'' w'' hC' hL' => ?_) _ _ _ w' hC H2
    · rw [show m3 - (m1 + 1) + (l.toArray.size - m3) = g by omega] at step2
      exact step2
    · obtain ⟨rfl, h4⟩ := hL'
      have := wpAnyIn_of_seq (md := .any) (n := n) (Q' := Q) (l.drop m3) m3 _ a'' w'' (fun j => by simp [List.getElem?_drop]) (by rw [hd3']; exact hseq) (h4 w'' hC')
      rwa [hd3'] at this
end
end Go.Ap
