/-
  As QTail's law, where the first operation is the one that may be taken at once.
-/
import Derived.Test.YtamdonlncfmmmaaQTail
namespace Go.Ap
open Go Go.RowKit

section
variable {P : Program} {ops : Array Oper} {md : Region.Mode} {C : World → Prop} {n : Nat}

/-- the look at a region: its first operation may be taken at once; then those up to m3; then a row, each waiting for the one before it -/
def splitB0 (md : Region.Mode) (ops : Array Oper) (m3 : Nat) : Bool :=
  Region.noSelect ops && decide (0 < m3) && decide (m3 < ops.size) && gate2B md ops m3 (0 + 1) && invB md ops 0 (Array.replicate ops.size false) && headB md ops 0 0 (Array.replicate ops.size false) &&
  ((Region.ready md ops (endL 0 0 (Array.replicate ops.size false))).all fun j => decide (0 ≤ j)) && Region.free md ops (endL 0 0 (Array.replicate ops.size false)) 0 && (Region.ready md ops (endL 0 0 (Array.replicate ops.size false))).contains 0 &&
  invB md ops m3 (lst1 ops.size 0) && ((List.range (0 + 1)).all fun i => (lst1 ops.size 0).getD i false) && headB md ops (m3 - (0 + 1)) (0 + 1) (lst1 ops.size 0) &&
  ((Region.ready md ops (endL (m3 - (0 + 1)) (0 + 1) (lst1 ops.size 0))).all fun j => decide (m3 ≤ j)) && Region.seqB md ops (ops.size - m3) m3 (endL (m3 - (0 + 1)) (0 + 1) (lst1 ops.size 0))

theorem wpIn_region_split0 {id : Nat} {Q : Exit → Act → World → Prop} {a : Act} {w : World} {l : List Oper} (m3 : Nat) (o1 : Oper) (ho1 : l[0]? = some o1) (hm : P.follows .mixedOrders = true) (hB : splitB0 .any l.toArray m3 = true)
    (hQ : ∀ v c a w, Q (.panic c) (a.put o1.dst v) w → Q (.panic c) a w)
    (h : wpQuiet P l.toArray (fun w' => ∃ n, w' = w.drewN n) (fun a1 => ∃ v, YieldsFenced P l.toArray o1 v a1 ∧
      wpQuiet P l.toArray (fun w' => ∃ n, w' = w.drewN n) (fun a2 => ∀ w', (∃ n, w' = w.drewN n) → wpListIn Fence.wide n P l.toArray Q (l.drop m3) a2 w') ((l.take m3).drop (0 + 1)) (a1.put o1.dst v)) (l.take 0) a) :
    (Code.region id l.toArray true).wpIn Fence.wide n P Q a w := by
  simp only [splitB0, Bool.and_eq_true, decide_eq_true_eq] at hB
  obtain ⟨⟨⟨⟨⟨⟨⟨⟨⟨⟨⟨⟨⟨hsel, h13⟩, h3s⟩, hg2⟩, hi1⟩, hh1⟩, hd1⟩, hf1⟩, hr1⟩, hi3⟩, hp3⟩, hh3⟩, hd3⟩, hseq⟩ := hB
  have hsz : l.toArray.size = l.length := by simp
  have ht1 : (l.take 0).length = 0 := by simp
  have ht3 : ((l.take m3).drop (0 + 1)).length = m3 - (0 + 1) := by simp; omega
  have hd3' : (l.drop m3).length = l.toArray.size - m3 := by simp
  have H := wpAnyH_lex (P := P) (md := .any) (C := fun w' => ∃ n, w' = w.drewN n) hsel (show Gate .any l.toArray 0 0 from fun _ _ _ i hi => absurd hi (by omega)) (l.take 0) 0 (Array.replicate l.toArray.size false) a (fun j hj => by
    have hj' : j < 0 := by rw [ht1] at hj; exact hj
    exact absurd hj' (Nat.not_lt_zero _)) (by simp) (inv_of hi1) (fun i hi => by omega) (by rw [ht1]; exact hd1) (by rw [ht1]; exact hh1) h
  rw [ht1] at H
  refine wpIn_region_any hm ?_
  have step := wpAnyIn_of_headH (n := n) (Q' := Q) (g := l.toArray.size - 0) (fun listed a' w' hC hL => ?_) 0 _ a { w with drawn := w.drawn + 1 } ⟨1, rfl⟩ H
  · rw [show 0 + (l.toArray.size - 0) = l.toArray.size by omega] at step
    exact step
  · obtain ⟨rfl, v, hy, h2⟩ := hL
    obtain ⟨g, hg⟩ : ∃ g, l.toArray.size - 0 = g + 1 := ⟨l.toArray.size - 0 - 1, by omega⟩
    rw [hg]
    refine wpAnyIn_take rfl (by simpa using ho1) hsel hf1 hr1 (fun c a w => hQ v c a w) hy ?_
    have H2 := wpAnyH_lex (P := P) (md := .any) (C := fun w' => ∃ n, w' = w.drewN n) hsel (gate2_of hg2 h3s) ((l.take m3).drop (0 + 1)) (0 + 1) (lst1 l.toArray.size 0) (a'.put o1.dst v) (fun j hj => by
      rw [ht3] at hj
      rw [List.getElem?_drop, List.getElem?_take, if_pos (by omega)]
      simp) (by rw [ht3]; omega) (inv_of hi3) (fun i hi => List.all_eq_true.1 hp3 i (List.mem_range.2 hi)) (by rw [ht3]; exact hd3) (by rw [ht3]; exact hh3) h2
    rw [ht3] at H2
    have step2 := wpAnyIn_of_headH (n := n) (Q' := Q) (g := l.toArray.size - m3) (fun listed a'' w'' hC' hL' => ?_) _ _ _ w' hC H2
    · rw [show m3 - (0 + 1) + (l.toArray.size - m3) = g by omega] at step2
      exact step2
    · obtain ⟨rfl, h4⟩ := hL'
      have := wpAnyIn_of_seq (md := .any) (n := n) (Q' := Q) (l.drop m3) m3 _ a'' w'' (fun j => by simp [List.getElem?_drop]) (by rw [hd3']; exact hseq) (h4 w'' hC')
      rwa [hd3'] at this
end
end Go.Ap
