/-
  A function that ranges over functions in a loop: the marks that it leaves among its deferred calls.
-/
import Derived.Test.YtamdonlncfmmmaaBase
import Derived.RangeFuncLeaves
import Derived.RangeFuncBox
import Derived.RangeFuncRecord
namespace Go.Ap
open Go Go.RowKit

/-- the mark of a range's block -/
def mk (D : Nat) : Deferred := { target := .collected D, args := #[] }
/-- marks of ranges that are over: each block lies from e on, none twice -/
def Marks (e : Nat) (W : World) (Ds : List Nat) : Prop := Ds.Nodup ∧ ∀ D ∈ Ds, e ≤ D ∧ W.heap[D]? = some (.deferred (some []))
/-- W with the marks' blocks shut -/
structure Shut (e : Nat) (W W' : World) : Prop where
  os : W'.os = W.os
  tape : W'.tape = W.tape
  output : W'.output = W.output
  size : W'.heap.size = W.heap.size
  block : ∀ k, (k < e ∨ ∃ c t f, W.heap[k]? = some (.cells c t f)) → W'.heap[k]? = W.heap[k]?
section
variable {e : Nat} {W W' W2 : World} {Ds : List Nat}
theorem Shut.refl (e : Nat) (W : World) : Shut e W W := ⟨rfl, rfl, rfl, rfl, fun _ _ => rfl⟩
theorem Shut.trans (h : Shut e W W') (k : Shut e W' W2) : Shut e W W2 :=
  ⟨k.os.trans h.os, k.tape.trans h.tape, k.output.trans h.output, k.size.trans h.size, fun i hi => by
    have h1 := h.block i hi
    refine (k.block i ?_).trans h1
    rcases hi with hi | ⟨c, t, f, hi⟩
    · exact .inl hi
    · exact .inr ⟨c, t, f, h1.trans hi⟩⟩
theorem Shut.below (h : Shut e W W') : Below e W W' := ⟨h.os, h.tape, h.output, by rw [h.size]; exact Nat.le_refl _, fun k hk => h.block k (.inl hk)⟩
theorem Shut.put {D : Nat} (hD : e ≤ D) (h : W.heap[D]? = some (.deferred (some []))) (o : Obj) : Shut e W (W.putObj D o) :=
  ⟨rfl, rfl, rfl, by simp [World.putObj], fun k hk => by
    refine (grownBy_putObj' W D o).block k ?_ ?_
    · rcases hk with hk | ⟨c, t, f, hk⟩
      · have := (Array.getElem?_eq_some_iff.1 h).1; omega
      · exact (Array.getElem?_eq_some_iff.1 hk).1
    · intro he
      injection he with he
      subst he
      rcases hk with hk | ⟨c, t, f, hk⟩
      · omega
      · rw [h] at hk; cases hk⟩
theorem Shut.cell {b o : Nat} {v : Value} (h : Shut e W W') (hc : W.cell? ⟨b, o, none⟩ = some v) (hb : ∃ c t f, W.heap[b]? = some (.cells c t f)) : W'.cell? ⟨b, o, none⟩ = some v := by
  rw [World.cell?_of_block (w := W) (h.block b (.inr hb))]; exact hc
theorem Shut.boxed {b : Nat} {t : TypeId} {v : Value} (h : Shut e W W') (hb : Boxed W b t v) : Boxed W' b t v := (h.block b (.inr ⟨_, _, _, hb⟩)).trans hb
theorem Shut.owns {base : Nat} {t : TypeId} {size n : Nat} {v : Value} {xs : List Value} (h : Shut e W W') (ho : W.ownsRow base t size v n xs) : W'.ownsRow base t size v n xs := by
  refine ⟨ho.1, ?_⟩
  rcases ho.2 with hn | ⟨g, cap, cur, rfl, hbb, hgg, rest⟩
  · exact .inl hn
  · exact .inr ⟨g, cap, cur, rfl, hbb, (h.block g (.inr ⟨_, _, _, hgg⟩)).trans hgg, rest⟩
theorem Marks.cons {D : Nat} (h : Marks e W Ds) (hD : e ≤ D) (hn : ∀ k ∈ Ds, k < D) (hd : W.heap[D]? = some (.deferred (some []))) : Marks e W (D :: Ds) :=
  ⟨List.nodup_cons.2 ⟨fun hm => by have := hn D hm; omega, h.1⟩, fun k hk => by
    rcases List.mem_cons.1 hk with rfl | hk
    · exact ⟨hD, hd⟩
    · exact h.2 k hk⟩
theorem Marks.lt (h : Marks e W Ds) : ∀ k ∈ Ds, k < W.heap.size := fun k hk => (Array.getElem?_eq_some_iff.1 (h.2 k hk).2).1
/-- where no block but one has turned, and that one is none of them -/
theorem Marks.grown {row : Option Nat} (h : Marks e W Ds) (hg : W.grownBy W' row) (hr : ∀ r, row = some r → W.heap[r]? ≠ some (.deferred (some []))) : Marks e W' Ds :=
  ⟨h.1, fun k hk => ⟨(h.2 k hk).1, (hg.block k (h.lt k hk) (fun he => hr k he.symm (h.2 k hk).2)).trans (h.2 k hk).2⟩⟩
theorem Marks.below (h : Marks e W Ds) (hb : Below W.heap.size W W') : Marks e W' Ds :=
  ⟨h.1, fun k hk => ⟨(h.2 k hk).1, (hb.block k (h.lt k hk)).trans (h.2 k hk).2⟩⟩

/-- a function that leaves with marks -/
theorem leaves_marks {F : Fence} {n : Nat} {P : Program} {fn : Func} {tmps : Array Value} {R : Ending → World → Prop} : ∀ (Ds : List Nat) (W : World), Marks e W Ds →
    (∀ W', Shut e W W' → ∃ v, (results fn tmps).run P W' = .ok v W' ∧ R (.returned v) W') → LeavesInM F n P fn tmps R (Ds.map mk) .returning W
  | [], W, _, h => h W (Shut.refl e W)
  | D :: Ds, W, hm, h => by
    obtain ⟨hD, hd⟩ := hm.2 D (by simp)
    have hs := Shut.put hD hd (.deferred none)
    refine ⟨by simp, .inl ⟨D, _, rfl, run_takeDeferred hd, leaves_marks Ds _ ⟨(List.nodup_cons.1 hm.1).2, fun k hk => ?_⟩ fun W' hW' => h W' (hs.trans hW')⟩⟩
    obtain ⟨h1, h2⟩ := hm.2 k (by simp [hk])
    refine ⟨h1, ((grownBy_putObj' W D (.deferred none)).block k (Array.getElem?_eq_some_iff.1 h2).1 fun he => ?_).trans h2⟩
    injection he with he
    subst he
    exact (List.nodup_cons.1 hm.1).1 hk
end
end Go.Ap
