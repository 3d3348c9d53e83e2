/-
  Regions that draw their order: guarded operations, posts that hang on the frame.
-/
import Derived.Test.YtngdmpkoedpgdaaGreatDoorRegR
import Derived.Deep.RegionHeld3
namespace Go.Ap
open Go Go.RowKit
section
variable {P : Program} {ops : Array Oper} {S : World → Prop}
theorem wpTakes_skip {K : Act → Prop} {i : Nat} {is : List Nat} {oi : Oper} {a : Act} (ho : ops[i]? = some oi) (hw : Region.wanted oi (yielded ops a.tmps) = false)
    (h : wpTakes P ops S K is (a.put oi.dst undef)) : wpTakes P ops S K (i :: is) a := ⟨oi, undef, ho, .inr ⟨hw, rfl⟩, h⟩
end
end Go.Ap
namespace Go.Ap
open Go Go.RowKit
theorem wanted_gd {ops : Array Oper} {tmps : Array Value} {o oj : Oper} {j t : Nat} {b c : Bool} (hg : o.guard = some (j, c)) (hj : ops[j]? = some oj) (hd : oj.dst = some t) (hv : tmps[t]? = some (.bool b)) : Region.wanted o (yielded ops tmps) = (b == c) := by
  unfold Region.wanted
  rw [hg]
  simp only [yielded, hj, Option.bind_some, hd, hv]
  rfl
/-- a guarded operation that is not wanted -/
theorem wpTakes_no {P : Program} {ops : Array Oper} {S : World → Prop} {K : Act → Prop} {i j t : Nat} {is : List Nat} {oi oj : Oper} {b c : Bool} {a : Act} (ho : ops[i]? = some oi) (hg : oi.guard = some (j, c)) (hj : ops[j]? = some oj) (hd : oj.dst = some t) (hv : a.tmps[t]? = some (.bool b)) (hn : (b == c) = false)
    (h : wpTakes P ops S K is (a.put oi.dst undef)) : wpTakes P ops S K (i :: is) a := wpTakes_skip ho ((wanted_gd hg hj hd hv).trans hn) h
/-- a guarded operation that is wanted -/
theorem wpTakes_gd {P : Program} {ops : Array Oper} {S : World → Prop} {K : Act → Prop} {i j t : Nat} {is : List Nat} {oi oj : Oper} {b c : Bool} {v : Value} {a : Act} (ho : ops[i]? = some oi) (hg : oi.guard = some (j, c)) (hj : ops[j]? = some oj) (hd : oj.dst = some t) (hv : a.tmps[t]? = some (.bool b)) (hn : (b == c) = true)
    (hy : ∀ w, S w → (execOp a.eval oi).run P w = .ok (.value v) w) (h : wpTakes P ops S K is (a.put oi.dst v)) : wpTakes P ops S K (i :: is) a := wpTakes_cons ho ((wanted_gd hg hj hd hv).trans hn) hy h
/-- wpIn_region_heldR where the post hangs on the frame at a panic: the region does not panic -/
theorem wpIn_region_heldN {F : Fence} {P : Program} {ops : Array Oper} {n : Nat} {Q : Exit → Act → World → Prop} {id : Nat} {a : Act} {w : World} (S : World → Prop) (m : Nat) (is rs : List Nat) (hF : ∀ f, F.fn f) (hm : P.follows .mixedOrders = true) (hB : heldB ops m is rs = true)
    (hS : S w.drew) (h : wpTakes P ops S (fun a' => wpSeqR F n P ops (NoPanic Q) S m rs a' w.drew) is a) : (Code.region id ops true).wpIn F n P Q a w :=
  wpIn_mono (wpIn_region_heldR (Q := NoPanic Q) S m is rs hF hm hB (fun _ _ _ _ _ h => h.elim) hS h) NoPanic.imp
theorem wpTakes_nil {P : Program} {ops : Array Oper} {S : World → Prop} {K : Act → Prop} {a : Act} (h : K a) : wpTakes P ops S K [] a := h
theorem wpSeqR_nilN {F : Fence} {P : Program} {ops : Array Oper} {n m : Nat} {S : World → Prop} {Q : Exit → Act → World → Prop} {a : Act} {w : World} (h : Q .normal a w) : wpSeqR F n P ops (NoPanic Q) S m [] a w := h
theorem wpSeqR_nil {F : Fence} {P : Program} {ops : Array Oper} {n m : Nat} {S : World → Prop} {Q : Exit → Act → World → Prop} {a : Act} {w : World} (h : Q .normal a w) : wpSeqR F n P ops Q S m [] a w := h
theorem wanted_un {ops : Array Oper} {tmps : Array Value} {o oj : Oper} {j t : Nat} {c : Bool} (hg : o.guard = some (j, c)) (hj : ops[j]? = some oj) (hd : oj.dst = some t) (hv : tmps[t]? = some undef) : Region.wanted o (yielded ops tmps) = false := by
  unfold Region.wanted
  rw [hg]
  simp only [yielded, hj, Option.bind_some, hd, hv]
  rfl
/-- an operation whose guard was not wanted -/
theorem wpTakes_un {P : Program} {ops : Array Oper} {S : World → Prop} {K : Act → Prop} {i j t : Nat} {is : List Nat} {oi oj : Oper} {c : Bool} {a : Act} (ho : ops[i]? = some oi) (hg : oi.guard = some (j, c)) (hj : ops[j]? = some oj) (hd : oj.dst = some t) (hv : a.tmps[t]? = some undef)
    (h : wpTakes P ops S K is (a.put oi.dst undef)) : wpTakes P ops S K (i :: is) a := wpTakes_skip ho (wanted_un hg hj hd hv) h
section
variable {P : Program} {ops : Array Oper} {S : World → Prop} {K : Act → Prop} {i j t d : Nat} {is : List Nat} {oi oj : Oper} {b c : Bool} {v : Value} {a : Act}
theorem put_some (hd : oi.dst = some d) (v : Value) (a : Act) : a.put oi.dst v = { a with tmps := a.tmps.setIfInBounds d v } := by rw [hd]; rfl
theorem wpTakes_consD (ho : ops[i]? = some oi) (hd : oi.dst = some d) (hw : Region.wanted oi (yielded ops a.tmps) = true) (hy : ∀ w, S w → (execOp a.eval oi).run P w = .ok (.value v) w)
    (h : wpTakes P ops S K is { a with tmps := a.tmps.setIfInBounds d v }) : wpTakes P ops S K (i :: is) a := wpTakes_cons ho hw hy (by rw [put_some hd]; exact h)
theorem wpTakes_noD (ho : ops[i]? = some oi) (hd : oi.dst = some d) (hg : oi.guard = some (j, c)) (hj : ops[j]? = some oj) (hdj : oj.dst = some t) (hv : a.tmps[t]? = some (.bool b)) (hn : (b == c) = false)
    (h : wpTakes P ops S K is { a with tmps := a.tmps.setIfInBounds d undef }) : wpTakes P ops S K (i :: is) a := wpTakes_no ho hg hj hdj hv hn (by rw [put_some hd]; exact h)
theorem wpTakes_gdD (ho : ops[i]? = some oi) (hd : oi.dst = some d) (hg : oi.guard = some (j, c)) (hj : ops[j]? = some oj) (hdj : oj.dst = some t) (hv : a.tmps[t]? = some (.bool b)) (hn : (b == c) = true)
    (hy : ∀ w, S w → (execOp a.eval oi).run P w = .ok (.value v) w) (h : wpTakes P ops S K is { a with tmps := a.tmps.setIfInBounds d v }) : wpTakes P ops S K (i :: is) a := wpTakes_gd ho hg hj hdj hv hn hy (by rw [put_some hd]; exact h)
theorem wpTakes_unD (ho : ops[i]? = some oi) (hd : oi.dst = some d) (hg : oi.guard = some (j, c)) (hj : ops[j]? = some oj) (hdj : oj.dst = some t) (hv : a.tmps[t]? = some undef)
    (h : wpTakes P ops S K is { a with tmps := a.tmps.setIfInBounds d undef }) : wpTakes P ops S K (i :: is) a := wpTakes_un ho hg hj hdj hv (by rw [put_some hd]; exact h)
end
end Go.Ap
