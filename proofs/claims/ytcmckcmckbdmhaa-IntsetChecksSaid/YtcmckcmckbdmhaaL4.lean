import Derived.Test.YtcmckcmckbdmhaaL3
import Derived.RangeFuncBox
namespace Go.Proofs.Ytcmckcmckbdmhaa
open Go.RowKit Go.Ap Go.Shelf

/-- a store of what the cell holds changes nothing -/
theorem boxed_same {W : World} {B : Nat} {t : TypeId} {v : Value} (h : Boxed W B t v) : W.setCell ⟨B, 0, none⟩ v = W := by
  obtain ⟨hlt, hk⟩ := Array.getElem?_eq_some_iff.1 h
  have hh : (W.setCell ⟨B, 0, none⟩ v).heap = W.heap := by
    apply Array.ext
    · simp
    · intro i h1 h2
      simp only [World.setCell, Array.getElem_modify]
      split
      · rename_i e; subst e; rw [hk]; rfl
      · rfl
  have e : W.setCell ⟨B, 0, none⟩ v = { W with heap := (W.setCell ⟨B, 0, none⟩ v).heap } := rfl
  rw [e, hh]

/-- what the closure 'do' calls: an operation on sets by its number -/
structure OpSet (g : Nat) (f : Bool → Bool → Bool) : Prop where
  enters : ∀ args w, (callFunc g args).run Try.prog w = .ok (.enter g args) w
  calls : ∀ a b n m c d xs ys w, Ints w a n xs → Ints w b m ys → Calls Try.prog g #[.slice a n c, .slice b m d] w (GivesE w (combR f xs ys) (combE xs ys))
theorem opU : OpSet 14 (fun x y => x || y) := ⟨enters_of Try.func14 (by kernel_rfl) rfl, fun a b n m c d xs ys w hx hy => union14 a b n m c d xs ys w hx hy⟩
theorem opI : OpSet 15 (fun x y => x && y) := ⟨enters_of Try.func15 (by kernel_rfl) rfl, fun a b n m c d xs ys w hx hy => inter15 a b n m c d xs ys w hx hy⟩
theorem opM : OpSet 18 (fun x y => x && !y) := ⟨enters_of Try.func18 (by kernel_rfl) rfl, fun a b n m c d xs ys w hx hy => minus18 a b n m c d xs ys w hx hy⟩

def GivesL (w : World) (res : List Int) (e : Ending) (w' : World) : Prop :=
  ∃ a n c, e = .returned (.slice a n c) ∧ Ints w' a n res ∧ Below w.heap.size w w'

set_option maxHeartbeats 400000 in
theorem do17 (g : Nat) (f : Bool → Bool → Bool) (hg : OpSet g f) (Bok : Nat) (a b : Option Addr) (n m c d : Nat) (xs ys : List Int) (w : World) (hok : Boxed w Bok 4 (.bool true)) (hx : Ints w a n xs) (hy : Ints w b m ys) (sx : SetL xs) (sy : SetL ys) :
    Calls Try.prog 17 #[.func (.func g) #[] #[], .slice a n c, .slice b m d, .pointer (some ⟨Bok, 0, none⟩)] w (GivesL w (comb f xs ys)) := by
  have eg := hg.enters
  have h1 := hg.calls a b n m c d xs ys w hx hy
  rw [combE_setL sx sy, combR_setL sx sy] at h1
  have H1 := Lib.hid h1
  have HOK := Lib.hid hok
  clear h1 hok hx hy hg
  go_enter Try.func17, Try.ntmps17
  go_wp2_with (fail)
  refine (H1.out).mono ?_
  rintro e w1 ⟨a1, n1, c1, rfl, i1, k1⟩
  have hok1 : Boxed w1 Bok 4 (.bool true) := (k1.block Bok HOK.out.lt).trans HOK.out
  have hc := hok1.cell
  have hf := hok1.frozen
  have hs := boxed_same hok1
  have I1 := Lib.hid i1
  clear i1 hok1
  go_wp2_with (fail)
  go_ret
  exact ⟨a1, n1, c1, rfl, I1.out, k1⟩

theorem comb_comm_or (xs ys : List Int) : comb (fun x y => x || y) xs ys = comb (fun x y => x || y) ys xs :=
  setL_ext (comb_setL _ _ _) (comb_setL _ _ _) fun k => by rw [comb_contains, comb_contains, Bool.or_comm]
theorem comb_comm_and (xs ys : List Int) : comb (fun x y => x && y) xs ys = comb (fun x y => x && y) ys xs :=
  setL_ext (comb_setL _ _ _) (comb_setL _ _ _) fun k => by rw [comb_contains, comb_contains, Bool.and_comm (xs.contains k)]
theorem comb_assoc (xs ys zs : List Int) : comb (fun x y => x || y) (comb (fun x y => x || y) xs ys) zs = comb (fun x y => x || y) xs (comb (fun x y => x || y) ys zs) :=
  setL_ext (comb_setL _ _ _) (comb_setL _ _ _) fun k => by
    simp only [comb_contains]
    cases decide (0 ≤ k ∧ k < 64) <;> cases xs.contains k <;> cases ys.contains k <;> rfl
theorem comb_distr (xs ys zs : List Int) : comb (fun x y => x && y) xs (comb (fun x y => x || y) ys zs) = comb (fun x y => x || y) (comb (fun x y => x && y) xs ys) (comb (fun x y => x && y) xs zs) :=
  setL_ext (comb_setL _ _ _) (comb_setL _ _ _) fun k => by
    simp only [comb_contains]
    cases decide (0 ≤ k ∧ k < 64) <;> cases xs.contains k <;> cases ys.contains k <;> rfl
theorem comb_whole {xs : List Int} (hx : SetL xs) (ys : List Int) : comb (fun x y => x || y) (comb (fun x y => x && y) xs ys) (comb (fun x y => x && !y) xs ys) = xs :=
  setL_ext (comb_setL _ _ _) hx fun k => by
    rw [← setL_in hx k]
    simp only [comb_contains]
    cases decide (0 ≤ k ∧ k < 64) <;> cases xs.contains k <;> cases ys.contains k <;> rfl

end Go.Proofs.Ytcmckcmckbdmhaa
