/-
  Plain laws on sets of integers as ascending lists.
-/
import Derived.Test.YtcmckcmckbdmhaaW12
namespace Go.Proofs.Ytcmckcmckbdmhaa
open Go.RowKit Go.Ap
theorem memb_contains (p : Int → Bool) (n : Nat) (k : Int) : (memb p n).contains k = (decide (0 ≤ k ∧ k < n) && p k) := by
  rw [Bool.eq_iff_iff]
  simp only [List.contains_iff_mem, memb, List.mem_filter, List.mem_map, List.mem_range, Bool.and_eq_true, decide_eq_true_eq]
  constructor
  · rintro ⟨⟨j, hj, rfl⟩, hp⟩; exact ⟨⟨by omega, by omega⟩, hp⟩
  · rintro ⟨⟨h0, h1⟩, hp⟩; exact ⟨⟨k.toNat, by omega, by omega⟩, hp⟩
theorem memb_setL (p : Int → Bool) (n : Nat) (hn : n ≤ 64) : SetL (memb p n) := by
  constructor
  · unfold memb
    apply List.Pairwise.filter
    rw [List.pairwise_map]
    exact List.pairwise_lt_range.imp (fun h => by omega)
  · intro x hx
    have := memb_contains p n x
    rw [List.contains_iff_mem.2 hx] at this
    have := Bool.and_eq_true_iff.1 this.symm
    simp only [decide_eq_true_eq] at this
    omega

theorem setL_ext {xs ys : List Int} (hx : SetL xs) (hy : SetL ys) (h : ∀ k, xs.contains k = ys.contains k) : xs = ys := by
  have n1 : xs.Nodup := hx.1.imp (fun h => by omega)
  have n2 : ys.Nodup := hy.1.imp (fun h => by omega)
  refine List.Perm.eq_of_pairwise (le := fun a b => a < b) (fun a b _ _ h1 h2 => by omega) hx.1 hy.1 ((List.perm_ext_iff_of_nodup n1 n2).2 fun k => ?_)
  rw [← List.contains_iff_mem, ← List.contains_iff_mem, h k]
theorem setL_in {xs : List Int} (hx : SetL xs) (k : Int) : (decide (0 ≤ k ∧ k < 64) && xs.contains k) = xs.contains k := by
  cases h : xs.contains k
  · simp
  · have := hx.2 k (List.contains_iff_mem.1 h)
    simp; omega
theorem canon {xs : List Int} (hx : SetL xs) : memb (fun k => xs.contains k) 64 = xs :=
  setL_ext (memb_setL _ _ (by omega)) hx fun k => by rw [memb_contains]; exact setL_in hx k
theorem chk_setL {xs : List Int} (hx : SetL xs) : chk xs = 0 := (chk_iff xs).2 hx

theorem comb_setL (f : Bool → Bool → Bool) (xs ys : List Int) : SetL (comb f xs ys) := memb_setL _ _ (by omega)
theorem comb_contains (f : Bool → Bool → Bool) (xs ys : List Int) (k : Int) : (comb f xs ys).contains k = (decide (0 ≤ k ∧ k < 64) && f (xs.contains k) (ys.contains k)) := memb_contains _ _ _
theorem okB_setL {xs ys : List Int} (hx : SetL xs) (hy : SetL ys) : okB xs ys = true := by simp [okB, chk_setL hx, chk_setL hy]
theorem combR_setL {f : Bool → Bool → Bool} {xs ys : List Int} (hx : SetL xs) (hy : SetL ys) : combR f xs ys = comb f xs ys := by rw [combR, if_pos (okB_setL hx hy)]
theorem combE_setL {xs ys : List Int} (hx : SetL xs) (hy : SetL ys) : combE xs ys = 0 := by rw [combE, if_pos (okB_setL hx hy)]

theorem complE_setL {xs : List Int} (hx : SetL xs) : complE 64 xs = 0 := by
  rw [complE, if_neg (by omega), if_neg (by simpa using chk_setL hx), if_neg]
  rintro ⟨h0, h1⟩
  have := hx.2 _ (nth_mem (xs := xs) (k := xs.length - 1) (by omega))
  omega
theorem complR_setL {xs : List Int} (hx : SetL xs) : complR 64 xs = memb (complP xs) 64 := by rw [complR, if_pos (complE_setL hx)]; rfl
theorem compl_setL (xs : List Int) : SetL (memb (complP xs) 64) := memb_setL _ _ (by omega)
theorem compl_contains (xs : List Int) (k : Int) : (memb (complP xs) 64).contains k = (decide (0 ≤ k ∧ k < 64) && !xs.contains k) := memb_contains _ _ _

theorem compl_compl {xs : List Int} (hx : SetL xs) : memb (complP (memb (complP xs) 64)) 64 = xs :=
  setL_ext (compl_setL _) hx fun k => by
    rw [compl_contains, compl_contains, ← setL_in hx k]
    cases decide (0 ≤ k ∧ k < 64) <;> simp
theorem compl_comb {xs ys : List Int} : memb (complP (comb (fun x y => x || y) xs ys)) 64 = comb (fun x y => x && y) (memb (complP xs) 64) (memb (complP ys) 64) :=
  setL_ext (compl_setL _) (comb_setL _ _ _) fun k => by
    rw [compl_contains, comb_contains, comb_contains, compl_contains, compl_contains]
    cases decide (0 ≤ k ∧ k < 64) <;> cases xs.contains k <;> cases ys.contains k <;> rfl
theorem compl_len {xs : List Int} (hx : SetL xs) : (memb (complP xs) 64).length + xs.length = 64 := by
  have h := List.length_eq_countP_add_countP (fun k => xs.contains k) (l := (List.range 64).map fun (k : Nat) => (k : Int))
  rw [List.countP_eq_length_filter, List.countP_eq_length_filter] at h
  have e1 : (((List.range 64).map fun (k : Nat) => (k : Int)).filter fun k => xs.contains k) = xs := canon hx
  have e2 : (((List.range 64).map fun (k : Nat) => (k : Int)).filter fun k => decide ¬(xs.contains k) = true) = memb (complP xs) 64 := by
    unfold memb
    congr 1
    funext k
    simp [complP]
  rw [e1, e2] at h
  simp at h
  omega

theorem bad1_no {xs : List Int} (h : bad1 xs = false) : xs.length ≤ 12 ∧ SetL xs := by
  simp only [bad1, Bool.or_eq_false_iff, decide_eq_false_iff_not, bne_eq_false_iff_eq] at h
  exact ⟨by omega, (chk_iff xs).1 h.2⟩
end Go.Proofs.Ytcmckcmckbdmhaa
