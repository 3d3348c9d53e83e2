/-
  Permutations; whether a pair has an index.
-/
import Derived.Test.YtbahddjbncinbaaGreatDoorFn
namespace Go.Ap
open Go Go.RowKit
theorem not_has {L : List Nat} (hn : L.Nodup) {i k : Nat} (h : L[i]? = some k) : (L.take i).contains k = false := by
  rw [Bool.eq_false_iff]
  intro hc
  rw [List.contains_iff_mem] at hc
  obtain ⟨j, hj⟩ := List.getElem?_of_mem hc
  obtain ⟨hil, hi⟩ := List.getElem?_eq_some_iff.1 h
  obtain ⟨hjl, hj2⟩ := List.getElem?_eq_some_iff.1 hj
  rw [List.length_take] at hjl
  rw [List.getElem_take] at hj2
  have := (List.nodup_iff_pairwise_ne.1 hn)
  have := List.pairwise_iff_getElem.1 this j i (by omega) hil (by omega)
  exact this (by rw [hj2, hi])
end Go.Ap
namespace Go.Proofs.YtbahddjbncinbaaGreatDoor
open Go.RowKit Go.Ap Go.Shelf Go.Proofs

attribute [local go_sem] Oper.semAt_some bs_toList empty_toList bs_size bs_extract
set_option maxHeartbeats 4000000 in
theorem perm28 (L : List Nat) (a : Option Addr) (n c : Nat) (w : World) (h : Ints w a n (castL L)) (hn : n ≤ 1024) (hnd : L.Nodup) (hlt : ∀ k ∈ L, k < n) :
    Calls Tryz.prog 28 #[.slice a n c] w fun e w' => e = .returned (.bool true) ∧ Below w.heap.size w w' := by
  have hl : L.length = n := by have := h.len; rwa [castL_len] at this
  have HL := Lib.hid hl
  have HND := Lib.hid hnd
  have HLT := Lib.hid hlt
  have HX := Lib.hid h
  obtain ⟨S, hS⟩ : ∃ S, w.heap.size = S := ⟨_, rfl⟩
  have HSS := Lib.hid hS
  have hmk := make_bools n (by omega) w
  have HA0 := Lib.hid (show ArrB (w.alloc (.cells (Array.replicate n (.bool false)) 4)) S (hasB L n 0) by rw [hasB_zero, ArrB, show ((List.replicate n false).map Value.bool).toArray = Array.replicate n (.bool false) by simp]; exact heap_fresh hS.symm)
  have HB3 := Lib.hid (balloc w (.cells (Array.replicate n (.bool false)) 4))
  clear h hl hnd hlt hS
  go_enter Tryz.func28, Tryz.ntmps28
  go_wp2_with (fail)
  rw [HSS.out]
  clear hmk
  go_loopw [11] (fun iv wr => ∃ i : Nat, i ≤ n ∧ iv = .int .i64 i ∧ ArrB wr S (hasB L n i) ∧ Below w.heap.size w wr) (fun iv _ => n - (intOf iv).toNat)
  case atStart => exact ⟨0, Nat.zero_le _, rfl, HA0.out, HB3.out⟩
  case round =>
    obtain ⟨wi, rfl⟩ : ∃ wi : World, wi = wr := ⟨_, rfl⟩
    obtain ⟨i, hi, rfl, ha, hb⟩ := hrel
    have HA := Lib.hid ha
    have HB := Lib.hid hb
    by_cases hin : i < n
    · obtain ⟨z, b, o, v, hz, rfl, hc, rfl, hw⟩ := Sl.at HX.out hin
      unfold castL at hz
      rw [List.getElem?_map] at hz
      obtain ⟨k, hk, rfl⟩ := Option.map_eq_some_iff.1 hz
      have hkn := HLT.out k (List.mem_of_getElem? hk)
      have c1 := cell_keep hb hc
      have cs := ha.cell (k := k) (by rw [hasB_len]; exact hkn)
      rw [hasB_at hkn, not_has HND.out hk] at cs
      have fs := ha.free k
      have HAS := Lib.hid (show ArrB (wi.setCell ⟨S, k, none⟩ (.bool true)) S (hasB L n (i + 1)) by have := ha.set k true; rwa [hasB_set hk] at this)
      have HBS := Lib.hid (show Below w.heap.size w (wi.setCell ⟨S, k, none⟩ (.bool true)) from hb.setCell (p := ⟨S, k, none⟩) (by simp [HSS.out]) _)
      have i1 : (i : Int) < (n : Int) := by omega
      have i2 : (k : Int) < (n : Int) := by omega
      clear hz hk hc hw ha hb
      go_wp2_with (fail)
      go_roundw
      case rel => exact ⟨i + 1, by omega, by simp, HAS.out, HBS.out⟩
      case measure => simp [intOf]; omega
    · obtain rfl : n = i := by omega
      clear ha hb
      go_wp2_with (fail)
      go_ret
      exact ⟨rfl, HB.out⟩
theorem clo29 (p : Nat × Nat) (k : Int) (Bk : Nat) (v : Value) (W : World) (h : RowR W v (rowP p)) (hc : W.cell? ⟨Bk, 0, none⟩ = some (.int .i64 k)) :
    Calls Tryz.prog 29 (#[v] ++ #[.pointer (some ⟨Bk, 0, none⟩)]) W fun e w' => e = .returned (.bool (decide ((p.2 : Int) = k))) ∧ Below W.heap.size W w' := by
  obtain ⟨a, n, c, rfl, hr⟩ := h
  obtain rfl : 2 = n := hr.len
  obtain ⟨z, b, o, v, hz, rfl, hz1, rfl, _⟩ := Sl.at hr (show 1 < 2 by omega)
  have hz2 : z = (p.2 : Int) := by simp [rowP] at hz; exact hz.symm
  subst hz2
  have HBE := Lib.hid (show ((p.2 : Int) == k) = decide ((p.2 : Int) = k) by rw [Bool.eq_iff_iff]; simp)
  simp only [List.append_toArray, List.cons_append, List.nil_append]
  clear hr hz
  go_enter Tryz.func29, Tryz.ntmps29
  go_wp2_with (fail)
  go_quiet (fail)
  go_wp2_with (fail)
  go_ret
  exact ⟨congrArg (fun b => Ending.returned (.bool b)) HBE.out, bdrewN _ _⟩
theorem any29 (l : List (Nat × Nat)) (k : Int) (Bk : Nat) (a : Option Addr) (n c : Nat) (w : World) (h : Rows2 w a n (rowsP l)) (hc : w.cell? ⟨Bk, 0, none⟩ = some (.int .i64 k)) :
    Calls Tryz.prog 25 #[.slice a n c, .func (.func 29) #[] #[.pointer (some ⟨Bk, 0, none⟩)]] w fun e w' => e = .returned (.bool ((rowsP l).any fun r => decide (nth r 1 = k))) ∧ Below w.heap.size w w' :=
  contRows (R := RowR) (fun r => decide (nth r 1 = k)) a n c (rowsP l) _ _ w h (enters_of Tryz.func29 (by kernel_rfl) rfl) (fun W v x hb hr => hr.mono (Nat.le_refl _) hb) (fun x v W hx hb hr => by
    obtain ⟨p, _, rfl⟩ := List.mem_map.1 hx
    exact clo29 p k Bk v W hr (cell_keep hb hc))
end Go.Proofs.YtbahddjbncinbaaGreatDoor
