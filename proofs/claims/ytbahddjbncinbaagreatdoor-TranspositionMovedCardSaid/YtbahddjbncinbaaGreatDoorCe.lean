/-
  Chain of both sides; which pairs belong to the chain, of the reference.
-/
import Derived.Test.YtbahddjbncinbaaGreatDoorTl
namespace Go.Ap
open Go Go.RowKit
def tkB (T : List Bool) (k : Nat) : Bool := T.getD k false
/-- block B holds just these bools -/
def ArrB (W : World) (B : Nat) (T : List Bool) : Prop := W.heap[B]? = some (.cells (T.map Value.bool).toArray 4 (0, 0))
section
variable {W W' : World} {B : Nat} {T : List Bool}
theorem ArrB.lt (h : ArrB W B T) : B < W.heap.size := (Array.getElem?_eq_some_iff.1 h).1
theorem ArrB.cell (h : ArrB W B T) {k : Nat} (hk : k < T.length) : W.cell? ⟨B, k, none⟩ = some (.bool (tkB T k)) := by
  simp [World.cell?, show W.heap[B]? = _ from h, hk, tkB]
theorem ArrB.free (h : ArrB W B T) (k : Nat) : W.frozen? ⟨B, k, none⟩ = false := by simp [World.frozen?, show W.heap[B]? = _ from h]
theorem ArrB.set (h : ArrB W B T) (k : Nat) (v : Bool) : ArrB (W.setCell ⟨B, k, none⟩ (.bool v)) B (T.set k v) := by
  obtain ⟨hlt, hk⟩ := Array.getElem?_eq_some_iff.1 h
  show (W.heap.modify B _)[B]? = _
  rw [Array.getElem?_eq_getElem (by rw [Array.size_modify]; exact hlt), Array.getElem_modify_self, hk]
  simp [List.map_set]
theorem ArrB.kept (h : ArrB W B T) (hb : Below W.heap.size W W') : ArrB W' B T := (hb.block B h.lt).trans h
end
theorem made_bools (n : Nat) : madeCells #[Value.bool false] n = ((List.replicate n false).map Value.bool).toArray := by
  apply Array.ext_getElem?
  intro i
  simp [madeCells, Nat.mod_one]
  by_cases h : i < n
  · simp [h]
  · simp [h]
/-- which of n indices are among the first j of L -/
def hasB (L : List Nat) (n j : Nat) : List Bool := (List.range n).map fun i => (L.take j).contains i
theorem hasB_len (L : List Nat) (n j : Nat) : (hasB L n j).length = n := by simp [hasB]
theorem hasB_zero (L : List Nat) (n : Nat) : hasB L n 0 = List.replicate n false := by
  apply List.ext_getElem <;> simp [hasB]
theorem hasB_at {L : List Nat} {n j i : Nat} (h : i < n) : tkB (hasB L n j) i = (L.take j).contains i := by simp [hasB, tkB, h]
theorem hasB_set {L : List Nat} {n j k : Nat} (h : L[j]? = some k) : (hasB L n j).set k true = hasB L n (j + 1) := by
  apply List.ext_getElem
  · simp [hasB]
  · intro i h1 h2
    simp only [List.getElem_set, hasB, List.getElem_map, List.getElem_range, List.take_add_one, h, Option.toList_some]
    by_cases hki : k = i
    · subst hki; simp
    · rw [if_neg hki]
      rw [Bool.eq_iff_iff, List.contains_iff_mem, List.contains_iff_mem, List.mem_append, List.mem_singleton]
      constructor
      · exact .inl
      · rintro (h | h)
        · exact h
        · exact absurd h.symm hki
end Go.Ap
namespace Go.Proofs.YtbahddjbncinbaaGreatDoor
open Go.RowKit Go.Ap Go.Shelf Go.Proofs

attribute [local go_sem] Oper.semAt_some bs_toList empty_toList bs_size bs_extract
theorem make_bools (n : Nat) (hn : n ≤ 1048576) (w : World) : (Instr.makeSlice 71 (.int .i64 n) (.int .i64 n)).run Tryz.prog w = .ok (.slice (some ⟨w.heap.size, 0, none⟩) n n) (w.alloc (.cells (Array.replicate n (.bool false)) 4)) := by
  obtain ⟨i4, hi4, hz0, hz1, hz2⟩ := info_parts infoBool
  have h := run_make_row (P := Tryz.prog) 71 4 i4 (.bool false) Tryz.underlying71 hi4 hz0 hz1 rfl .i64 .i64 n (by rw [hz2]; omega) (by omega) w
  rw [made_bools, show ((List.replicate n false).map Value.bool).toArray = Array.replicate n (.bool false) by simp] at h
  exact h
set_option maxRecDepth 100000 in
set_option maxHeartbeats 8000000 in
theorem chainedR (l : List (Nat × Nat)) (a : Option Addr) (n c : Nat) (w : World) (h : Rows2 w a n (rowsP l)) (hn : n ≤ 1024) :
    Calls Tryz.prog 55 #[.slice a n c] w fun e w' => ∃ S, e = .returned (.slice (some ⟨S, 0, none⟩) n n) ∧ ArrB w' S (hasB (incF (secsL l)) n (incF (secsL l)).length) ∧ Below w.heap.size w w' := by
  obtain ⟨i9, hi9, hy0, hy1, hy2⟩ := info_parts infoInt
  have hl : l.length = n := by have := h.len; rwa [rowsP_len] at this
  have HX := Lib.hid h
  have HIN := Lib.hid (fun W a1 c1 (h1 : Ints W a1 n (secsL l)) => incR (secsL l) a1 n c1 W h1 hn)
  have HL := Lib.hid hl
  have hil : (incF (secsL l)).length ≤ n := by
    have h1 := in_len l
    have h2 := in_out_len l
    omega
  have HLT := Lib.hid (show ∀ k ∈ incF (secsL l), k < n from fun k hk => by have := incF_lt hk; rwa [secs_len, hl] at this)
  have hmk := make_bools n (by omega)
  have HMK := Lib.hid hmk
  clear h hmk
  go_enter Tryz.func55, Tryz.ntmps55
  go_wp2_with (fail)
  go_loopw [3, 4] (fun ov iv wr => ∃ i : Nat, i ≤ n ∧ iv = .int .i64 i ∧ OwnI 3 wr w.heap.size ov (secsL (l.take i)) ∧ Below w.heap.size w wr) (fun _ iv _ => n - (intOf iv).toNat)
  case atStart => exact ⟨0, Nat.zero_le _, rfl, ⟨World.ownsRow_nil _ _ _ _, by simp [secsL]⟩, Below.refl _ _⟩
  case round =>
    obtain ⟨wi, rfl⟩ : ∃ wi : World, wi = wr := ⟨_, rfl⟩
    obtain ⟨i, hi, rfl, ho, hb⟩ := hrel
    have HB := Lib.hid hb
    have HO := Lib.hid ho
    have hsz := hb.size
    clear ho
    by_cases hin : i < n
    · obtain ⟨row, b1, o1, v1, hx, rfl, hc1, ar, nr, kr, rfl, hr⟩ := HX.out.at hin
      obtain ⟨p, hp, rfl⟩ : ∃ p, l[i]? = some p ∧ rowP p = row := by
        unfold rowsP at hx
        rw [List.getElem?_map] at hx
        exact Option.map_eq_some_iff.1 hx
      obtain rfl : 2 = nr := hr.len
      obtain ⟨z, b3, o3, z1, hz, rfl, hz1, rfl, hi64⟩ := Sl.at hr (show 1 < 2 by omega)
      have hz2 : z = (p.2 : Int) := by simp [rowP] at hz; exact hz.symm
      subst hz2
      have HS := Lib.hid (show secsL (l.take (i + 1)) = secsL (l.take i) ++ [(p.2 : Int)] by rw [List.take_add_one, hp]; simp [secsL])
      have HW := Lib.hid hi64
      have v1 := cell_keep hb hc1
      have v2 := cell_keep hb hz1
      have i1 : (i : Int) < (n : Int) := by omega
      have hql : (secsL (l.take i)).length = i := by rw [secs_len, List.length_take, HL.out]; omega
      have HQL := Lib.hid hql
      have HOW := Lib.hid (show wi.ownsRow w.heap.size 3 1 _ i ((secsL (l.take i)).map (Value.int .i64)) by have := HO.out.1; rwa [hql] at this)
      clear hx hp hr hz hz1 hc1 hql hb hi64
      go_wp2_with (at_builtin; refine wpList_append_own _ rfl _ _ 29 rfl w.heap.size 3 i9 (.int .i64 0) 1 8 Tryz.underlying29 hi9 hy0 hy1 hy2 rfl (by decide) _ _ _ rfl (HOW.out.alloc _) ⟨wi.heap.size, 0, none⟩ 1 1 [.int .i64 (p.2 : Int)] rfl rfl (cell_one_new _ _ _) (by simp [Value.oneCell']) (by unfold maxLen; omega) (by omega) (by simp; omega) ?_; intro v1 w4 hown1 hgrow1 _; have HO3 := Lib.hid hown1; have HG := Lib.hid hgrow1; clear hown1 hgrow1)
      obtain ⟨j1, j2⟩ := OwnI.pushed (x := (p.2 : Int)) HO.out HW.out hsz (by rw [HQL.out]; exact HO3.out) HG.out
      go_roundw
      case rel => exact ⟨i + 1, by omega, by simp, by rw [HS.out]; exact j1, HB.out.trans j2⟩
      case measure => simp [intOf]; omega
    · obtain rfl : n = i := by omega
      have ho := HO.out
      rw [show l.take n = l from List.take_of_length_le (by rw [HL.out]; exact Nat.le_refl _)] at ho
      obtain ⟨as1, ks1, rfl, hs1⟩ := ho.ints (by rw [secs_len]; omega)
      rw [secs_len, hl] at hs1 ⊢
      have HS1 := Lib.hid hs1
      clear hb ho hs1 HO
      go_wp2_with (fail)
      refine (HIN.out _ _ _ HS1.out).mono ?_
      rintro e w2 ⟨v, rfl, ho, hb2⟩
      obtain ⟨aa, ka, rfl, hia⟩ := ho.ints (by rw [castL_len]; omega)
      rw [castL_len] at hia ⊢
      have HB2 := Lib.hid (bstep HB.out hb2)
      have HIA := Lib.hid hia
      obtain ⟨L, hL⟩ : ∃ L, incF (secsL l) = L := ⟨_, rfl⟩
      have HLL := Lib.hid hL
      rw [hL] at HIA hil HLT ⊢
      obtain ⟨S, hS⟩ : ∃ S, w2.heap.size = S := ⟨_, rfl⟩
      have HA0 := Lib.hid (show ArrB (w2.alloc (.cells (Array.replicate n (.bool false)) 4)) S (hasB L n 0) by rw [hasB_zero, ArrB, show ((List.replicate n false).map Value.bool).toArray = Array.replicate n (.bool false) by simp]; exact heap_fresh hS.symm)
      have HB3 := Lib.hid (balloc w2 (.cells (Array.replicate n (.bool false)) 4))
      have HSS := Lib.hid hS
      have hmk := HMK.out
      clear ho hb2 hia hS HIN HS1 hL
      go_wp2_with (fail)
      rw [HSS.out]
      clear hmk
      go_loopw [8] (fun jv wr => ∃ j : Nat, j ≤ L.length ∧ jv = .int .i64 j ∧ ArrB wr S (hasB L n j) ∧ Below w2.heap.size w2 wr) (fun jv _ => L.length - (intOf jv).toNat)
      case atStart => exact ⟨0, Nat.zero_le _, rfl, HA0.out, HB3.out⟩
      case round =>
        obtain ⟨wj, rfl⟩ : ∃ wj : World, wj = wr := ⟨_, rfl⟩
        obtain ⟨j, hj, rfl, ha, hb⟩ := hrel
        by_cases hjn : j < L.length
        · obtain ⟨b, o, rfl, hc⟩ := HIA.out.at (show 0 < L.length by omega)
          have hk : L[j]? = some L[j] := List.getElem?_eq_getElem hjn
          have hkn : L[j] < n := HLT.out _ (List.getElem_mem hjn)
          have c1 := cell_keep hb (hc j hjn)
          rw [show nth (castL L) j = ((L[j] : Nat) : Int) by simp [castL, nth, hjn]] at c1
          obtain ⟨k, hkk⟩ : ∃ k, L[j] = k := ⟨_, rfl⟩
          rw [hkk] at hk hkn c1
          have fs := ha.free k
          have cs := ha.cell (k := k) (by rw [hasB_len]; exact hkn)
          have HAS := Lib.hid (show ArrB (wj.setCell ⟨S, k, none⟩ (.bool true)) S (hasB L n (j + 1)) by have := ha.set k true; rwa [hasB_set hk] at this)
          have HBS := Lib.hid (show Below w2.heap.size w2 (wj.setCell ⟨S, k, none⟩ (.bool true)) from hb.setCell (p := ⟨S, k, none⟩) (by simp [HSS.out]) _)
          have i1 : (j : Int) < ((L.length : Nat) : Int) := by omega
          have i2 : (k : Int) < (n : Int) := by omega
          clear ha hb hc hk hkk
          go_wp2_with (fail)
          go_roundw
          case rel => exact ⟨j + 1, by omega, by simp, HAS.out, HBS.out⟩
          case measure => simp [intOf]; omega
        · have hjl : j = L.length := by omega
          have HA := Lib.hid ha
          have HB4 := Lib.hid hb
          subst hjl
          clear ha hb
          go_wp2_with (fail)
          go_ret
          exact ⟨S, rfl, by rw [HLL.out]; exact HA.out, bstep HB2.out HB4.out⟩
end Go.Proofs.YtbahddjbncinbaaGreatDoor
