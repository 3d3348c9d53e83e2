/-
  slices.Grow of a nil slice, and slices.Concat of rows of ints.
-/
import Derived.Test.YtbcnbchpcbglhaaL8
import Derived.Lib.AppendZeros
namespace Go.Proofs.Ytbcnbchpcbglhaa
open Go.RowKit Go.Ap Go.Shelf Go.Proofs

def GivesOwn (t : TypeId) (w : World) (xs : List Value) (e : Ending) (w' : World) : Prop := ∃ v, e = .returned v ∧ w'.ownsRow w.heap.size t 1 v xs.length xs ∧ Below w.heap.size w w'

theorem grown_zeros {t : TypeId} {z : Value} (hz : z.cells = #[z]) (w : World) (n : Nat) (hn : n ≤ maxLen) :
    (w.drew.alloc (.cells (Builtin.zeroCells z.cells n ++ Builtin.zeroCells z.cells (grownCap w n 0 t - n)) t)).ownsRow w.heap.size t 1 (.slice (some ⟨w.heap.size, 0, none⟩) 0 (grownCap w n 0 t)) 0 [] := by
  have h1 := grownCap_ge w n 0 t
  refine ⟨rfl, .inr ⟨w.heap.size, _, _, rfl, Nat.le_refl _, heap_alloc_new w.drew _, Nat.zero_le _, grownCap_le_maxLen w n 0 t hn, ?_, by simp⟩⟩
  rw [Array.size_append, size_zeroCells, size_zeroCells, hz]
  simp
  omega

set_option maxHeartbeats 1000000 in
theorem grow60 (n : Nat) (w : World) (hn : n ≤ 100000) :
    Calls Try.prog 60 #[.slice none 0 0, .int .i64 n] w (GivesOwn 3 w []) := by
  obtain ⟨i0, hi, hz0, hz1, hz2⟩ := info_parts info3
  by_cases h0 : n = 0
  · subst h0
    go_enter Try.func60, Try.ntmps60
    go_wp2_with (fail)
    go_ret
    exact ⟨_, rfl, World.ownsRow_nil _ _ _ _, Below.refl _ _⟩
  · have hp : 0 < n := by omega
    have d1 : decide (0 < (n : Int)) = true := by simp; omega
    have d2 : decide (0 < n) = true := by simpa using hp
    have d3 : decide ((n : Int) < 0) = false := by simp
    have HO := Lib.hid (grown_zeros (t := 3) (z := .int .i64 0) rfl w n (by unfold maxLen; omega))
    have hbw : Below w.heap.size w (w.drew.alloc (.cells (Builtin.zeroCells (Value.int .i64 0).cells n ++ Builtin.zeroCells (Value.int .i64 0).cells (grownCap w n 0 3 - n)) 3)) := bstep (Below.refl _ _).drew (balloc _ _)
    have HBW := Lib.hid hbw
    have hrun := Lib.run_append_nil_zeros (P := Try.prog) w 23 3 23 3 i0 (.int .i64 0) .i64 .i64 Try.underlying23 Try.underlying3 hi hz0 n hp (by omega) (by omega) (by rw [hz2]; omega)
    obtain ⟨cp, hcp⟩ : ∃ cp, grownCap w n 0 3 = cp := ⟨_, rfl⟩
    obtain ⟨W1, hW1⟩ : ∃ W1, w.drew.alloc (.cells (Builtin.zeroCells (Value.int .i64 0).cells n ++ Builtin.zeroCells (Value.int .i64 0).cells (grownCap w n 0 3 - n)) 3) = W1 := ⟨_, rfl⟩
    rw [hW1] at HO HBW
    rw [hW1] at hrun
    rw [hcp] at HO hrun
    have HR := Lib.hid hrun
    clear hbw hrun hW1 hcp h0
    go_enter Try.func60, Try.ntmps60
    go_wp2_with (at_builtin; refine Lib.wpList_append_run _ rfl _ _ 23 3 rfl _ _ rfl rfl _ _ HR.out ?_)
    go_ret
    exact ⟨_, rfl, HO.out, HBW.out⟩

theorem owns_slice {w : World} {base n : Nat} {e : TypeId} {v : Value} {xs : List Value} (h : w.ownsRow base e 1 v n xs) : ∃ a c, v = .slice a n c := by
  rcases h.2 with ⟨h1, h2⟩ | ⟨g, cap, cur, h1, _⟩
  · exact ⟨none, 0, by rw [h1, h2]⟩
  · exact ⟨_, _, h1⟩
/-- the cells of a slice of ints -/
theorem ints_cells {w : World} {b o n : Nat} {xs : List Int} (h : Ints w (some ⟨b, o, none⟩) n xs) : ∀ j u, (xs.map (Value.int .i64))[j]? = some u → w.cell? ((⟨b, o, none⟩ : Addr).add j) = some u := by
  intro j u hu
  rw [List.getElem?_map] at hu
  obtain ⟨x, hx, rfl⟩ := Option.map_eq_some_iff.1 hu
  obtain ⟨b', o', v, ha, hc, rfl, _⟩ := h.cells j x hx
  cases ha
  have hadd : (⟨b, o, none⟩ : Addr).add j = ⟨b, o + j, none⟩ := by unfold Addr.add; split <;> simp_all
  rw [hadd]; exact hc

/-- the lengths of rows, added -/
def lens (xss : List (List Int)) : Nat := xss.flatten.length
theorem lens_take {xss : List (List Int)} {k : Nat} (hk : k < xss.length) : (xss.take (k + 1)).flatten = (xss.take k).flatten ++ row xss k := by
  rw [List.take_succ_eq_append_getElem hk, List.flatten_append, row_eq hk]; simp
theorem take_flat_le (xss : List (List Int)) (k : Nat) : (xss.take k).flatten.length ≤ xss.flatten.length := by
  conv => rhs; rw [← List.take_append_drop k xss]
  rw [List.flatten_append, List.length_append]; omega

set_option maxHeartbeats 2000000 in
theorem concat43 (a : Option Addr) (n c : Nat) (xss : List (List Int)) (w : World) (h : Rows2 w a n xss) (hl : xss.flatten.length ≤ 100000) (hne : ∀ xs ∈ xss, 0 < xs.length) :
    Calls Try.prog 43 #[.slice a n c] w (GivesOwn 3 w (xss.flatten.map (Value.int .i64))) := by
  obtain ⟨i0, hi, hz0, hz1, hz2⟩ := info_parts info3
  have HL := Lib.hid h.len
  have hsm := h.small
  have HH := Lib.hid h
  have HNE := Lib.hid hne
  have HLE := Lib.hid (take_flat_le xss)
  clear h hne
  go_enter Try.func43, Try.ntmps43
  go_wp2_with (fail)
  go_loop [3, 11] (fun s i => ∃ k : Nat, k ≤ n ∧ i = .int .i64 k ∧ s = .int .i64 ((xss.take k).flatten.length : Nat)) (fun _ i => n - (intOf i).toNat)
  case atStart => exact ⟨0, by omega, rfl, rfl⟩
  case round =>
    obtain ⟨k, hk, rfl, rfl⟩ := hrel
    by_cases hlt : k < n
    · obtain ⟨b1, o1, rfl, hc1⟩ := Rows2.all HH.out (by omega)
      obtain ⟨a1, n1, c1, hcell1, hI1⟩ := hc1 k hlt
      have hs := lens_take (xss := xss) (k := k) (by rw [HL.out]; exact hlt)
      have hlen : (xss.take (k + 1)).flatten.length = (xss.take k).flatten.length + n1 := by rw [hs, List.length_append, hI1.len]
      have hle := HLE.out (k + 1)
      have HLEN := Lib.hid hlen
      rw [hlen] at hle
      generalize (xss.take k).flatten.length = l at *
      clear hc1 hI1 hs hlen
      go_wp2_with (fail)
      go_round
      case rel => exact ⟨k + 1, by omega, by go_num, by rw [HLEN.out]; go_num⟩
      case measure => simp [intOf]; omega
    · obtain rfl : n = k := by omega
      have HT := Lib.hid (show xss.take n = xss from List.take_of_length_le (by rw [HL.out]; omega))
      have hG := grow60 xss.flatten.length w hl
      rw [← HT.out] at hG
      generalize hlq : (xss.take n).flatten.length = lq at *
      have HLQ := Lib.hid hlq
      have HG := Lib.hid hG
      clear hG hlq
      go_wp2_with (fail)
      refine (HG.out).mono ?_
      rintro e w1 ⟨v, rfl, hown, hb⟩
      have hv : ∃ a0 c0, v = .slice a0 0 c0 := by
        rcases hown.2 with ⟨rfl, _⟩ | ⟨g, cap, cur, rfl, _⟩ <;> exact ⟨_, _, rfl⟩
      obtain ⟨a0, c0, rfl⟩ := hv
      have HO := Lib.hid hown
      have HB := Lib.hid hb
      clear hown hb
      go_wp2_with (fail)
      go_loopw [6, 27] (fun v i wr => ∃ k : Nat, k ≤ n ∧ i = .int .i64 k ∧ wr.ownsRow w.heap.size 3 1 v (xss.take k).flatten.length ((xss.take k).flatten.map (Value.int .i64)) ∧ Below w.heap.size w wr) (fun _ i _ => n - (intOf i).toNat)
      case atStart => exact ⟨0, by omega, rfl, HO.out, HB.out⟩
      case round =>
        clear HO HB
        obtain ⟨k, hk, rfl, ho, hb⟩ := hrel
        have HO := Lib.hid ho
        have HB := Lib.hid hb
        have hsz := hb.size
        clear ho
        by_cases hlt : k < n
        · obtain ⟨b1, o1, rfl, hc1⟩ := Rows2.all (HH.out.mono (Nat.le_refl _) hb) (by omega)
          obtain ⟨a1, n1, c1, hcell1, hI1⟩ := hc1 k hlt
          have hkl : k < xss.length := by rw [HL.out]; exact hlt
          have hn1 : 0 < n1 := by rw [← hI1.len]; exact HNE.out _ (row_mem hkl)
          obtain ⟨b2, o2, rfl, _⟩ := Ints.at hI1 hn1
          have HCELLS := Lib.hid (ints_cells hI1)
          have HRL := Lib.hid hI1.len
          have hs := lens_take (xss := xss) (k := k) hkl
          have HS := Lib.hid hs
          have hle := HLE.out (k + 1)
          rw [hs, List.length_append, hI1.len] at hle
          generalize hfl : (xss.take k).flatten = fl at *
          clear hc1 hI1 hs hfl hb
          go_wp2_with (at_builtin; refine wpList_append_own _ rfl _ _ 23 rfl w.heap.size 3 i0 (.int .i64 0) 1 8 Try.underlying23 hi hz0 hz1 hz2 rfl (by decide) _ _ _ rfl HO.out ⟨b2, o2, none⟩ n1 c1 ((row xss k).map (Value.int .i64)) rfl (by rw [List.length_map, HRL.out, Nat.mul_one]) HCELLS.out (by intro u hu; obtain ⟨x, _, rfl⟩ := List.mem_map.1 hu; rfl) (by unfold maxLen; omega) (by omega) (by omega) ?_; intro v1 w4 hown1 hgrow1 _; have HO2 := Lib.hid hown1; have HG := Lib.hid hgrow1; clear hown1 hgrow1)
          go_roundw
          case rel => exact ⟨k + 1, by omega, by go_num, by rw [HS.out, List.length_append, List.map_append, HRL.out]; exact HO2.out, HB.out.grown HG.out hsz (fun j hj => (HO.out.lt j hj).1)⟩
          case measure => simp [intOf]; omega
        · obtain rfl : n = k := by omega
          have ho := HO.out
          rw [HT.out] at ho
          obtain ⟨a0, c0, rfl⟩ := owns_slice ho
          have HO3 := Lib.hid ho
          clear ho
          go_wp2_with (fail)
          go_ret
          exact ⟨_, rfl, by rw [List.length_map]; exact HO3.out, HB.out⟩

end Go.Proofs.Ytbcnbchpcbglhaa
