/-
  The walk of the law's function 37: Of.
-/
import Derived.Test.YtcmckcmckbdmhaaPlain2
namespace Go.Proofs.Ytcmckcmckbdmhaa
open Go.RowKit Go.Ap Go.Shelf Go.Proofs

theorem wide63 (x : Int) (w : World) : Calls Try.prog 63 #[.int .i64 x] w fun e w' => e = .returned (.bool (wideB x)) ∧ w = w' := by
  by_cases h : x < 0
  · have d1 : decide (x < 0) = true := by simpa using h
    go_enter Try.func63, Try.ntmps63
    go_wp2_with (fail)
    go_ret
    exact ⟨ret_b (by simp [wideB, d1]), rfl⟩
  · have d1 : decide (x < 0) = false := by simpa using h
    go_enter Try.func63, Try.ntmps63
    go_wp2_with (fail)
    go_ret
    exact ⟨ret_b (by simp [wideB, d1]), rfl⟩

/-- a sorted own row, compacted -/
theorem compact64 (base : Nat) (v : Value) (xs : List Int) (w : World) (hx : ∀ x ∈ xs, I64 x) (hl : xs.length ≤ 1000) (hrow : w.ownsRow base 3 1 v xs.length ((srt xs).map (Value.int .i64))) :
    ∃ a c, v = .slice a xs.length c ∧ Calls Try.prog 64 #[.slice a xs.length c] w fun e w' => ∃ a' n' c', e = .returned (.slice a' n' c') ∧ Ints w' a' n' (Go.Lib.compact (srt xs)) ∧ (base ≤ w.heap.size → Below base w w') := by
  rcases hrow.2 with ⟨rfl, hz⟩ | ⟨gb, cap, cur, rfl, hbase, hgb, r1, r2, r3, r4⟩
  · have hss : xs = [] := List.eq_nil_of_length_eq_zero hz
    subst hss
    refine ⟨none, 0, rfl, (Try.slices_Compact_int_empty none 0 w).mono ?_⟩
    rintro e w' ⟨rfl, rfl⟩
    have : Go.Lib.compact (srt []) = [] := by simp [srt, Go.Lib.compact, Go.Lib.compactUpTo]
    exact ⟨none, 0, 0, rfl, by rw [this]; exact Sl.nil _ _, fun _ => Below.refl _ _⟩
  · have hls : (srt xs).length = xs.length := by simp [srt]
    have hH : Go.Sort.Holds (Value.int .i64) w gb 0 (srt xs).toArray := holds_of_block_i hgb (by rw [hls]; simpa using r4)
    have hcl : (Go.Lib.compact (srt xs)).length ≤ xs.length := by
      rw [← hls, Go.Lib.compact, Go.Lib.compactUpTo, List.length_map]
      exact Nat.le_trans (List.length_filter_le _ _) (by simp)
    have h64 := Try.slices_Compact_int gb 0 cap (srt xs) w hH (by omega) (by omega)
    rw [hls] at h64
    refine ⟨_, cap, rfl, h64.mono ?_⟩
    rintro e w' ⟨rfl, q, rfl⟩
    have hg := ownsRow_sorted_i (os := #[]) (n := q) (ts := Go.Lib.compact (srt xs) ++ List.replicate (xs.length - (Go.Lib.compact (srt xs)).length) 0) (ss := xs) (by simp; omega) hbase hgb r1 r2 r3
    rw [Go.Sort.grow_empty] at hg
    refine ⟨_, _, _, rfl, ⟨rfl, by omega, fun k x hk => ?_⟩, fun hb => ?_⟩
    · have hkl : k < (Go.Lib.compact (srt xs)).length := (List.getElem?_eq_some_iff.1 hk).1
      have hc := hg.cells (g := gb) rfl k (.int .i64 x) (by rw [List.getElem?_map, List.getElem?_append_left hkl, hk]; rfl)
      have hadd : (⟨gb, 0, none⟩ : Addr).add k = ⟨gb, 0 + k, none⟩ := by unfold Addr.add; split <;> simp_all
      rw [hadd] at hc
      have hmem : x ∈ xs := List.mem_mergeSort.1 (((compact_sorted (srt xs) (srt_sorted xs)).2 x).1 (List.mem_of_getElem? hk))
      exact ⟨gb, 0, _, rfl, hc, rfl, hx x hmem⟩
    · have hgr := grownBy_sorted_i (w := w) (g := gb) (n := q) (os := #[]) (Go.Lib.compact (srt xs) ++ List.replicate (xs.length - (Go.Lib.compact (srt xs)).length) 0).toArray
      rw [Go.Sort.grow_empty] at hgr
      exact (Below.refl base w).grown hgr hb (fun j hj => by cases hj; exact hbase)

theorem of37 (a : Option Addr) (n c : Nat) (xs : List Int) (w : World) (hx : Ints w a n xs) (hn : n ≤ 1000) :
    Calls Try.prog 37 #[.slice a n c] w (GivesE w (ofR xs) (ofE xs)) := by
  have H32 := contf32 wideB a n c xs 63 #[] w hx (enters_of Try.func63 (by kernel_rfl) rfl) (by
    rintro q x v hx ⟨rfl, _⟩
    exact (wide63 x (w.drewN q)).mono (by rintro e w' ⟨rfl, rfl⟩; exact ⟨rfl, 0, rfl⟩))
  have HX := Lib.hid hx
  have HXL := Lib.hid hx.len
  have HWF := Lib.hid hx.wf
  cases h : xs.any wideB
  · have hR : ofR xs = Go.Lib.compact (srt xs) := by rw [ofR, h, of_plain xs h]; rfl
    have hE : ofE xs = 0 := by rw [ofE, h]; rfl
    rw [hR, hE]
    rw [h] at H32
    have H32 := Lib.hid H32
    clear hR hE h hx
    go_enter Try.func37, Try.ntmps37
    go_wp2_with (fail)
    refine (H32.out).mono ?_
    rintro e w' ⟨rfl, q, rfl⟩
    go_wp2_with (fail)
    refine (values66 a n c _).mono ?_
    rintro e w1 ⟨rfl, hw1⟩
    have hb1 : Below w.heap.size w w1 := by rw [hw1]; exact bstep (bdrewN w q) (balloc _ _)
    have hc1 : w1.cell? ⟨w.heap.size, 0, none⟩ = some (.slice a n c) := by rw [hw1]; exact cell_fresh rfl rfl
    have HB1 := Lib.hid hb1
    have H65 := Lib.hid (sorted65 75 #[.pointer (some ⟨w.heap.size, 0, none⟩)] xs w1 (by rw [HXL.out]; unfold maxLen; omega) (by rw [HXL.out]; omega) (enters_of Try.func75 (by kernel_rfl) rfl) (values_stops w.heap.size a n c xs w1 (HX.out.mono (Nat.le_refl _) hb1) hc1))
    clear hw1 hb1 hc1
    go_wp2_with (fail)
    refine (H65.out).mono ?_
    rintro e w2 ⟨v, rfl, hrow, hb2⟩
    obtain ⟨a2, c2, rfl, h64⟩ := compact64 w1.heap.size v xs w2 HWF.out (by rw [HXL.out]; exact hn) hrow
    have H64 := Lib.hid h64
    have HB2 := Lib.hid hb2
    clear hrow h64 hb2
    go_wp2_with (fail)
    refine (H64.out).mono ?_
    rintro e w3 ⟨a3, n3, c3, rfl, hi3, hb3⟩
    have HI3 := Lib.hid hi3
    have HB3 := Lib.hid (bstep HB1.out (HB2.out.trans (hb3 HB2.out.size)))
    clear hi3 hb3
    go_wp2_with (fail)
    go_ret2
    exact ⟨a3, n3, c3, rfl, HI3.out, HB3.out⟩
  · have hR : ofR xs = [] := by rw [ofR, h]; rfl
    have hE : ofE xs = 2 := by rw [ofE, h]; rfl
    rw [hR, hE]
    rw [h] at H32
    have H32 := Lib.hid H32
    clear hR hE h hx
    go_enter Try.func37, Try.ntmps37
    go_wp2_with (fail)
    refine (H32.out).mono ?_
    rintro e w' ⟨rfl, q, rfl⟩
    go_wp2_with (fail)
    go_ret2
    exact ⟨none, 0, 0, rfl, Sl.nil _ _, bdrewN _ _⟩

end Go.Proofs.Ytcmckcmckbdmhaa
