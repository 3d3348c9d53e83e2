import Derived.Test.YtcmckcmckbdmhaaW20
namespace Go.Proofs.Ytcmckcmckbdmhaa
open Go.RowKit Go.Ap Go.Shelf

theorem List.contains_filter_eq (p : Int → Bool) (xs : List Int) (k : Int) : (xs.filter p).contains k = (xs.contains k && p k) := by
  rw [Bool.eq_iff_iff]; simp [List.mem_filter]

theorem inter23_plain {xs ys : List Int} (hx : SetL xs) : xs.filter (fun k => hasI ys k) = comb (fun x y => x && y) xs ys := by
  refine setL_ext ⟨hx.1.filter _, fun k hk => hx.2 k (List.mem_filter.1 hk).1⟩ (comb_setL _ _ _) fun k => ?_
  rw [comb_contains, List.contains_filter_eq, hasI]
  have := setL_in hx k
  revert this
  cases decide (0 ≤ k ∧ k < 64) <;> cases xs.contains k <;> cases ys.contains k <;> simp

set_option maxRecDepth 100000 in
set_option maxHeartbeats 1000000 in
theorem refinter23 (a b : Option Addr) (n m c d : Nat) (xs ys : List Int) (w : World) (hx : Ints w a n xs) (hy : Ints w b m ys) (hn : n ≤ 1000) :
    Calls Try.prog 23 #[.slice a n c, .slice b m d] w (GivesE w (combR (fun x y => x && y) xs ys) (combE xs ys)) := by
  obtain ⟨i0, hi, hz0, hz1, hz2⟩ := info_parts info3
  have H52 := Lib.hid (bad52 a b n m c d xs ys w hx hy)
  cases hok : okB xs ys
  · have hR : combR (fun x y => x && y) xs ys = [] := by rw [combR, hok]; rfl
    have hE : combE xs ys = 1 := by rw [combE, hok]; rfl
    rw [hR, hE]
    rw [hok] at H52
    clear hR hE hok hx hy
    go_enter Try.func23, Try.ntmps23
    go_wp2_with (fail)
    refine (H52.out).mono ?_
    rintro e w' ⟨rfl, q, rfl⟩
    go_wp2_with (fail)
    go_ret2
    exact ⟨none, 0, 0, rfl, Sl.nil _ _, bdrewN _ _⟩
  · have hsx : SetL xs := (chk_iff xs).1 (by
      have := Bool.and_eq_true_iff.1 hok
      simpa using this.1)
    have hR : combR (fun x y => x && y) xs ys = xs.filter (fun k => hasI ys k) := by rw [combR, hok, inter23_plain hsx]; rfl
    have hE : combE xs ys = 0 := by rw [combE, hok]; rfl
    rw [hR, hE]
    rw [hok] at H52
    have HX := Lib.hid hx
    have HY := Lib.hid hy
    have HL := Lib.hid hx.len
    clear hR hE hok hx hy hsx
    go_enter Try.func23, Try.ntmps23
    go_wp2_with (fail)
    refine (H52.out).mono ?_
    rintro e w' ⟨rfl, q, rfl⟩
    go_wp2_with (fail)
    go_loopw [6, 7] (fun v i wr => ∃ k : Nat, k ≤ n ∧ i = .int .i64 k ∧ Own wr w.heap.size v ((xs.take k).filter (fun k => hasI ys k)) ∧ Below w.heap.size w wr) (fun _ i _ => n - (intOf i).toNat)
    case atStart => exact ⟨0, by omega, rfl, own_empty (w.drewN q) w (Nat.le_refl _), bstep (bdrewN w q) (balloc _ _)⟩
    case round =>
      obtain ⟨k, hk, rfl, ho, hb⟩ := hrel
      have HO := Lib.hid ho
      have HB := Lib.hid hb
      have hsz := hb.size
      have hx1 := HX.out.mono (Nat.le_refl _) hb
      have HX1 := Lib.hid hx1
      have HY1 := Lib.hid (HY.out.mono (Nat.le_refl _) hb)
      have hml : ((xs.take k).filter (fun k => hasI ys k)).length ≤ k := Nat.le_trans (List.length_filter_le _ _) (List.length_take_le _ _)
      clear ho hb
      by_cases hlt : k < n
      · obtain ⟨b1, off, rfl, hc⟩ := Ints.at hx1 (by omega)
        have hcell := hc k hlt
        clear hc hx1
        have ht := take_nth (xs := xs) (k := k) (by rw [HL.out]; exact hlt)
        have H2 := Lib.hid (has53 b m d ys (nth xs k) wr HY1.out)
        cases h2 : hasI ys (nth xs k)
        · rw [h2] at H2
          have HT := Lib.hid (show (xs.take (k + 1)).filter (fun k => hasI ys k) = (xs.take k).filter (fun k => hasI ys k) by rw [ht, List.filter_append]; simp [h2])
          clear ht h2
          go_wp2_with (fail)
          refine (H2.out).mono ?_
          rintro e w' ⟨rfl, rfl⟩
          go_wp2_with (fail)
          exact ⟨⟨k + 1, by omega, by go_num, by rw [HT.out]; exact HO.out, HB.out⟩, by simp [intOf]; omega⟩
        · rw [h2] at H2
          have HT := Lib.hid (show (xs.take (k + 1)).filter (fun k => hasI ys k) = (xs.take k).filter (fun k => hasI ys k) ++ [nth xs k] by rw [ht, List.filter_append]; simp [h2])
          clear ht h2
          go_wp2_with (fail)
          refine (H2.out).mono ?_
          rintro e w' ⟨rfl, rfl⟩
          go_wp2_with (at_builtin; refine wpList_append_own _ rfl _ _ 22 rfl w.heap.size 3 i0 (.int .i64 0) 1 8 Try.underlying22 hi hz0 hz1 hz2 rfl (by decide) _ _ _ rfl (HO.out.alloc _) ⟨wr.heap.size, 0, none⟩ 1 1 [.int .i64 (nth xs k)] rfl rfl (cell_one_new _ _ _) (by simp [Value.oneCell']) (by unfold maxLen; omega) (by omega) (by simp; omega) ?_; intro v1 w1 hown1 hgrow1 _; have HO2 := Lib.hid hown1; have HG := Lib.hid hgrow1; clear hown1 hgrow1)
          exact ⟨⟨k + 1, by omega, by go_num, by rw [HT.out]; exact own_snoc HO2.out, own_grown HB.out hsz HO.out HG.out⟩, by simp [intOf]; omega⟩
      · obtain rfl : k = n := by omega
        rw [List.take_of_length_le (by rw [HL.out]; omega)] at HO
        obtain ⟨ar, cr, rfl, hI⟩ := ints_of_owns HO.out (fun x hx => (Ints.wf HX1.out) x (List.mem_filter.1 hx).1) (by
          have := List.length_filter_le (fun k => hasI ys k) xs
          rw [HL.out] at this
          omega)
        have HI := Lib.hid hI
        clear hI hx1
        go_wp2_with (fail)
        go_ret2
        exact ⟨ar, _, cr, rfl, HI.out, HB.out⟩

theorem minus24_plain {xs ys : List Int} (hx : SetL xs) : xs.filter (fun k => !hasI ys k) = comb (fun x y => x && !y) xs ys := by
  refine setL_ext ⟨hx.1.filter _, fun k hk => hx.2 k (List.mem_filter.1 hk).1⟩ (comb_setL _ _ _) fun k => ?_
  rw [comb_contains, List.contains_filter_eq, hasI]
  have := setL_in hx k
  revert this
  cases decide (0 ≤ k ∧ k < 64) <;> cases xs.contains k <;> cases ys.contains k <;> simp

set_option maxRecDepth 100000 in
set_option maxHeartbeats 1000000 in
theorem refminus24 (a b : Option Addr) (n m c d : Nat) (xs ys : List Int) (w : World) (hx : Ints w a n xs) (hy : Ints w b m ys) (hn : n ≤ 1000) :
    Calls Try.prog 24 #[.slice a n c, .slice b m d] w (GivesE w (combR (fun x y => x && !y) xs ys) (combE xs ys)) := by
  obtain ⟨i0, hi, hz0, hz1, hz2⟩ := info_parts info3
  have H52 := Lib.hid (bad52 a b n m c d xs ys w hx hy)
  cases hok : okB xs ys
  · have hR : combR (fun x y => x && !y) xs ys = [] := by rw [combR, hok]; rfl
    have hE : combE xs ys = 1 := by rw [combE, hok]; rfl
    rw [hR, hE]
    rw [hok] at H52
    clear hR hE hok hx hy
    go_enter Try.func24, Try.ntmps24
    go_wp2_with (fail)
    refine (H52.out).mono ?_
    rintro e w' ⟨rfl, q, rfl⟩
    go_wp2_with (fail)
    go_ret2
    exact ⟨none, 0, 0, rfl, Sl.nil _ _, bdrewN _ _⟩
  · have hsx : SetL xs := (chk_iff xs).1 (by
      have := Bool.and_eq_true_iff.1 hok
      simpa using this.1)
    have hR : combR (fun x y => x && !y) xs ys = xs.filter (fun k => !hasI ys k) := by rw [combR, hok, minus24_plain hsx]; rfl
    have hE : combE xs ys = 0 := by rw [combE, hok]; rfl
    rw [hR, hE]
    rw [hok] at H52
    have HX := Lib.hid hx
    have HY := Lib.hid hy
    have HL := Lib.hid hx.len
    clear hR hE hok hx hy hsx
    go_enter Try.func24, Try.ntmps24
    go_wp2_with (fail)
    refine (H52.out).mono ?_
    rintro e w' ⟨rfl, q, rfl⟩
    go_wp2_with (fail)
    go_loopw [6, 7] (fun v i wr => ∃ k : Nat, k ≤ n ∧ i = .int .i64 k ∧ Own wr w.heap.size v ((xs.take k).filter (fun k => !hasI ys k)) ∧ Below w.heap.size w wr) (fun _ i _ => n - (intOf i).toNat)
    case atStart => exact ⟨0, by omega, rfl, own_empty (w.drewN q) w (Nat.le_refl _), bstep (bdrewN w q) (balloc _ _)⟩
    case round =>
      obtain ⟨k, hk, rfl, ho, hb⟩ := hrel
      have HO := Lib.hid ho
      have HB := Lib.hid hb
      have hsz := hb.size
      have hx1 := HX.out.mono (Nat.le_refl _) hb
      have HX1 := Lib.hid hx1
      have HY1 := Lib.hid (HY.out.mono (Nat.le_refl _) hb)
      have hml : ((xs.take k).filter (fun k => !hasI ys k)).length ≤ k := Nat.le_trans (List.length_filter_le _ _) (List.length_take_le _ _)
      clear ho hb
      by_cases hlt : k < n
      · obtain ⟨b1, off, rfl, hc⟩ := Ints.at hx1 (by omega)
        have hcell := hc k hlt
        clear hc hx1
        have ht := take_nth (xs := xs) (k := k) (by rw [HL.out]; exact hlt)
        have H2 := Lib.hid (has53 b m d ys (nth xs k) wr HY1.out)
        cases h2 : hasI ys (nth xs k)
        · rw [h2] at H2
          have HT := Lib.hid (show (xs.take (k + 1)).filter (fun k => !hasI ys k) = (xs.take k).filter (fun k => !hasI ys k) ++ [nth xs k] by rw [ht, List.filter_append]; simp [h2])
          clear ht h2
          go_wp2_with (fail)
          refine (H2.out).mono ?_
          rintro e w' ⟨rfl, rfl⟩
          go_wp2_with (at_builtin; refine wpList_append_own _ rfl _ _ 22 rfl w.heap.size 3 i0 (.int .i64 0) 1 8 Try.underlying22 hi hz0 hz1 hz2 rfl (by decide) _ _ _ rfl (HO.out.alloc _) ⟨wr.heap.size, 0, none⟩ 1 1 [.int .i64 (nth xs k)] rfl rfl (cell_one_new _ _ _) (by simp [Value.oneCell']) (by unfold maxLen; omega) (by omega) (by simp; omega) ?_; intro v1 w1 hown1 hgrow1 _; have HO2 := Lib.hid hown1; have HG := Lib.hid hgrow1; clear hown1 hgrow1)
          exact ⟨⟨k + 1, by omega, by go_num, by rw [HT.out]; exact own_snoc HO2.out, own_grown HB.out hsz HO.out HG.out⟩, by simp [intOf]; omega⟩
        · rw [h2] at H2
          have HT := Lib.hid (show (xs.take (k + 1)).filter (fun k => !hasI ys k) = (xs.take k).filter (fun k => !hasI ys k) by rw [ht, List.filter_append]; simp [h2])
          clear ht h2
          go_wp2_with (fail)
          refine (H2.out).mono ?_
          rintro e w' ⟨rfl, rfl⟩
          go_wp2_with (fail)
          exact ⟨⟨k + 1, by omega, by go_num, by rw [HT.out]; exact HO.out, HB.out⟩, by simp [intOf]; omega⟩
      · obtain rfl : k = n := by omega
        rw [List.take_of_length_le (by rw [HL.out]; omega)] at HO
        obtain ⟨ar, cr, rfl, hI⟩ := ints_of_owns HO.out (fun x hx => (Ints.wf HX1.out) x (List.mem_filter.1 hx).1) (by
          have := List.length_filter_le (fun k => !hasI ys k) xs
          rw [HL.out] at this
          omega)
        have HI := Lib.hid hI
        clear hI hx1
        go_wp2_with (fail)
        go_ret2
        exact ⟨ar, _, cr, rfl, HI.out, HB.out⟩

end Go.Proofs.Ytcmckcmckbdmhaa
