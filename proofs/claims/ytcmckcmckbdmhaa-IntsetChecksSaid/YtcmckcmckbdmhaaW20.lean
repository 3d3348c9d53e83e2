import Derived.Test.YtcmckcmckbdmhaaL5
namespace Go.Proofs.Ytcmckcmckbdmhaa
open Go.RowKit Go.Ap Go.Shelf

theorem drop_nth {xs : List Int} {k : Nat} (h : k < xs.length) : xs.drop k = nth xs k :: xs.drop (k + 1) := by
  rw [nth_eq h]; exact List.drop_eq_getElem_cons h
theorem take_nth {xs : List Int} {k : Nat} (h : k < xs.length) : xs.take (k + 1) = xs.take k ++ [nth xs k] := by
  rw [nth_eq h, List.take_succ_eq_append_getElem h]

/-- membership, under a name that the walk leaves alone -/
def hasI (xs : List Int) (x : Int) : Bool := xs.contains x

set_option maxHeartbeats 400000 in
theorem has53 (a : Option Addr) (n c : Nat) (xs : List Int) (x : Int) (w : World) (h : Ints w a n xs) :
    Calls Try.prog 53 #[.slice a n c, .int .i64 x] w fun e w' => e = .returned (.bool (hasI xs x)) ∧ w = w' := by
  have HL := Lib.hid h.len
  have hsm := h.small
  go_enter Try.func53, Try.ntmps53
  go_wp2
  go_loop [5] (fun i => ∃ k : Nat, k ≤ n ∧ i = .int .i64 k ∧ hasI (xs.drop k) x = hasI xs x) (fun i => n - (intOf i).toNat)
  case atStart => exact ⟨0, by omega, rfl, rfl⟩
  case round =>
    obtain ⟨k, hk, rfl, hch⟩ := hrel
    have HC := Lib.hid hch
    clear hch
    by_cases hlt : k < n
    · obtain ⟨b, off, rfl, hc⟩ := Ints.at h (by omega)
      have hcell := hc k hlt
      clear hc
      have hd := drop_nth (xs := xs) (k := k) (by rw [HL.out]; exact hlt)
      have HD := Lib.hid hd
      clear hd
      by_cases hx : nth xs k = x
      · have hb : (nth xs k == x) = true := by simpa using hx
        have HX := Lib.hid hx
        clear hx
        go_wp2
        go_ret
        exact ⟨ret_b (by rw [← HC.out, HD.out, HX.out, hasI]; simp), rfl⟩
      · have hb : (nth xs k == x) = false := by simpa using hx
        have HX := Lib.hid hx
        clear hx
        go_wp2
        exact ⟨⟨k + 1, by omega, by go_num, by
          rw [← HC.out, HD.out, hasI, hasI, List.contains_cons]
          rw [show (x == nth xs k) = false by rw [beq_eq_false_iff_ne]; exact fun h => HX.out h.symm, Bool.false_or]⟩, by simp [intOf]; omega⟩
    · go_wp2
      go_ret
      exact ⟨ret_b (by rw [← HC.out, List.drop_eq_nil_of_le (by rw [HL.out]; omega)]; rfl), rfl⟩

theorem bad52 (a b : Option Addr) (n m c d : Nat) (xs ys : List Int) (w : World) (hx : Ints w a n xs) (hy : Ints w b m ys) :
    Calls Try.prog 52 #[.slice a n c, .slice b m d] w fun e w' => e = .returned (.bool (!okB xs ys)) ∧ ∃ q, w' = w.drewN q := by
  have H1 := Lib.hid (refcheck_any a n c xs w hx)
  have H2 := Lib.hid (fun q => refcheck_any b m d ys (w.drewN q) hy.drewN)
  by_cases h1 : chk xs = 0
  · have hb : (chk xs != 0) = false := by simpa using h1
    have ho : (!okB xs ys) = (chk ys != 0) := by rw [okB, h1]; simp [bne]
    have HO := Lib.hid ho
    clear h1 ho
    go_enter Try.func52, Try.ntmps52
    go_wp2_with (fail)
    refine (H1.out).mono ?_
    rintro e w' ⟨rfl, q, rfl⟩
    go_wp2_with (fail)
    refine (H2.out q).mono ?_
    rintro e w' ⟨rfl, r, rfl⟩
    go_wp2_with (fail)
    go_ret
    exact ⟨ret_b HO.out.symm, _, rfl⟩
  · have hb : (chk xs != 0) = true := by simpa using h1
    have ho : (!okB xs ys) = true := by rw [okB]; simp [h1]
    have HO := Lib.hid ho
    clear h1 ho
    go_enter Try.func52, Try.ntmps52
    go_wp2_with (fail)
    refine (H1.out).mono ?_
    rintro e w' ⟨rfl, q, rfl⟩
    go_wp2_with (fail)
    go_ret
    exact ⟨ret_b HO.out.symm, _, rfl⟩

/-- the call owns a slice that reads as a list of ints -/
def Own (w : World) (base : Nat) (v : Value) (xs : List Int) : Prop := w.ownsRow base 3 1 v xs.length (xs.map (Value.int .i64))

theorem own_grown {B : Nat} {w wr w1 : World} {v : Value} {n : Nat} {xs : List Value} {tmp : Obj} (hB : Below B w wr) (hsz : B ≤ wr.heap.size) (ho : wr.ownsRow B 3 1 v n xs) (hg : (wr.alloc tmp).grownBy w1 v.ownBlock) : Below B w w1 :=
  (hB.alloc hsz tmp).grown hg (by simp; omega) (fun k hk => (ho.lt k hk).1)
theorem own_snoc {B : Nat} {w : World} {v : Value} {xs : List Int} {x : Int} (h : w.ownsRow B 3 1 v (xs.length + 1) (xs.map (Value.int .i64) ++ [.int .i64 x])) : Own w B v (xs ++ [x]) := by
  unfold Own; simpa using h
theorem own_empty (w w0 : World) (hw : w0.heap.size ≤ w.heap.size) : Own (w.alloc (.cells #[] 3)) w0.heap.size (.slice (some ⟨w.heap.size, 0, none⟩) 0 0) [] :=
  World.ownsRow_made w #[] 0 hw (by simp [maxLen]) rfl

set_option maxRecDepth 100000 in
set_option maxHeartbeats 1000000 in
theorem refunion22 (a b : Option Addr) (n m c d : Nat) (xs ys : List Int) (w : World) (hx : Ints w a n xs) (hy : Ints w b m ys) :
    Calls Try.prog 22 #[.slice a n c, .slice b m d] w (GivesE w (combR (fun x y => x || y) xs ys) (combE xs ys)) := by
  obtain ⟨i0, hi, hz0, hz1, hz2⟩ := info_parts info3
  have H52 := Lib.hid (bad52 a b n m c d xs ys w hx hy)
  cases hok : okB xs ys
  · have hR : combR (fun x y => x || y) xs ys = [] := by rw [combR, hok]; rfl
    have hE : combE xs ys = 1 := by rw [combE, hok]; rfl
    rw [hR, hE]
    rw [hok] at H52
    clear hR hE hok hx hy
    go_enter Try.func22, Try.ntmps22
    go_wp2_with (fail)
    refine (H52.out).mono ?_
    rintro e w' ⟨rfl, q, rfl⟩
    go_wp2_with (fail)
    go_ret2
    exact ⟨none, 0, 0, rfl, Sl.nil _ _, bdrewN _ _⟩
  · have hR : combR (fun x y => x || y) xs ys = memb (combP (fun x y => x || y) xs ys) 64 := by rw [combR, hok]; rfl
    have hE : combE xs ys = 0 := by rw [combE, hok]; rfl
    rw [hR, hE]
    rw [hok] at H52
    have HX := Lib.hid hx
    have HY := Lib.hid hy
    clear hR hE hok hx hy
    go_enter Try.func22, Try.ntmps22
    go_wp2_with (fail)
    refine (H52.out).mono ?_
    rintro e w' ⟨rfl, q, rfl⟩
    go_wp2_with (fail)
    go_loopw [6, 7] (fun v i wr => ∃ k : Nat, k ≤ 64 ∧ i = .int .i64 k ∧ Own wr w.heap.size v (memb (combP (fun x y => x || y) xs ys) k) ∧ Below w.heap.size w wr) (fun _ i _ => 64 - (intOf i).toNat)
    case atStart => exact ⟨0, by omega, rfl, own_empty (w.drewN q) w (Nat.le_refl _), bstep (bdrewN w q) (balloc _ _)⟩
    case round =>
      obtain ⟨k, hk, rfl, ho, hb⟩ := hrel
      have HO := Lib.hid ho
      have HB := Lib.hid hb
      have hsz := hb.size
      have HX1 := Lib.hid (HX.out.mono (Nat.le_refl _) hb)
      have HY1 := Lib.hid (HY.out.mono (Nat.le_refl _) hb)
      have hml := memb_len (combP (fun x y => x || y) xs ys) k
      clear ho hb
      by_cases hlt : k < 64
      · have hp : combP (fun x y => x || y) xs ys k = (hasI xs k || hasI ys k) := rfl
        have H1 := Lib.hid (has53 a n c xs k wr HX1.out)
        have H2 := Lib.hid (has53 b m d ys k wr HY1.out)
        cases h1 : hasI xs k
        · rw [h1] at H1 hp
          cases h2 : hasI ys k
          · rw [h2] at H2 hp
            have HP := Lib.hid (memb_no hp)
            clear hp h1 h2
            go_wp2_with (fail)
            refine (H1.out).mono ?_
            rintro e w' ⟨rfl, rfl⟩
            go_wp2_with (fail)
            refine (H2.out).mono ?_
            rintro e w' ⟨rfl, rfl⟩
            go_wp2_with (fail)
            exact ⟨⟨k + 1, by omega, by go_num, by rw [HP.out]; exact HO.out, HB.out⟩, by simp [intOf]; omega⟩
          · rw [h2] at H2 hp
            have HP := Lib.hid (memb_yes hp)
            clear hp h1 h2
            go_wp2_with (fail)
            refine (H1.out).mono ?_
            rintro e w' ⟨rfl, rfl⟩
            go_wp2_with (fail)
            refine (H2.out).mono ?_
            rintro e w' ⟨rfl, rfl⟩
            go_wp2_with (at_builtin; refine wpList_append_own _ rfl _ _ 22 rfl w.heap.size 3 i0 (.int .i64 0) 1 8 Try.underlying22 hi hz0 hz1 hz2 rfl (by decide) _ _ _ rfl (HO.out.alloc _) ⟨wr.heap.size, 0, none⟩ 1 1 [.int .i64 k] rfl rfl (cell_one_new _ _ _) (by simp [Value.oneCell']) (by unfold maxLen; omega) (by omega) (by simp; omega) ?_; intro v1 w1 hown1 hgrow1 _; have HO2 := Lib.hid hown1; have HG := Lib.hid hgrow1; clear hown1 hgrow1)
            exact ⟨⟨k + 1, by omega, by go_num, by rw [HP.out]; exact own_snoc HO2.out, own_grown HB.out hsz HO.out HG.out⟩, by simp [intOf]; omega⟩
        · rw [h1] at H1 hp
          have HP := Lib.hid (memb_yes hp)
          clear hp h1 H2
          go_wp2_with (fail)
          refine (H1.out).mono ?_
          rintro e w' ⟨rfl, rfl⟩
          go_wp2_with (at_builtin; refine wpList_append_own _ rfl _ _ 22 rfl w.heap.size 3 i0 (.int .i64 0) 1 8 Try.underlying22 hi hz0 hz1 hz2 rfl (by decide) _ _ _ rfl (HO.out.alloc _) ⟨wr.heap.size, 0, none⟩ 1 1 [.int .i64 k] rfl rfl (cell_one_new _ _ _) (by simp [Value.oneCell']) (by unfold maxLen; omega) (by omega) (by simp; omega) ?_; intro v1 w1 hown1 hgrow1 _; have HO2 := Lib.hid hown1; have HG := Lib.hid hgrow1; clear hown1 hgrow1)
          exact ⟨⟨k + 1, by omega, by go_num, by rw [HP.out]; exact own_snoc HO2.out, own_grown HB.out hsz HO.out HG.out⟩, by simp [intOf]; omega⟩
      · obtain rfl : k = 64 := by omega
        obtain ⟨ar, cr, rfl, hI⟩ := ints_of_owns HO.out (memb_i64 _ _ (by omega)) (by omega)
        have HI := Lib.hid hI
        clear hI
        go_wp2_with (fail)
        go_ret2
        exact ⟨ar, _, cr, rfl, HI.out, HB.out⟩

end Go.Proofs.Ytcmckcmckbdmhaa
