/-
  The walk of AgreementPlaces.
-/
import Derived.Test.YtbcnbchpcbglhaaRE
namespace Go.Proofs.Ytbcnbchpcbglhaa
open Go.RowKit Go.Ap Go.Shelf Go.Proofs

theorem news_far {w w1 : World} {ob : Option Nat} {B : Nat} {x : Value} (h : ∀ j u, [x][j]? = some u → w.cell? ((⟨B, 0, none⟩ : Addr).add j) = some u) (hg : w.grownBy w1 ob) (hlt : B < w.heap.size) (hne : some B ≠ ob) :
    ∀ j u, [x][j]? = some u → w1.cell? ((⟨B, 0, none⟩ : Addr).add j) = some u := fun j u hu => by
  have hb : ((⟨B, 0, none⟩ : Addr).add j).block = B := by unfold Addr.add; split <;> simp_all
  rw [hg.cell_far _ (by rw [hb]; exact hlt) (by rw [hb]; exact hne)]
  exact h j u hu
theorem news_old {w : World} {B : Nat} {x : Value} {o : Obj} (h : ∀ j u, [x][j]? = some u → w.cell? ((⟨B, 0, none⟩ : Addr).add j) = some u) (hlt : B < w.heap.size) :
    ∀ j u, [x][j]? = some u → (w.alloc o).cell? ((⟨B, 0, none⟩ : Addr).add j) = some u :=
  news_far h (World.grownBy_alloc w o none) hlt (by simp)

/-- row[:K] and row[K:], of whatever row that reads as xs: what the run gives, and that it reads as the part -/
theorem slice_take {P : Program} {t e : TypeId} {w : World} {a : Option Addr} {m c K : Nat} {xs : List Int} (ht : P.underlying t = some (.slice e)) (hs : ∀ w, (sizeOf e).run P w = .ok 1 w) (h : Ints w a m xs) (hK : K ≤ m) (hc : m ≤ c) :
    ∃ a', (∀ w', (Instr.slice t (.slice a m c) none (some (.int .i64 (K : Int))) none).run P w' = .ok (.slice a' K c) w') ∧ Ints w a' K (xs.take K) := by
  refine ⟨if c = 0 then a else a.map (·.add (0 * 1)), fun w' => ?_, ?_⟩
  · have he : P.elem t = e := by simp [Program.elem, ht]
    rw [run_slice_h w' t a m c (by rw [he]; exact ht) .i64 (K : Int) (by omega) (by omega), he, hs]
    simp [Result.andThen, sliced]
  · by_cases hz : K = 0
    · subst hz
      rw [List.take_zero]
      exact Sl.nil _ _
    · have ha : (if c = 0 then a else a.map (·.add (0 * 1))) = a := by
        split
        · rfl
        · cases a <;> simp [Addr.add]
      rw [ha]
      exact ints_take h hK
theorem slice_drop {P : Program} {t e : TypeId} {w : World} {a : Option Addr} {m c K : Nat} {xs : List Int} (ht : P.underlying t = some (.slice e)) (hs : ∀ w, (sizeOf e).run P w = .ok 1 w) (h : Ints w a m xs) (hK : K ≤ m) (hc : m ≤ c) :
    ∃ a', (∀ w', (Instr.slice t (.slice a m c) (some (.int .i64 (K : Int))) none none).run P w' = .ok (.slice a' (m - K) (c - K)) w') ∧ Ints w a' (m - K) (xs.drop K) := by
  refine ⟨if c = K then a else a.map (·.add (K * 1)), fun w' => ?_, ?_⟩
  · have he : P.elem t = e := by simp [Program.elem, ht]
    rw [run_slice_l w' t a m c (by rw [he]; exact ht) .i64 (K : Int) (by omega) (by omega), he, hs]
    simp [Result.andThen, sliced]
  · by_cases hz : m = K
    · have hx : xs.drop K = [] := List.drop_eq_nil_of_le (by rw [h.len]; omega)
      rw [hx, show m - K = 0 by omega]
      exact Sl.nil _ _
    · obtain ⟨b, o, rfl, _⟩ := Ints.at h (by omega)
      rw [if_neg (by omega)]
      have hadd : (⟨b, o, none⟩ : Addr).add (K * 1) = ⟨b, o + K, none⟩ := by unfold Addr.add; split <;> simp_all
      rw [Option.map_some, hadd]
      exact ints_drop h fun _ => rfl

theorem size3 : ∀ w, (sizeOf 3).run Try.prog w = .ok 1 w := fun w => by kernel_rfl

set_option maxRecDepth 200000 in
set_option maxHeartbeats 4000000 in
theorem law9_ok (a : Option Addr) (n c m K : Nat) (S : List (List Int)) (z : Int) (w : World) (h : Sl RowC w a n S) (hz : 0 ≤ z ∧ z ≤ 255) (hF : fineB S = true) (ok : OkS S m) (hK : z % ((m : Int) + 1) = (K : Int)) (hK2 : K ≤ m) :
    Calls Try.prog 9 #[.slice a n c, .int .u8 z] w fun e w' => e = .returned (.bool true) ∧ Below w.heap.size w w' := by
  obtain ⟨i0, hi, hz0, hz1, hz2⟩ := info_parts info23
  obtain ⟨r0, ri, rz0, rz1, rz2⟩ := info_parts info22
  have H21 := fine21b a n c S w (rows_of_c h)
  rw [hF] at H21
  have H21 := Lib.hid H21
  have HL := Lib.hid h.len
  have HC := Lib.hid h
  have HH := Lib.hid (rows_of_c h)
  have OK := Lib.hid ok
  have hw := ok.wid
  have hn32 : n ≤ 32 := by rw [← h.len]; exact ok.le
  have hpos : 0 < n := by rw [← h.len]; exact ok.pos
  obtain ⟨hz3, hz4⟩ := hz
  have e1 : ((m : Int) + 1 == 0) = false := by rw [beq_eq_false_iff_ne]; omega
  have e2 : ¬ ((m : Int) + 1 = 0) := by omega
  clear h ok hF
  go_enter Try.func9, Try.ntmps9
  go_wp2_with (fail)
  refine (H21.out).mono ?_
  rintro e w0 ⟨rfl, hb0⟩
  have B0 := Lib.hid hb0
  clear hb0
  obtain ⟨b1, o1, rfl, hc1⟩ := rowsC_all HC.out hpos
  have HCC := Lib.hid hc1
  obtain ⟨a1, n1, c1, hcell1, hle1, hI1⟩ := hc1 0 hpos
  obtain rfl : m = n1 := by rw [← hI1.len]; exact (OK.out.row_len (by rw [HL.out]; exact hpos)).symm
  rw [Nat.add_zero] at hcell1
  have hcell1 := cell_keep (B0.out) hcell1
  clear hc1 hI1 hle1
  go_wp2_with (fail)
  rw [hK]
  clear hK
  go_loopw [6, 7, 33] (fun va vb kv wr => ∃ (l : Nat) (xs ys : List Value), l ≤ n ∧ kv = .int .i64 l ∧ Two 23 wr w0.heap.size va vb l l xs ys ∧ Below w0.heap.size w0 wr ∧ (∀ i x, i < l → (fstS S K)[i]? = some x → ∃ u, xs[i]? = some u ∧ RowR w u x) ∧ (∀ i x, i < l → (sndS S K)[i]? = some x → ∃ u, ys[i]? = some u ∧ RowR w u x)) (fun _ _ kv _ => n - (intOf kv).toNat)
  case atStart => exact ⟨0, [], [], by omega, rfl, ⟨World.ownsRow_nil _ _ _ _, World.ownsRow_nil _ _ _ _, fun b h1 => by cases h1⟩, Below.refl _ _, fun i x hi => by omega, fun i x hi => by omega⟩
  case round =>
    obtain ⟨l, xs, ys, hl, rfl, htwo, hb, hxs, hys⟩ := hrel
    have HT := Lib.hid htwo
    have HB := Lib.hid hb
    have HX := Lib.hid hxs
    have HY := Lib.hid hys
    have hsz := hb.size
    clear htwo hb hxs hys
    by_cases hlt : l < n
    · obtain ⟨a2, n2, c2, hcell2, hle2, hI2⟩ := HCC.out l hlt
      obtain rfl : m = n2 := by rw [← hI2.len]; exact (OK.out.row_len (by rw [HL.out]; exact hlt)).symm
      have hcell3 := cell_keep (bstep B0.out HB.out) hcell2
      clear hcell2
      obtain ⟨aT, hrT, hiT⟩ := slice_take Try.underlying23 size3 hI2 hK2 hle2
      obtain ⟨aD, hrD, hiD⟩ := slice_drop Try.underlying23 size3 hI2 hK2 hle2
      have hrow : S[l]? = some (row S l) := by rw [row_eq (by rw [HL.out]; exact hlt)]; exact List.getElem?_eq_getElem _
      have HX2 := Lib.hid (grow_rel HX.out (by have := HT.out.1.1; omega) (⟨_, _, _, rfl, hiT⟩ : RowR w (.slice aT K c2) ((row S l).take K)) (by rw [fstS, List.getElem?_map, hrow]; rfl))
      have HY2 := Lib.hid (grow_rel HY.out (by have := HT.out.2.1.1; omega) (⟨_, _, _, rfl, hiD⟩ : RowR w (.slice aD (m - K) (c2 - K)) ((row S l).drop K)) (by rw [sndS, List.getElem?_map, hrow]; rfl))
      clear hrow hI2 hle2 hiT hiD hK2
      go_wp2_with (fail)
      go_region_law (first
          | (have hB : Below wr.heap.size wr (wr.drew.alloc (.cells #[.slice aT K c2] 23)) := bstep (Below.refl wr.heap.size wr).drew (balloc _ _)
             have HW := HT.out.below hB
             refine step_append_lies (wr.drew.alloc (.cells #[.slice aT K c2] 23)) rfl (.tmp 37) (.tmp 41) 22 rfl w0.heap.size 23 i0 (.slice none 0 0) 1 24 Try.underlying22 hi hz0 hz1 hz2 rfl (by decide) u6 l xs rfl HW.1 ⟨wr.heap.size, 0, none⟩ 1 1 [.slice aT K c2] rfl rfl (cell_one_new _ _ _) (by simp [Value.oneCell']) (by decide) (by unfold maxLen; omega) (by omega) (Nat.le_trans hsz hB.size) (wr.drew.alloc (.cells #[.slice aT K c2] 23)).heap.size rfl ?_
             intro g1 k1 w4 hown1 hgrow1 hat1 hlt1
             have HP := Lib.hid (Two.push HW (Nat.le_trans hsz hB.size) hown1 hgrow1 hat1)
             have HB4 := Lib.hid ((HB.out.trans (hB.mono hsz)).trans HP.out.2)
             skip
             clear hown1 hgrow1 hat1 hlt1 HW hB)
          | (have hB : Below wr.heap.size wr ((wr.drew.alloc (.cells #[.slice aT K c2] 23)).alloc (.cells #[.slice aD (m - K) (c2 - K)] 23)) := bstep (bstep (Below.refl wr.heap.size wr).drew (balloc _ _)) (balloc _ _)
             have HW := HT.out.below hB
             refine step_append_lies ((wr.drew.alloc (.cells #[.slice aT K c2] 23)).alloc (.cells #[.slice aD (m - K) (c2 - K)] 23)) rfl (.tmp 37) (.tmp 41) 22 rfl w0.heap.size 23 i0 (.slice none 0 0) 1 24 Try.underlying22 hi hz0 hz1 hz2 rfl (by decide) u6 l xs rfl HW.1 ⟨wr.heap.size, 0, none⟩ 1 1 [.slice aT K c2] rfl rfl (news_old (cell_one_new _ _ _) (by simp)) (by simp [Value.oneCell']) (by decide) (by unfold maxLen; omega) (by omega) (Nat.le_trans hsz hB.size) ((wr.drew.alloc (.cells #[.slice aT K c2] 23)).alloc (.cells #[.slice aD (m - K) (c2 - K)] 23)).heap.size rfl ?_
             intro g1 k1 w4 hown1 hgrow1 hat1 hlt1
             have HP := Lib.hid (Two.push HW (Nat.le_trans hsz hB.size) hown1 hgrow1 hat1)
             have HB4 := Lib.hid ((HB.out.trans (hB.mono hsz)).trans HP.out.2)
             have HN := Lib.hid (news_far (w := ((wr.drew.alloc (.cells #[.slice aT K c2] 23)).alloc (.cells #[.slice aD (m - K) (c2 - K)] 23))) (x := .slice aD (m - K) (c2 - K)) (B := wr.heap.size + 1) (by have := cell_one_new (wr.drew.alloc (.cells #[.slice aT K c2] 23)) (.slice aD (m - K) (c2 - K)) 23; simpa using this) hgrow1 (by simp) (fun e => by have := owns_lt HT.out.1 _ e.symm; omega))
             clear hown1 hgrow1 hat1 hlt1 HW hB)
          | (have hB : Below wr.heap.size wr ((wr.drew.alloc (.cells #[.slice aD (m - K) (c2 - K)] 23)).alloc (.cells #[.slice aT K c2] 23)) := bstep (bstep (Below.refl wr.heap.size wr).drew (balloc _ _)) (balloc _ _)
             have HW := HT.out.below hB
             refine step_append_lies ((wr.drew.alloc (.cells #[.slice aD (m - K) (c2 - K)] 23)).alloc (.cells #[.slice aT K c2] 23)) rfl (.tmp 37) (.tmp 41) 22 rfl w0.heap.size 23 i0 (.slice none 0 0) 1 24 Try.underlying22 hi hz0 hz1 hz2 rfl (by decide) u6 l xs rfl HW.1 ⟨wr.heap.size + 1, 0, none⟩ 1 1 [.slice aT K c2] rfl rfl (by have := cell_one_new (wr.drew.alloc (.cells #[.slice aD (m - K) (c2 - K)] 23)) (.slice aT K c2) 23; simpa using this) (by simp [Value.oneCell']) (by decide) (by unfold maxLen; omega) (by omega) (Nat.le_trans hsz hB.size) ((wr.drew.alloc (.cells #[.slice aD (m - K) (c2 - K)] 23)).alloc (.cells #[.slice aT K c2] 23)).heap.size rfl ?_
             intro g1 k1 w4 hown1 hgrow1 hat1 hlt1
             have HP := Lib.hid (Two.push HW (Nat.le_trans hsz hB.size) hown1 hgrow1 hat1)
             have HB4 := Lib.hid ((HB.out.trans (hB.mono hsz)).trans HP.out.2)
             have HN := Lib.hid (news_far (w := ((wr.drew.alloc (.cells #[.slice aD (m - K) (c2 - K)] 23)).alloc (.cells #[.slice aT K c2] 23))) (x := .slice aD (m - K) (c2 - K)) (B := wr.heap.size) (news_old (cell_one_new _ _ _) (by simp)) hgrow1 (by simp; omega) (fun e => by have := owns_lt HT.out.1 _ e.symm; omega))
             clear hown1 hgrow1 hat1 hlt1 HW hB)
          | (have hB : Below w4.heap.size w4 (w4.alloc (.cells #[.slice aD (m - K) (c2 - K)] 23)) := balloc _ _
             have HW := (HP.out.1.below hB).swap
             refine step_append_lies (w4.alloc (.cells #[.slice aD (m - K) (c2 - K)] 23)) rfl (.tmp 43) (.tmp 47) 22 rfl w0.heap.size 23 i0 (.slice none 0 0) 1 24 Try.underlying22 hi hz0 hz1 hz2 rfl (by decide) u7 l ys rfl HW.1 ⟨w4.heap.size, 0, none⟩ 1 1 [.slice aD (m - K) (c2 - K)] rfl rfl (cell_one_new _ _ _) (by simp [Value.oneCell']) (by decide) (by unfold maxLen; omega) (by omega) (Nat.le_trans HB4.out.size hB.size) (w4.alloc (.cells #[.slice aD (m - K) (c2 - K)] 23)).heap.size rfl ?_
             intro g2 k2 w5 hown2 hgrow2 hat2 hlt2
             have HP2 := Lib.hid (Two.push HW (Nat.le_trans HB4.out.size hB.size) hown2 hgrow2 hat2)
             have HB5 := Lib.hid ((HB4.out.trans (hB.mono HB4.out.size)).trans HP2.out.2)
             clear hown2 hgrow2 hat2 hlt2 HW hB)
          | (have hB : Below w4.heap.size w4 w4 := Below.refl _ _
             have HW := (HP.out.1.below hB).swap
             refine step_append_lies w4 rfl (.tmp 43) (.tmp 47) 22 rfl w0.heap.size 23 i0 (.slice none 0 0) 1 24 Try.underlying22 hi hz0 hz1 hz2 rfl (by decide) u7 l ys rfl HW.1 ⟨wr.heap.size, 0, none⟩ 1 1 [.slice aD (m - K) (c2 - K)] rfl rfl (HN.out) (by simp [Value.oneCell']) (by decide) (by unfold maxLen; omega) (by omega) (Nat.le_trans HB4.out.size hB.size) w4.heap.size rfl ?_
             intro g2 k2 w5 hown2 hgrow2 hat2 hlt2
             have HP2 := Lib.hid (Two.push HW (Nat.le_trans HB4.out.size hB.size) hown2 hgrow2 hat2)
             have HB5 := Lib.hid ((HB4.out.trans (hB.mono HB4.out.size)).trans HP2.out.2)
             clear hown2 hgrow2 hat2 hlt2 HW hB)
          | (have hB : Below w4.heap.size w4 w4 := Below.refl _ _
             have HW := (HP.out.1.below hB).swap
             refine step_append_lies w4 rfl (.tmp 43) (.tmp 47) 22 rfl w0.heap.size 23 i0 (.slice none 0 0) 1 24 Try.underlying22 hi hz0 hz1 hz2 rfl (by decide) u7 l ys rfl HW.1 ⟨wr.heap.size + 1, 0, none⟩ 1 1 [.slice aD (m - K) (c2 - K)] rfl rfl (HN.out) (by simp [Value.oneCell']) (by decide) (by unfold maxLen; omega) (by omega) (Nat.le_trans HB4.out.size hB.size) w4.heap.size rfl ?_
             intro g2 k2 w5 hown2 hgrow2 hat2 hlt2
             have HP2 := Lib.hid (Two.push HW (Nat.le_trans HB4.out.size hB.size) hown2 hgrow2 hat2)
             have HB5 := Lib.hid ((HB4.out.trans (hB.mono HB4.out.size)).trans HP2.out.2)
             clear hown2 hgrow2 hat2 hlt2 HW hB))
      all_goals go_wp2_with (fail)
      all_goals go_roundw
      all_goals first
        | (case rel => exact ⟨l + 1, _, _, by omega, by go_num, HP2.out.1.swap, HB5.out, HX2.out, HY2.out⟩)
        | (case measure => simp [intOf]; omega)
        | skip
    · obtain rfl : n = l := by omega
      obtain ⟨aA, cA, rfl, hRA⟩ := rows_of_own HT.out.1 (by rw [fstS_len]; exact HL.out) hpos hn32 HX.out (bstep B0.out HB.out)
      obtain ⟨aB, cB, rfl, hRB⟩ := rows_of_own HT.out.2.1 (by rw [sndS_len]; exact HL.out) hpos hn32 HY.out (bstep B0.out HB.out)
      have RA := Lib.hid hRA
      have RB := Lib.hid hRB
      have RS := Lib.hid (HH.out.mono (Nat.le_refl _) (bstep B0.out HB.out))
      have BW := Lib.hid (bstep B0.out HB.out)
      clear hRA hRB HT HX HY
      go_wp2_with (fail)
      obtain ⟨W4, hW4⟩ : ∃ W4, wr.alloc (.cells #[.slice aA n cA, .slice aB n cB, .slice (some ⟨b1, o1, none⟩) n c] 22) = W4 := ⟨_, rfl⟩
      have hbb : Below wr.heap.size wr W4 := by rw [← hW4]; exact balloc _ _
      have hlit : ∀ k, k < 3 → ∃ a' c', W4.cell? ⟨wr.heap.size, k, none⟩ = some (.slice a' n c') ∧ Rows2 W4 a' n (TT S K k) := by
        intro k hk
        rcases (show k = 0 ∨ k = 1 ∨ k = 2 by omega) with rfl | rfl | rfl
        · exact ⟨_, _, by rw [← hW4]; exact cell_fresh rfl rfl, RA.out.mono (Nat.le_refl _) hbb⟩
        · exact ⟨_, _, by rw [← hW4]; exact cell_fresh rfl rfl, RB.out.mono (Nat.le_refl _) hbb⟩
        · exact ⟨_, _, by rw [← hW4]; exact cell_fresh rfl rfl, RS.out.mono (Nat.le_refl _) hbb⟩
      have HLIT := Lib.hid hlit
      have BW4 := Lib.hid (bstep BW.out hbb)
      obtain ⟨N, hN⟩ : ∃ N, n + n = N := ⟨_, rfl⟩
      have HNN := Lib.hid hN
      have hN64 : N ≤ 64 := by omega
      rw [hW4]
      clear hW4 hbb hlit RA RB RS hN
      go_loopw [10, 55] (fun tv kv w2 => ∃ (k : Nat) (ts : List Value), k ≤ 3 ∧ kv = .int .i64 k ∧ w2.ownsRow W4.heap.size 22 1 tv k ts ∧ Below W4.heap.size W4 w2 ∧ ∀ i, i < k → ∃ g c', ts[i]? = some (.slice (some ⟨g, 0, none⟩) N c') ∧ Rob tv.ownBlock w2 fun W => Tab2 W g n (agrF (TT S K i) (MM m K i)) (cmpF (TT S K i) (MM m K i))) (fun _ kv _ => 3 - (intOf kv).toNat)
      case atStart => exact ⟨0, [], by omega, rfl, World.ownsRow_nil _ _ _ _, Below.refl _ _, fun i hi => by omega⟩
      case round =>
        obtain ⟨k, ts, hk, rfl, hown, hb2, hts⟩ := hrel
        have HO := Lib.hid hown
        have HB2 := Lib.hid hb2
        have HTS := Lib.hid hts
        have hsz2 := hb2.size
        clear hown hb2 hts
        by_cases hk3 : k < 3
        · obtain ⟨a', c', hck, hT⟩ := HLIT.out k hk3
          have hck := cell_keep HB2.out hck
          have HR := Lib.hid (hT.mono (Nat.le_refl _) HB2.out)
          have OKK := Lib.hid (tt_ok OK.out hK2 k)
          clear hT
          go_wp2_with (fail)
          refine (matrixT a' n c' _ _ _ HR.out OKK.out).mono ?_
          rintro e w5 ⟨g5, c5, vs, rfl, h5, l5, hb5⟩
          have H5 := Lib.hid h5
          have L5 := Lib.hid l5
          have HB5 := Lib.hid hb5
          have HR5 := Lib.hid (HR.out.mono (Nat.le_refl _) hb5)
          clear h5 l5 hb5 hck HR
          go_wp2_with (fail)
          refine (comparedT a' n c' _ _ _ HR5.out OKK.out).mono ?_
          rintro e w6 ⟨g6, c6, us, rfl, h6, l6, hb6⟩
          have H6 := Lib.hid h6
          have L6 := Lib.hid l6
          have HB6 := Lib.hid hb6
          have H56 := Lib.hid (owns_below H5.out hb6)
          have L56 := Lib.hid (Lines.below L5.out hb6)
          have e5 : ((n : Int) != n) = false := by simp
          clear h6 l6 hb6 H5 L5 HR5
          go_wp2_with (fail)
          obtain ⟨W7, hW7⟩ : ∃ W7, w6.alloc (.cells #[.slice (some ⟨g5, 0, none⟩) n c5, .slice (some ⟨g6, 0, none⟩) n c6] 22) = W7 := ⟨_, rfl⟩
          have hb7 : Below w6.heap.size w6 W7 := by rw [← hW7]; exact balloc _ _
          have HB7 := Lib.hid hb7
          have hk0 : W7.cell? ⟨w6.heap.size, 0, none⟩ = some (.slice (some ⟨g5, 0, none⟩) n c5) := by rw [← hW7]; exact cell_fresh rfl rfl
          have hk1 : W7.cell? ⟨w6.heap.size, 1, none⟩ = some (.slice (some ⟨g6, 0, none⟩) n c6) := by rw [← hW7]; exact cell_fresh rfl rfl
          have HC7 := concatT w6.heap.size n g5 c5 g6 c6 _ _ vs us _ _ W7 hpos hn32 hk0 hk1 (owns_below H56.out hb7) (owns_below H6.out hb7) (L56.out.below hb7) (L6.out.below hb7)
          rw [hW7]
          clear hW7 hb7 hk0 hk1
          refine HC7.mono ?_
          clear HC7
          rintro e w8 ⟨g8, c8, rfl, h8, hb8⟩
          rw [HNN.out] at h8 ⊢
          have H8 := Lib.hid h8
          have HB8 := Lib.hid hb8
          clear h8 hb8
          have HB28 := Lib.hid (bstep (bstep (bstep (bstep HB5.out HB6.out) HB7.out) HB8.out) (balloc w8 (.cells #[.slice (some ⟨g8, 0, none⟩) N c8] 22)))
          have HOX := Lib.hid (owns_below HO.out HB28.out)
          have HROB := Lib.hid (Rob.below (tab2_rob (ob := Value.ownBlock u10) (h := cmpF (TT S K k) (MM m K k)) (f := agrF (TT S K k) (MM m K k)) hpos (fun j hj => owns_lt HO.out j hj) (by rw [HNN.out]; exact owns_mono H8.out (Nat.le_trans HB5.out.size (Nat.le_trans HB6.out.size HB7.out.size))) ((L56.out.below HB7.out).below HB8.out) (((L6.out.below HB7.out).below HB8.out).mono HB5.out.size)) (balloc w8 (.cells #[.slice (some ⟨g8, 0, none⟩) N c8] 22)))
          go_wp2_with (at_builtin; refine wpList_append_lies _ rfl _ _ 45 rfl W4.heap.size 22 r0 (.slice none 0 0) 1 24 Try.underlying45 ri rz0 rz1 rz2 rfl (by decide) _ _ _ rfl HOX.out ⟨w8.heap.size, 0, none⟩ 1 1 [.slice (some ⟨g8, 0, none⟩) N c8] rfl rfl (cell_one_new _ _ _) (by simp [Value.oneCell']) (by decide) (by unfold maxLen; omega) (by omega) (Nat.le_trans hsz2 HB28.out.size) _ rfl ?_; intro g9 c9 w9 hown9 hgrow9 hat9 _; have HO9 := Lib.hid hown9; have HG9 := Lib.hid hgrow9; have HA9 := Lib.hid hat9; clear hown9 hgrow9 hat9)
          go_roundw
          case rel =>
            have hb9 := (HB2.out.trans (HB28.out.mono hsz2)).grown HG9.out (Nat.le_trans hsz2 HB28.out.size) (fun j hj => (HOX.out.lt j hj).1)
            exact ⟨k + 1, ts ++ [.slice (some ⟨g8, 0, none⟩) N c8], by omega, by go_num, HO9.out, hb9, fun i hi => by
              have hlen : ts.length = k := by have := HO.out.1; omega
              rcases Nat.lt_or_ge i k with h | h
              · obtain ⟨g, c', h1, h2⟩ := HTS.out i h
                exact ⟨g, c', by rw [List.getElem?_append_left (by omega)]; exact h1, (h2.below HB28.out).grown HG9.out HG9.out.size HA9.out⟩
              · obtain rfl : i = k := by omega
                exact ⟨g8, c8, by rw [List.getElem?_append_right (by omega)]; simp [hlen], HROB.out.grown HG9.out HG9.out.size HA9.out⟩⟩
          case measure => simp [intOf]; omega
        · obtain rfl : k = 3 := by omega
          rw [show ((3 : Nat) : Int) = 3 from rfl]
          obtain ⟨gt, ct, rfl, _, _⟩ := HO.out.form (by omega)
          obtain ⟨gA, cA', tA, rA⟩ := HTS.out 0 (by omega)
          obtain ⟨gB, cB', tB, rB⟩ := HTS.out 1 (by omega)
          obtain ⟨gC, cC', tC, rC⟩ := HTS.out 2 (by omega)
          have hadd : ∀ j, (⟨gt, 0, none⟩ : Addr).add j = ⟨gt, j, none⟩ := fun j => by unfold Addr.add; split <;> simp_all
          have k0 := HO.out.cells (g := gt) rfl 0 _ tA
          have k1 := HO.out.cells (g := gt) rfl 1 _ tB
          have k2 := HO.out.cells (g := gt) rfl 2 _ tC
          rw [hadd] at k0 k1 k2
          have TA := Lib.hid rA.at
          have TB := Lib.hid rB.at
          have TC := Lib.hid rC.at
          have HSUM := Lib.hid (fun i j => tt_two (S := S) (n := n) hK2 i j)
          have HBA := Lib.hid (fun i j => two_bound (TT S K 0) (MM m K 0) n i j)
          have HBB := Lib.hid (fun i j => two_bound (TT S K 1) (MM m K 1) n i j)
          have hmA := mm_le hK2 0
          have hmB := mm_le hK2 1
          have BEND := Lib.hid (bstep BW4.out HB2.out)
          clear hadd rA rB rC tA tB tC HTS HO HLIT
          go_wp2_with (fail)
          go_loopw [101] (fun kv w3 => ∃ (i q : Nat), i ≤ N ∧ kv = .int .i64 i ∧ w3 = wr.drewN q) (fun kv _ => N - (intOf kv).toNat)
          case atStart => exact ⟨0, 0, by omega, rfl, rfl⟩
          case round =>
            obtain ⟨i, q1, hiN, rfl, rfl⟩ := hrel
            by_cases hil : i < N
            · obtain ⟨bA, cbA, kA, lA⟩ := TA.out i (by have := HNN.out; omega)
              obtain ⟨bB, cbB, kB, lB⟩ := TB.out i (by have := HNN.out; omega)
              obtain ⟨bC, cbC, kC, lC⟩ := TC.out i (by have := HNN.out; omega)
              have LA := Lib.hid lA
              have LB := Lib.hid lB
              have LC := Lib.hid lC
              have en : ((n : Int) != n) = false := by simp
              clear lA lB lC
              go_wp2_with (fail)
              go_loopw [145] (fun kv w3 => ∃ (j q : Nat), j ≤ n ∧ kv = .int .i64 j ∧ w3 = wr.drewN q) (fun kv _ => n - (intOf kv).toNat)
              case atStart => exact ⟨0, _, by omega, rfl, rfl⟩
              case round =>
                obtain ⟨j, q2, hj, rfl, rfl⟩ := hrel
                by_cases hjl : j < n
                · have vA := LA.out j hjl
                  have vB := LB.out j hjl
                  have vC := LC.out j hjl
                  obtain ⟨x1, x2⟩ := HBA.out i j
                  obtain ⟨y1, y2⟩ := HBB.out i j
                  rw [HSUM.out] at vC
                  generalize hFA : twoF (agrF (TT S K 0) (MM m K 0)) (cmpF (TT S K 0) (MM m K 0)) n i j = x at *
                  generalize hFB : twoF (agrF (TT S K 1) (MM m K 1)) (cmpF (TT S K 1) (MM m K 1)) n i j = y at *
                  have ev : (x + y != x + y) = false := by simp
                  clear hFA hFB
                  go_wp2_with (fail)
                  go_quiet (fail)
                  go_wp2_with (fail)
                  go_roundw
                  case rel => exact ⟨j + 1, _, by omega, by go_num, rfl⟩
                  case measure => simp [intOf]; omega
                · go_wp2_with (fail)
                  go_roundw
                  case rel => exact ⟨i + 1, _, by omega, by go_num, rfl⟩
                  case measure => simp [intOf]; omega
            · go_wp2_with (fail)
              refine (awake12 _).mono ?_
              rintro e w9 ⟨rfl, k9⟩
              go_wp2_with (fail)
              go_ret
              exact ⟨rfl, bstep (bstep BEND.out (bdrewN _ _)) k9⟩

end Go.Proofs.Ytbcnbchpcbglhaa
