/-
  Clusters, of the program: the search.
-/
import Derived.Test.YtbcnbchpcbglhaaW10
namespace Go.Proofs.Ytbcnbchpcbglhaa
open Go.RowKit Go.Ap Go.Shelf Go.Proofs Go.Sort

set_option maxRecDepth 100000 in
set_option maxHeartbeats 4000000 in
theorem clusters15_ok (a : Option Addr) (n c m : Nat) (S : List (List Int)) (most : Int) (w : World) (h : Rows2 w a n S) (hch : chkS S = 0) (ok : OkS S m) (h1 : 0 ≤ most) (h2 : most ≤ 1000) :
    Calls Try.prog 15 #[.slice a n c, .int .i64 most] w (GivesRR w (cluU (connB (adjD S m most) n) n n) 0) := by
  obtain ⟨i0, hi, hz0, hz1, hz2⟩ := info_parts info3
  obtain ⟨r0, ri, rz0, rz1, rz2⟩ := info_parts info23
  obtain ⟨b0, bi, bz0, bz1, bz2⟩ := info_parts info4
  have H32 := check32 a n c S w h
  rw [hch] at H32
  have H32 := Lib.hid H32
  have HL := Lib.hid h.len
  have HH := Lib.hid h
  have hsm := h.small
  have OK := Lib.hid ok
  have hw := ok.wid
  have hn32 : n ≤ 32 := by rw [← h.len]; exact ok.le
  have hpos : 0 < n := by rw [← h.len]; exact ok.pos
  have d1 : decide (most < 0) = false := by simp; omega
  have d2 : decide (1000 < most) = false := by simp; omega
  have hmk : ∀ w, (Instr.makeSlice 59 (.int .i64 n) (.int .i64 n)).run Try.prog w = .ok (.slice (some ⟨w.heap.size, 0, none⟩) n n) (w.alloc (.cells (Array.replicate n (.bool false)) 4)) := fun w => by
    have h := run_make_row (P := Try.prog) 59 4 b0 (.bool false) Try.underlying59 bi bz0 bz1 rfl .i64 .i64 n (by rw [bz2]; omega) (by omega) w
    rw [made_bools, show ((List.replicate n false).map Value.bool).toArray = Array.replicate n (.bool false) by simp] at h
    exact h
  obtain ⟨adj, hadj⟩ : ∃ adj, adjD S m most = adj := ⟨_, rfl⟩
  have HS := Lib.hid (show ∀ x y, adj x y = adj y x from fun x y => by rw [← hadj]; exact adjD_symm S m most x y)
  have HA := Lib.hid hadj
  rw [hadj]
  clear hch h ok hadj
  go_enter Try.func15, Try.ntmps15
  go_wp2_with (fail)
  refine (H32.out).mono ?_
  rintro e w' ⟨rfl, q, rfl⟩
  go_wp2_with (fail)
  obtain ⟨W0, hW0⟩ : ∃ W0, (w.drewN q).alloc (.cells (Array.replicate n (.bool false)) 4) = W0 := ⟨_, rfl⟩
  have hA0 : ArrB W0 w.heap.size (List.replicate n false) := by rw [← hW0, ArrB, show ((List.replicate n false).map Value.bool).toArray = Array.replicate n (.bool false) by simp]; exact heap_fresh (by simp [World.drewN])
  have hb0 : Below w.heap.size w W0 := by rw [← hW0]; exact bstep (bdrewN _ _) (balloc _ _)
  rw [hW0]
  clear hmk
  generalize hBB : w.heap.size = B at hA0 ⊢
  have HBB := Lib.hid hBB
  have HA0 := Lib.hid hA0
  have HB0 := Lib.hid hb0
  clear hW0 hA0 hb0 hBB
  go_loopw [7, 26] (fun v i wr => ∃ (k : Nat) (T : List Bool), k ≤ n ∧ i = .int .i64 k ∧ OwnRR 3 23 wr B v (cluU (connB adj n) n k) ∧ ArrB wr B T ∧ T.length = n ∧ (∀ j, j < n → tk T j = prevB adj n k j) ∧ Below B w wr) (fun _ i _ => n - (intOf i).toNat)
  case atStart => exact ⟨0, _, by omega, rfl, OwnRR.nil _ _ _ _, HA0.out, by simp, fun j hj => by simp [tk, prevB, hj], by rw [← HBB.out]; exact HB0.out⟩
  case round =>
    obtain ⟨k, T, hk, rfl, ho, hT, hTl, htk, hb⟩ := hrel
    have HO := Lib.hid ho
    have HT := Lib.hid hT
    have HTL := Lib.hid hTl
    have HTK := Lib.hid htk
    have HB := Lib.hid hb
    have hsz := hb.size
    have hsB : B < wr.heap.size := hT.lt
    clear ho hT hTl htk hb
    by_cases hlt : k < n
    · have hct := HT.out.cell (k := k) (by rw [HTL.out]; exact hlt)
      have hft := HT.out.free k
      have htv := HTK.out k hlt
      cases hP : prevB adj n k k
      · -- a new group
        rw [htv, hP] at hct
        have HNEW := Lib.hid (cluU_yes (r := connB adj n) (n := n) (k := k) (by rw [isL_prev, hP]; rfl))
        have HF := Lib.hid (Bfs.first (adj := adj) (prev := prevB adj n k) HTL.out hlt HTK.out hP)
        have HT1 := Lib.hid (HT.out.set k true)
        clear htv hP
        go_wp2_with (fail)
        obtain ⟨W1, hW1⟩ : ∃ W1, wr.setCell ⟨B, k, none⟩ (.bool true) = W1 := ⟨_, rfl⟩
        rw [hW1] at HT1
        have hs1 : W1.heap.size = wr.heap.size := by rw [← hW1]; simp [World.setCell]
        have hk1 : KeepBut B wr.heap.size wr W1 := by rw [← hW1]; exact KeepBut.setAt _ _ _
        have hg1 : OwnI 3 (W1.alloc (.cells #[.int .i64 k] 3)) wr.heap.size (.slice (some ⟨wr.heap.size, 0, none⟩) 1 1) [(k : Int)] := by
          rw [← hs1]; exact ⟨owns_one W1 k, fun x hx => by rw [List.mem_singleton] at hx; subst hx; exact ⟨by omega, by omega⟩⟩
        have ht1 : ArrB (W1.alloc (.cells #[.int .i64 k] 3)) B (T.set k true) := HT1.out.kept (balloc _ _)
        have hk2 : KeepBut B wr.heap.size wr (W1.alloc (.cells #[.int .i64 k] 3)) := hk1.trans (.of_below ((balloc _ _).mono (by omega)))
        rw [hW1]
        generalize hW2 : W1.alloc (.cells #[.int .i64 k] 3) = W2 at *
        have HG1 := Lib.hid hg1
        have HT2 := Lib.hid ht1
        have HK2 := Lib.hid hk2
        have hs2 : wr.heap.size ≤ W2.heap.size := hk2.size
        clear hW2 hg1 ht1 hk2 hk1 hs1 hW1 HT1 hct hft
        obtain ⟨wo, rfl⟩ : ∃ wo, wo = wr := ⟨_, rfl⟩
        go_loopw [9, 10] (fun v pv wi => ∃ (p : Nat) (U : List Bool) (g : List Int), p ≤ g.length ∧ pv = .int .i64 p ∧ OwnI 3 wi wo.heap.size v g ∧ ArrB wi B U ∧ Bfs adj n k (prevB adj n k) U g p 0 ∧ KeepBut B wo.heap.size wo wi) (fun _ pv _ => n - (intOf pv).toNat)
        case atStart => exact ⟨0, _, _, by simp, rfl, HG1.out, HT2.out, HF.out, HK2.out⟩
        case round =>
          obtain ⟨p, U, g, hp, rfl, hog, hU, hbf, hkb⟩ := hrel
          have HOG := Lib.hid hog
          have HU := Lib.hid hU
          have HBF := Lib.hid hbf
          have HKB := Lib.hid hkb
          have hgn := hbf.bound
          clear hog hU hbf hkb
          by_cases hpl : p < g.length
          · obtain ⟨gb, cg, rfl⟩ := HOG.out.addr (by omega)
            go_wp2_with (fail)
            go_loopw [9, 46] (fun v kv wi => ∃ (l : Nat) (U : List Bool) (g : List Int), l ≤ n ∧ kv = .int .i64 l ∧ p < g.length ∧ OwnI 3 wi wo.heap.size v g ∧ ArrB wi B U ∧ Bfs adj n k (prevB adj n k) U g p l ∧ KeepBut B wo.heap.size wo wi) (fun _ kv _ => n - (intOf kv).toNat)
            case atStart => exact ⟨0, _, _, by omega, rfl, hpl, HOG.out, HU.out, HBF.out, HKB.out⟩
            case round =>
              clear HOG HU HBF HKB hgn hpl
              obtain ⟨l, U, g, hl, rfl, hpg, hog, hU, hbf, hkb⟩ := hrel
              have HOG := Lib.hid hog
              have HU := Lib.hid hU
              have HBF := Lib.hid hbf
              have HKB := Lib.hid hkb
              have hgn := hbf.bound
              have hszi : wo.heap.size ≤ wr.heap.size := hkb.size
              have hbw : Below w.heap.size w wr := by rw [HBB.out]; exact HB.out.trans (hkb.below (Nat.le_refl _) (by omega))
              have HBW := Lib.hid hbw
              clear hog hU hbf hkb
              by_cases hll : l < n
              · obtain ⟨gb, cg, rfl⟩ := HOG.out.addr (by omega)
                obtain ⟨j0, hj0, hj0n, hcj, hjg⟩ := HBF.out.at hpg
                obtain ⟨hcg, hfg, hgb⟩ := HOG.out.cell hpg
                rw [hj0] at hcg
                have hcT := HU.out.cell (k := l) (by rw [HBF.out.len]; exact hll)
                have hfT := HU.out.free l
                obtain ⟨b1, o1, rfl, hc1⟩ := Rows2.all (HH.out.mono (Nat.le_refl _) hbw) (by omega)
                obtain ⟨a1, n1, c1, hcell1, hI1⟩ := hc1 j0 hj0n
                obtain ⟨a2, n2, c2, hcell2, hI2⟩ := hc1 l hll
                obtain rfl : m = n1 := by rw [← hI1.len]; exact (OK.out.row_len (by rw [HL.out]; exact hj0n)).symm
                obtain rfl : m = n2 := by rw [← hI2.len]; exact (OK.out.row_len (by rw [HL.out]; exact hll)).symm
                cases hv : tk U l
                · rw [hv] at hcT
                  have HV := Lib.hid hv
                  have hne : j0 ≠ l := fun e => by
                    subst e
                    have := (HBF.out.tak j0 hj0n).2 (.inr hjg)
                    rw [hv] at this
                    cases this
                  have HADJ := Lib.hid (show adj (nth g p).toNat l = decide (dist (row S j0) (row S l) m ≤ most) by rw [hj0, Int.toNat_natCast, ← HA.out, adjD_ne hne])
                  have H49 := Lib.hid (fun (W : World) (hbW : Below wr.heap.size wr W) => (distance49 a1 a2 m m c1 c2 (row S j0) (row S l) W (Nat.le_refl _) hw (hI1.mono (Nat.le_refl _) hbW) (hI2.mono (Nat.le_refl _) hbW)))
                  have HK := Lib.hid (show ∀ W, Below wr.heap.size wr W → (W.cell? ⟨B, l, none⟩ = some (.bool false) ∧ W.cell? ⟨gb, p, none⟩ = some (.int .i64 j0) ∧ W.cell? ⟨b1, o1 + j0, none⟩ = some (.slice a1 m c1) ∧ W.cell? ⟨b1, o1 + l, none⟩ = some (.slice a2 m c2) ∧ Below wr.heap.size wr W) from
                    fun W hb => ⟨(hb.cell (p := ⟨B, l, none⟩) (World.block_lt_of_cell? _ _ hcT)).trans hcT, (hb.cell (p := ⟨gb, p, none⟩) (World.block_lt_of_cell? _ _ hcg)).trans hcg, (hb.cell (p := ⟨b1, o1 + j0, none⟩) (World.block_lt_of_cell? _ _ hcell1)).trans hcell1, (hb.cell (p := ⟨b1, o1 + l, none⟩) (World.block_lt_of_cell? _ _ hcell2)).trans hcell2, hb⟩)
                  have hjn : (j0 : Int) < n := by omega
                  have hj0' : (0 : Int) ≤ j0 := by omega
                  generalize dist (row S j0) (row S l) m = d at *
                  clear hv hne hI1 hI2 hc1 hcj hjg hj0 hbw
                  go_wp2_with (fail)
                  go_region_held3 (fun W => W.cell? ⟨B, l, none⟩ = some (.bool false) ∧ W.cell? ⟨gb, p, none⟩ = some (.int .i64 j0) ∧ W.cell? ⟨b1, o1 + j0, none⟩ = some (.slice a1 m c1) ∧ W.cell? ⟨b1, o1 + l, none⟩ = some (.slice a2 m c2) ∧ Below wr.heap.size wr W) ((refine HK.out _ ?_; first | exact (Below.refl _ _).drew | (refine bstep ?_ hb2; exact (‹_ ∧ _ ∧ _ ∧ _ ∧ Below wr.heap.size wr _›).2.2.2.2) | exact (‹_ ∧ _ ∧ _ ∧ _ ∧ Below wr.heap.size wr _›).2.2.2.2))
                    (first | (go_at_call 49; refine Calls.mono (H49.out _ ?_) ?_; exact (‹_ ∧ _ ∧ _ ∧ _ ∧ Below wr.heap.size wr _›).2.2.2.2; rintro e w' ⟨rfl, hb2⟩))
                  have hb3 := (‹_ ∧ _ ∧ _ ∧ _ ∧ Below wr.heap.size wr _›).2.2.2.2
                  have hcT3 := (‹_ ∧ _ ∧ _ ∧ _ ∧ Below wr.heap.size wr _›).1
                  clear hb2
                  rename_i hHeld
                  clear hHeld
                  have HU3 := Lib.hid (HU.out.kept hb3)
                  have hfT3 := HU3.out.free l
                  have HOG3 := Lib.hid (HOG.out.below hb3)
                  have HKB3 := Lib.hid (HKB.out.trans (.of_below (hb3.mono hszi)))
                  have hsz3 : wo.heap.size ≤ w'.heap.size := HKB3.out.size
                  clear hb3
                  by_cases hd : d ≤ most
                  · have d3 : decide (d ≤ most) = true := by simpa using hd
                    have HADD := Lib.hid (HBF.out.add hpg hll HV.out (by rw [HADJ.out]; exact d3))
                    have HU4 := Lib.hid (HU3.out.set l true)
                    have HOG4 : OwnI 3 (w'.setCell ⟨B, l, none⟩ (.bool true)) wo.heap.size (.slice (some ⟨gb, 0, none⟩) g.length cg) g := ⟨HU3.out.owns (KeepBut.setAt _ _ _) (by decide) HOG3.out.1, HOG3.out.2⟩
                    have HOG4 := Lib.hid HOG4
                    have HKB4 := Lib.hid (HKB3.out.trans (KeepBut.setAt w' l (.bool true)))
                    go_wp2_with (at_builtin; refine wpList_append_own _ rfl _ _ 23 rfl wo.heap.size 3 i0 (.int .i64 0) 1 8 Try.underlying23 hi hz0 hz1 hz2 rfl (by decide) _ _ _ rfl (HOG4.out.1.alloc _) ⟨w'.heap.size, 0, none⟩ 1 1 [.int .i64 l] rfl rfl (by simpa using cell_one_new (w'.setCell ⟨B, l, none⟩ (.bool true)) _ _) (by simp [Value.oneCell']) (by unfold maxLen; omega) (by omega) (by simp; omega) ?_; intro v1 w4 hown1 hgrow1 _; have HO2 := Lib.hid hown1; have HG := Lib.hid hgrow1; clear hown1 hgrow1)
                    have hpp := HOG4.out.pushed (x := l) ⟨by omega, by omega⟩ (by simpa using hsz3) HO2.out HG.out
                    have hu4 : ArrB w4 B (U.set l true) := HU4.out.pushed (by decide) HOG4.out.1 HG.out
                    go_roundw
                    case rel => exact ⟨l + 1, _, _, by omega, by go_num, by simp; omega, hpp.1, hu4, HADD.out, HKB4.out.trans (.of_below hpp.2)⟩
                    case measure => simp [intOf]; omega
                  · have d3 : decide (d ≤ most) = false := by simpa using hd
                    have HSK := Lib.hid (HBF.out.skip (.inr (by rw [HADJ.out]; exact d3)))
                    go_wp2_with (fail)
                    go_roundw
                    case rel => exact ⟨l + 1, _, _, by omega, by go_num, hpg, HOG3.out, HU3.out, HSK.out, HKB3.out⟩
                    case measure => simp [intOf]; omega
                · rw [hv] at hcT
                  have HSK := Lib.hid (HBF.out.skip (.inl hv))
                  clear hv hI1 hI2 hc1 hcj hjg hj0 hbw
                  go_wp2_with (fail)
                  go_quiet (fail)
                  go_wp2_with (fail)
                  go_roundw
                  case rel => exact ⟨l + 1, _, _, by omega, by go_num, hpg, HOG.out.below (bdrewN _ _), HU.out.kept (bdrewN _ _), HSK.out, HKB.out.trans (.of_below ((bdrewN _ _).mono hszi))⟩
                  case measure => simp [intOf]; omega
              · obtain rfl : n = l := by omega
                go_wp2_with (fail)
                go_roundw
                case rel => exact ⟨p + 1, _, _, by omega, by go_num, HOG.out, HU.out, HBF.out.next, HKB.out⟩
                case measure => simp [intOf]; omega
          · have hpg : g.length = p := by omega
            have HPG := Lib.hid hpg
            have hg0 : 0 < g.length := List.length_pos_of_mem HBF.out.start
            have HSO := Lib.hid (HBF.out.sorted HS.out (fun a b => prevB_closed a b) (by omega))
            have HTA := Lib.hid (HBF.out.taken HS.out (by omega))
            have HLE := Lib.hid HBF.out.len
            obtain ⟨gb, cg, rfl, hsort⟩ := sort48 wo.heap.size _ g wr HOG.out (by omega) hg0
            have HSORT := Lib.hid hsort
            have hszi : wo.heap.size ≤ wr.heap.size := HKB.out.size
            clear hpg hsort
            go_wp2_with (fail)
            refine (HSORT.out).mono ?_
            rintro e w5 ⟨rfl, hog5, hgr5, hgb5⟩
            have HU5 := Lib.hid (HU.out.grown hgr5 (HU.out.apart (by decide) HOG.out.1))
            have hk5 := HKB.out.trans (.of_below ((Below.refl wo.heap.size wr).grown hgr5 hszi (fun j hj => by cases hj; exact hgb5)))
            obtain ⟨vs, hvs, hnext⟩ := HO.out.carried (by decide) (by omega) (fun e' v n xs he ho => HT.out.owns hk5 (by rcases he with rfl | rfl <;> decide) ho) hk5.size hog5
            rw [HSO.out] at hnext
            have HK5 := Lib.hid hk5
            have HVS := Lib.hid hvs
            have HNX := Lib.hid hnext
            have hcl := cluU_len (connB adj n) n k
            have hs5 : wo.heap.size ≤ w5.heap.size := hk5.size
            clear hog5 hgr5 hk5 hvs hnext
            generalize cluU (connB adj n) n k = cl at *
            go_wp2_with (at_builtin; refine wpList_append_own _ rfl _ _ 22 rfl B 23 r0 (.slice none 0 0) 1 24 Try.underlying22 ri rz0 rz1 rz2 rfl (by decide) _ _ _ rfl (HVS.out.alloc _) ⟨w5.heap.size, 0, none⟩ 1 1 [.slice (some ⟨gb, 0, none⟩) g.length cg] rfl rfl (cell_one_new _ _ _) (by simp [Value.oneCell']) (by unfold maxLen; omega) (by omega) (by simp; omega) ?_; intro v1 w6 hown1 hgrow1 _; have HO2 := Lib.hid hown1; have HG := Lib.hid hgrow1; clear hown1 hgrow1)
            have hpp := HNX.out _ _ _ HO2.out HG.out
            have hu6 : ArrB w6 B U := HU5.out.pushed (by decide) HVS.out HG.out
            go_roundw
            case rel => exact ⟨k + 1, U, by omega, by go_num, by rw [HNEW.out]; exact hpp.1, hu6, HLE.out, HTA.out, (HB.out.trans (HK5.out.below (Nat.le_refl _) (by omega))).trans hpp.2⟩
            case measure => simp [intOf]; omega
      · rw [htv, hP] at hct
        have HNEW := Lib.hid (cluU_no (r := connB adj n) (n := n) (k := k) (by rw [isL_prev, hP]; rfl))
        have HTA := Lib.hid (show ∀ j, j < n → tk T j = prevB adj n (k + 1) j from fun j hj => by rw [HTK.out j hj, prevB_skip hP])
        clear htv hP
        go_wp2_with (fail)
        go_roundw
        case rel => exact ⟨k + 1, T, by omega, by go_num, by rw [HNEW.out]; exact HO.out, HT.out, HTL.out, HTA.out, HB.out⟩
        case measure => simp [intOf]; omega
    · obtain rfl : n = k := by omega
      go_wp2_with (fail)
      go_ret2
      exact ⟨_, rfl, by rw [HBB.out]; exact HO.out, by rw [HBB.out]; exact HB.out⟩

end Go.Proofs.Ytbcnbchpcbglhaa
