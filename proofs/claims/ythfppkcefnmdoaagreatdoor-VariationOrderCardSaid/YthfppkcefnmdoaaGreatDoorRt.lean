/-
  The readings in columns: the reference's way.
-/
import Derived.Test.YthfppkcefnmdoaaGreatDoorNf
import Derived.Test.YthfppkcefnmdoaaGreatDoorNh
namespace Go.Proofs.YthfppkcefnmdoaaGreatDoor
open Go.RowKit Go.Ap Go.Shelf Go.Proofs

attribute [local go_sem] Oper.semAt_some bs_toList empty_toList bs_size bs_extract
set_option maxRecDepth 100000 in
set_option maxHeartbeats 8000000 in
theorem readingsR (x : Coll) (a1 : Option Addr) (n1 c1 : Nat) (a2 : Option Addr) (n2 c2 : Nat) (a3 : Option Addr) (n3 c3 : Nat) (w : World) (h : CollM w a1 a2 a3 n1 n2 n3 x) (hv : Val x) (lo hi : Nat) (hlh : lo ≤ hi) (hh : hi ≤ x.columns.length) (h32 : x.columns.length ≤ 1048576) :
    Calls Tryz.prog 67 #[collV x.sec a1 n1 c1 a2 n2 c2 a3 n3 c3, .int .i64 lo, .int .i64 hi] w fun e w' => ∃ v, e = .returned v ∧ OwnRd w' w.heap.size v (rdsL x lo hi) ∧ Below w.heap.size w w' := by
  obtain ⟨i0, hi0, hz0, hz1, hz2⟩ := info_parts infoRd
  obtain ⟨i9, hi9, hy0, hy1, hy2⟩ := info_parts infoInt
  have hl1 := h.sigla.len
  have hle := hv.le
  have HL1 := Lib.hid hl1
  have HCE := Lib.hid (fun s (hs : s < x.sigla.length) W (hb : Below w.heap.size w W) => readingR x a1 n1 c1 a2 n2 c2 a3 n3 c3 W (h.mono (Nat.le_refl _) hb) hv lo hi s hlh hh hs h32)
  have HSM := Lib.hid (show ∀ k, k ≤ 32 → RdS (rdsN x lo hi k) from fun k hk => (⟨by have := rdsN_len x lo hi k; omega, fun r hr => ⟨by
    obtain ⟨⟨a, ha⟩, _, h3⟩ := (rdsN_at x lo hi k).src r hr
    obtain ⟨j, _, _, he⟩ := h3 a (List.mem_of_getElem? ha)
    have := readL_len x j lo hi
    rw [← he]
    omega, by have := rdsN_src x lo hi k r hr; omega⟩⟩ : RdS (rdsN x lo hi k)))
  clear h hv
  unfold collV at HCE ⊢
  go_enter Tryz.func67, Tryz.ntmps67
  go_wp2_with (fail)
  obtain ⟨W4, hW4⟩ : ∃ W4, w.alloc (.cells #[.string (bs x.sec), .slice a1 n1 c1, .slice a2 n2 c2, .slice a3 n3 c3] 26) = W4 := ⟨_, rfl⟩
  have B4 : Below w.heap.size w W4 := by rw [← hW4]; exact balloc _ _
  have K0 := Lib.hid (show W4.cell? ⟨w.heap.size, 0, none⟩ = some (.string (bs x.sec)) by rw [← hW4]; exact cell_fresh rfl rfl)
  have K1 := Lib.hid (show W4.cell? ⟨w.heap.size, 1, none⟩ = some (.slice a1 n1 c1) by rw [← hW4]; exact cell_fresh rfl rfl)
  have K2 := Lib.hid (show W4.cell? ⟨w.heap.size, 2, none⟩ = some (.slice a2 n2 c2) by rw [← hW4]; exact cell_fresh rfl rfl)
  have K3 := Lib.hid (show W4.cell? ⟨w.heap.size, 3, none⟩ = some (.slice a3 n3 c3) by rw [← hW4]; exact cell_fresh rfl rfl)
  have hsz4 : w.heap.size ≤ W4.heap.size := B4.size
  have hz4 : W4.heap.size = w.heap.size + 1 := by rw [← hW4]; simp
  have HB4 := Lib.hid B4
  rw [hW4]
  clear hW4 B4
  go_loopw [7, 8] (fun ov kv wr => ∃ k : Nat, k ≤ n1 ∧ kv = .int .i64 k ∧ OwnRd wr W4.heap.size ov (rdsN x lo hi k) ∧ Below W4.heap.size W4 wr) (fun _ kv _ => n1 - (intOf kv).toNat)
  case atStart => exact ⟨0, Nat.zero_le _, rfl, by rw [← hz4]; exact OwnRd.empty _ (Nat.le_refl _), balloc _ _⟩
  case round =>
    obtain ⟨k, hk, rfl, ho, hb⟩ := hrel
    have HB := Lib.hid hb
    have hsz := hb.size
    obtain ⟨a7, c7, rfl, hR7⟩ := ho.rdgs (HSM.out k (by omega))
    obtain ⟨n7, hn7⟩ : ∃ n7, (rdsN x lo hi k).length = n7 := ⟨_, rfl⟩
    rw [hn7] at ho hR7 ⊢
    have hn7b : n7 ≤ 32 := by have := rdsN_len x lo hi k; omega
    have HN7 := Lib.hid hn7
    have HO := Lib.hid ho
    have HR7 := Lib.hid hR7
    clear ho hR7 hn7
    by_cases hkn : k < n1
    · have q0 := cell_keep hb K0.out
      have q1 := cell_keep hb K1.out
      have q2 := cell_keep hb K2.out
      have q3 := cell_keep hb K3.out
      have HC := Lib.hid (HCE.out k (by omega) wr (bstep HB4.out hb))
      have HS := Lib.hid (show rdsN x lo hi (k + 1) = addR (rdsN x lo hi k) (readL x k lo hi) (k : Int) from rfl)
      have hwl := readL_len x k lo hi
      obtain ⟨ws, hws⟩ : ∃ ws, readL x k lo hi = ws := ⟨_, rfl⟩
      rw [hws] at HC HS hwl
      clear hb hws
      go_wp2_with (fail)
      refine HC.out.mono ?_
      rintro e w2 ⟨v, rfl, hv5, hb2⟩
      obtain ⟨a5, c5, rfl, hS5⟩ := hv5.strs (by omega)
      have HV5 := Lib.hid hv5
      obtain ⟨m5, hm5⟩ : ∃ m5, ws.length = m5 := ⟨_, rfl⟩
      have HS5 := Lib.hid hS5
      rw [hm5] at HV5 HS5 ⊢
      have HB2 := Lib.hid hb2
      have hsz2 := Nat.le_trans hsz hb2.size
      clear hb2 hv5 hS5 hm5 hwl q0 q1 q2 q3
      go_wp2_with (fail)
      go_loopw [10, 11] (fun fv jv wq => ∃ (j : Nat) (f : Bool), j ≤ n7 ∧ jv = .int .i64 j ∧ fv = .bool f ∧ Below W4.heap.size W4 wq ∧ (f = false → Below w2.heap.size w2 wq ∧ ∀ i r, i < j → (rdsN x lo hi k)[i]? = some r → r.1 ≠ ws) ∧ (f = true → OwnRd wq W4.heap.size (.slice a7 n7 c7) (rdsN x lo hi (k + 1)))) (fun _ jv _ => n7 - (intOf jv).toNat)
      case atStart => exact ⟨0, false, Nat.zero_le _, rfl, rfl, HB.out.trans (HB2.out.mono hsz), fun _ => ⟨Below.refl _ _, fun i r hi => by omega⟩, fun h => by cases h⟩
      case round =>
        obtain ⟨wq, rfl⟩ : ∃ wq : World, wq = wr := ⟨_, rfl⟩
        obtain ⟨j, f, hj, rfl, rfl, hbq, hno, hyes⟩ := hrel
        have HBQ := Lib.hid hbq
        have HNO := Lib.hid hno
        have HYES := Lib.hid hyes
        clear hbq hno hyes
        cases f
        · obtain ⟨hbw, hno⟩ := HNO.out rfl
          have HBW := Lib.hid hbw
          have HN := Lib.hid hno
          clear HYES HNO hno
          by_cases hjn : j < n7
          · have hbr := bstep HB2.out hbw
            have HBR := Lib.hid hbr
            have HO3 := Lib.hid (HO.out.below hbr)
            obtain ⟨r, hr⟩ : ∃ r, (rdsN x lo hi k)[j]? = some r := ⟨_, List.getElem?_eq_getElem (by rw [HN7.out]; exact hjn)⟩
            obtain ⟨g, cap, u, z, hv7, hbg, cu, cz, ou, oz⟩ := HO3.out.at hr
            rw [HN7.out] at hv7
            injection hv7 with ha7 _ hc7
            subst ha7 hc7
            have hrs := (HSM.out k (by omega)).2 r (List.mem_of_getElem? hr)
            obtain ⟨a8, c8, rfl, hS8⟩ := ou.strs hrs.1
            have HCA := Lib.hid (sameW a8 a5 c8 c5 r.1.length m5 r.1 ws wq hS8 (HS5.out.mono (Nat.le_refl _) hbw))
            have HR := Lib.hid hr
            have HZ := Lib.hid oz
            have hrl : r.2.length ≤ 32 := by have := rdsN_src x lo hi k r (List.mem_of_getElem? hr); omega
            have HCZ := Lib.hid cz
            have d1 : (j : Int) < (n7 : Int) := by omega
            obtain ⟨m8, hm8⟩ : ∃ m8, r.1.length = m8 := ⟨_, rfl⟩
            rw [hm8] at HCA cu
            by_cases hw : r.1 = ws
            · have HS2 := Lib.hid (show rdsN x lo hi (k + 1) = (rdsN x lo hi k).set j (r.1, r.2 ++ [(k : Int)]) by
                rw [HS.out, hw]
                exact addR_at (l := r.2) (by rw [hr, ← hw]) (fun i y hi hy => HN.out i y hi hy))
              rw [show decide (r.1 = ws) = true from decide_eq_true hw] at HCA
              clear hw hr oz ou hbw hbr hbg hS8 hrs cz hm8
              go_wp2_with (fail)
              refine HCA.out.mono ?_
              rintro e w3 ⟨rfl, hb3⟩
              have HB3 := Lib.hid hb3
              have HB4' := Lib.hid (bstep HBR.out hb3)
              have hsz3 := (bstep HBR.out hb3).size
              have HO4 := Lib.hid (HO3.out.below hb3)
              have HZ4 := Lib.hid (HZ.out.below hb3)
              have hcz4 := cell_keep hb3 HCZ.out
              have HCZ4 := Lib.hid hcz4
              clear hb3 cu
              go_wp2_with (at_builtin; refine wpList_append_own_at _ rfl _ _ 37 rfl W4.heap.size 3 i9 (.int .i64 0) 1 8 Tryz.underlying37 hi9 hy0 hy1 hy2 rfl (by decide) _ _ _ rfl (HZ4.out.1.alloc _) ⟨w3.heap.size, 0, none⟩ 1 1 [.int .i64 k] rfl rfl (cell_one_new _ _ _) (by simp [Value.oneCell']) (by unfold maxLen; omega) (by omega) (by simp; omega) ?_; intro v1 w4 hown1 hgrow1 _ hblk1; obtain ⟨g', cap', rfl⟩ := ownsRow_succ hown1; have hfree := OwnRd.free (k := j * 2 + 1) HO4.out HZ4.out HN7.out.symm hgrow1; have hstay := OwnRd.stays (k := j * 2 + 1) HO4.out HZ4.out HN7.out.symm hgrow1 HCZ4.out; have HW3 := Lib.hid hown1; have HG := Lib.hid hgrow1; have HBL := Lib.hid hblk1; clear hown1 hgrow1 hblk1)
              obtain ⟨j1, j2⟩ := OwnRd.more (by rw [HN7.out]; exact HO4.out) (by omega) HR.out HCZ4.out ⟨by omega, by omega⟩ HW3.out HG.out HBL.out
              rw [HN7.out] at j1
              go_roundw
              case rel => exact ⟨j + 1, true, by omega, by simp, rfl, (HB.out.trans (HB4'.out.mono hsz)).trans j2, fun h => (by cases h), fun _ => by rw [HS2.out]; exact j1⟩
              case measure => simp [intOf]; omega
            · have HNE := Lib.hid hw
              rw [show decide (r.1 = ws) = false from decide_eq_false hw] at HCA
              clear hw hr oz ou hbw hbr hbg hS8 hrs cz hm8
              go_wp2_with (fail)
              refine HCA.out.mono ?_
              rintro e w3 ⟨rfl, hb3⟩
              have HB3 := Lib.hid hb3
              clear hb3 cu
              go_wp2_with (fail)
              go_roundw
              case rel => exact ⟨j + 1, false, by omega, by simp, rfl, HB.out.trans ((bstep HBR.out HB3.out).mono hsz), fun _ => ⟨bstep HBW.out HB3.out, fun i y hi hy => by
                by_cases hij : i = j
                · subst hij; rw [HR.out] at hy; cases hy; exact HNE.out
                · exact HN.out i y (by omega) hy⟩, fun h => (by cases h)⟩
              case measure => simp [intOf]; omega
          · obtain rfl : j = n7 := by omega
            have HS2 := Lib.hid (show rdsN x lo hi (k + 1) = rdsN x lo hi k ++ [(ws, [(k : Int)])] by
              rw [HS.out, addR_none fun r hr => ?_]
              obtain ⟨i, hi⟩ := List.getElem?_of_mem hr
              exact HN.out i r (by rw [← HN7.out]; exact (List.getElem?_eq_some_iff.1 hi).1) hi)
            have hsz3 := Nat.le_trans hsz2 hbw.size
            have hb7 := balloc wq (.cells #[.int .i64 k] 3)
            have hb8 := balloc (wq.alloc (.cells #[.int .i64 k] 3)) (.cells #[.slice a5 m5 c5, .slice (some ⟨wq.heap.size, 0, none⟩) 1 1] 39)
            obtain ⟨vs, hrow, hnx⟩ := HO.out.ready (Nat.le_trans (by omega) hsz) (bstep (bstep HB2.out hbw) hb7) (((HV5.out.mono hsz).below hbw).below hb7) (OwnI.one (by have := hbw.size; have := HB2.out.size; omega) (k : Int) ⟨by omega, by omega⟩)
            rw [HN7.out] at hrow hnx
            have HROW := Lib.hid hrow
            have HNX := Lib.hid hnx
            have HB7 := Lib.hid (HB.out.trans ((bstep (bstep HB2.out hbw) hb7).mono hsz))
            have HNW := Lib.hid (show ∀ (i : Nat) (u : Value), [Value.slice a5 m5 c5, .slice (some ⟨wq.heap.size, 0, none⟩) 1 1][i]? = some u → ((wq.alloc (.cells #[.int .i64 k] 3)).alloc (.cells #[.slice a5 m5 c5, .slice (some ⟨wq.heap.size, 0, none⟩) 1 1] 39)).cell? ((⟨wq.heap.size + 1, 0, none⟩ : Addr).add i) = some u from by
              have := cell_two_new (wq.alloc (.cells #[.int .i64 k] 3)) (.slice a5 m5 c5) (.slice (some ⟨wq.heap.size, 0, none⟩) 1 1) 39
              rw [World.size_alloc] at this
              exact this)
            clear hrow hnx hb7 hb8 hbw
            go_wp2_with (at_builtin; refine wpList_append_own _ rfl _ _ 34 rfl W4.heap.size 39 i0 (.agg #[.slice none 0 0, .slice none 0 0]) 2 48 Tryz.underlying34 hi0 hz0 hz1 hz2 rfl (by decide) _ _ _ rfl (HROW.out.alloc _) ⟨wq.heap.size + 1, 0, none⟩ 1 1 [.slice a5 m5 c5, .slice (some ⟨wq.heap.size, 0, none⟩) 1 1] rfl rfl HNW.out (by simp [Value.oneCell']) (by unfold maxLen; omega) (by omega) (by simp; omega) ?_; intro v1 w4 hown1 hgrow1 _; have HW3 := Lib.hid hown1; have HG := Lib.hid hgrow1; clear hown1 hgrow1)
            obtain ⟨j1, j2⟩ := HNX.out _ _ _ HW3.out HG.out
            go_roundw
            case rel => exact ⟨k + 1, by omega, by simp, by rw [HS2.out]; exact j1, HB7.out.trans j2⟩
            case measure => simp [intOf]; omega
        · have HO4 := Lib.hid (HYES.out rfl)
          clear HYES HNO
          by_cases hjn : j < n7
          · go_wp2_with (fail)
            go_roundw
            case rel => exact ⟨k + 1, by omega, by simp, HO4.out, HBQ.out⟩
            case measure => simp [intOf]; omega
          · go_wp2_with (fail)
            go_roundw
            case rel => exact ⟨k + 1, by omega, by simp, HO4.out, HBQ.out⟩
            case measure => simp [intOf]; omega
    · obtain rfl : k = n1 := by omega
      have q1 := cell_keep hb K1.out
      clear hb
      have HRE := Lib.hid (show rdsN x lo hi k = rdsL x lo hi by unfold rdsL; rw [HL1.out])
      go_wp2_with (fail)
      go_ret
      exact ⟨_, rfl, by rw [← HRE.out]; have := HO.out.mono hsz4; exact this, bstep HB4.out HB.out⟩
end Go.Proofs.YthfppkcefnmdoaaGreatDoor
