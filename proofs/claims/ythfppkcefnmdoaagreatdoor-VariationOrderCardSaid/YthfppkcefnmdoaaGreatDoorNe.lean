import Derived.Test.YthfppkcefnmdoaaGreatDoorGr
import Derived.Test.YthfppkcefnmdoaaGreatDoorPl
import Derived.Test.YthfppkcefnmdoaaGreatDoorNg

/-
  The word of a source in a column.
-/


namespace Go.Proofs.YthfppkcefnmdoaaGreatDoor
open Go.RowKit Go.Ap Go.Shelf Go.Proofs

attribute [local go_sem] Oper.semAt_some bs_toList empty_toList bs_size bs_extract

set_option maxHeartbeats 2000000 in
theorem cellP (x : Coll) (a1 : Option Addr) (n1 c1 : Nat) (a2 : Option Addr) (n2 c2 : Nat) (a3 : Option Addr) (n3 c3 : Nat) (w : World) (h : CollM w a1 a2 a3 n1 n2 n3 x) (hv : Val x) (i s : Nat) (hi : i < x.columns.length) (hs : s < x.sigla.length) :
    Calls Tryz.prog 92 #[collV x.sec a1 n1 c1 a2 n2 c2 a3 n3 c3, .int .i64 i, .int .i64 s] w fun e w' => e = .returned (.tuple #[.string (bs ((cellO x i s).getD [])), .bool (cellO x i s).isSome]) ∧ Below w.heap.size w w' := by
  unfold collV
  have hl1 := h.sigla.len
  have hl2 := h.tokens.len
  have hl3 := h.columns.len
  have hs2 := h.tokens.small
  have hs3 := h.columns.small
  have h12 := hv.toks
  have hsl : s < (lensT x.tokens).length := by rw [lensT_len]; omega
  have hb := balloc w (.cells #[.string (bs x.sec), .slice a1 n1 c1, .slice a2 n2 c2, .slice a3 n3 c3] 26)
  obtain ⟨c, b, off, v, hc, rfl, hcv0, a', n', c', rfl, hI⟩ := h.columns.at (show i < n3 by omega)
  have hcr := hv.cols c (List.mem_of_getElem? hc)
  have hln := hI.len
  have hsn := hI.small
  have hcl := hcr.1
  rw [lensT_len] at hcl
  obtain ⟨bc, oc, rfl, hcc⟩ := Ints.at hI (by omega)
  have hcx0 := hcc s (by omega)
  have hcv := cell_keep hb hcv0
  have hcx := cell_keep hb hcx0
  rcases hcr.2 s hsl with hm | ⟨h0, hlt⟩
  · rw [cellO_neg hc (by omega)]
    rw [hm] at hcx
    clear hcc hcx0 hcv0 hI h hv hm hcr hb hc
    go_enter Tryz.func92, Tryz.ntmps92
    go_wp2_with (fail)
    go_ret2
    exact ⟨rfl, balloc _ _⟩
  · obtain ⟨n, hn⟩ : ∃ n : Nat, nth c s = n := ⟨(nth c s).toNat, by omega⟩
    obtain ⟨l, b5, o5, v5, hl5, rfl, hcv5, a5, n5, c5, rfl, ht5⟩ := h.tokens.at (show s < n2 by omega)
    have hl5n := ht5.len
    have hs5 := ht5.small
    rw [lensT_at hl5] at hlt
    obtain ⟨t, b6, o6, ht, rfl, ⟨⟨q0, _, _, _, _, _⟩, _⟩⟩ := ht5.at (show n < n5 by omega)
    have hnn : n < n5 := by omega
    rw [cellO_pos hc hn hl5 ht]
    rw [hn] at hcx
    have k5 := cell_keep hb hcv5
    have k6 := cell_keep hb q0
    clear hcc hcx0 hcv0 hI h hv hcr hb hc hn hlt h0 hl5 ht hcv5 ht5 q0
    go_enter Tryz.func92, Tryz.ntmps92
    go_wp2_with (fail)
    go_ret2
    exact ⟨rfl, balloc _ _⟩
end Go.Proofs.YthfppkcefnmdoaaGreatDoor

/-
  Columns that are common.
-/

namespace Go.Proofs.YthfppkcefnmdoaaGreatDoor
open Go.RowKit Go.Ap Go.Shelf Go.Proofs

attribute [local go_sem] Oper.semAt_some bs_toList empty_toList bs_size bs_extract

set_option maxRecDepth 100000 in
set_option maxHeartbeats 4000000 in
theorem commonP (x : Coll) (a1 : Option Addr) (n1 c1 : Nat) (a2 : Option Addr) (n2 c2 : Nat) (a3 : Option Addr) (n3 c3 : Nat) (w : World) (h : CollM w a1 a2 a3 n1 n2 n3 x) (hv : Val x) (i : Nat) (hi : i < x.columns.length) :
    Calls Tryz.prog 82 #[collV x.sec a1 n1 c1 a2 n2 c2 a3 n3 c3, .int .i64 i] w fun e w' => e = .returned (.bool (comB x i)) ∧ Below w.heap.size w w' := by
  have hl1 := h.sigla.len
  have hs1 := h.sigla.small
  have hp := hv.pos
  have HCE := Lib.hid (fun s (hs : s < x.sigla.length) W (hb : Below w.heap.size w W) => cellP x a1 n1 c1 a2 n2 c2 a3 n3 c3 W (h.mono (Nat.le_refl _) hb) hv i s hi hs)
  clear h hv
  unfold collV at HCE ⊢
  go_enter Tryz.func82, Tryz.ntmps82
  go_wp2_with (fail)
  obtain ⟨W4, hW4⟩ : ∃ W4, w.alloc (.cells #[.string (bs x.sec), .slice a1 n1 c1, .slice a2 n2 c2, .slice a3 n3 c3] 26) = W4 := ⟨_, rfl⟩
  have B4 : Below w.heap.size w W4 := by rw [← hW4]; exact balloc _ _
  have k0 : W4.cell? ⟨w.heap.size, 0, none⟩ = some (.string (bs x.sec)) := by rw [← hW4]; exact cell_fresh rfl rfl
  have k1 : W4.cell? ⟨w.heap.size, 1, none⟩ = some (.slice a1 n1 c1) := by rw [← hW4]; exact cell_fresh rfl rfl
  have k2 : W4.cell? ⟨w.heap.size, 2, none⟩ = some (.slice a2 n2 c2) := by rw [← hW4]; exact cell_fresh rfl rfl
  have k3 : W4.cell? ⟨w.heap.size, 3, none⟩ = some (.slice a3 n3 c3) := by rw [← hW4]; exact cell_fresh rfl rfl
  rw [hW4]
  clear hW4
  refine (HCE.out 0 hp _ B4).mono ?_
  rintro e w1 ⟨rfl, hb1⟩
  have Q0 := Lib.hid (cell_keep hb1 k0)
  have Q1 := Lib.hid (cell_keep hb1 k1)
  have Q2 := Lib.hid (cell_keep hb1 k2)
  have Q3 := Lib.hid (cell_keep hb1 k3)
  have B5 := Lib.hid (bstep B4 hb1)
  clear k0 k1 k2 k3 hb1 B4
  have q1 := Q1.out
  obtain ⟨o, ho⟩ : ∃ o, cellO x i 0 = o := ⟨_, rfl⟩
  have HO := Lib.hid ho
  rw [ho]
  clear ho
  go_wp2_with (fail)
  clear q1
  go_loopw [19] (fun kv wr => ∃ k : Nat, k ≤ n1 ∧ kv = .int .i64 k ∧ Below w1.heap.size w1 wr ∧ ∀ s, s < k → ∃ u, o = some u ∧ cellO x i s = some u) (fun kv _ => n1 - (intOf kv).toNat)
  case atStart => exact ⟨0, Nat.zero_le _, rfl, Below.refl _ _, fun s hs => by omega⟩
  case round =>
    obtain ⟨k, hk, rfl, hbk, hj⟩ := hrel
    have HJ := Lib.hid hj
    have HB := Lib.hid hbk
    clear hj
    by_cases hkn : k < n1
    · have q0 := cell_keep hbk Q0.out
      have q1 := cell_keep hbk Q1.out
      have q2 := cell_keep hbk Q2.out
      have q3 := cell_keep hbk Q3.out
      have HC := Lib.hid (HCE.out k (by omega) wr (bstep B5.out hbk))
      obtain ⟨p, hp2⟩ : ∃ p, cellO x i k = p := ⟨_, rfl⟩
      have HP := Lib.hid hp2
      rw [hp2] at HC
      clear hp2 hbk
      go_wp2_with (fail)
      refine HC.out.mono ?_
      rintro e w2 ⟨rfl, hb2⟩
      have HB2 := Lib.hid (bstep HB.out hb2)
      clear hb2 q0 q1 q2 q3
      cases o with
      | none =>
        have HR := Lib.hid (com_void HO.out)
        go_wp2_with (fail)
        go_ret
        exact ⟨ret_b HR.out.symm, bstep B5.out HB2.out⟩
      | some u =>
        cases p with
        | none =>
          have HR := Lib.hid (com_ne (x := x) (i := i) (s := k) (by omega) (by rw [HO.out, HP.out]; simp))
          go_wp2_with (fail)
          go_ret
          exact ⟨ret_b HR.out.symm, bstep B5.out HB2.out⟩
        | some v =>
          by_cases huv : v = u
          · have eu : (v == u) = true := by rw [beq_iff_eq]; exact huv
            have HE := Lib.hid huv
            clear huv
            go_wp2_with (fail)
            refine ⟨?rr, ?measure⟩
            case rr =>
             repeat apply Exists.intro
             refine ⟨?_, rfl⟩
             exact ⟨k + 1, by omega, by simp, HB2.out, fun s hs => by
              by_cases hsk : s = k
              · exact ⟨u, rfl, by rw [hsk, HP.out, HE.out]⟩
              · exact HJ.out s (by omega)⟩
            case measure => simp [intOf]; omega
          · have eu : (v == u) = false := by rw [beq_eq_false_iff_ne]; exact huv
            have HR := Lib.hid (com_ne (x := x) (i := i) (s := k) (by omega) (by rw [HO.out, HP.out]; simpa using huv))
            clear huv
            go_wp2_with (fail)
            go_ret
            exact ⟨ret_b HR.out.symm, bstep B5.out HB2.out⟩
    · obtain rfl : k = n1 := by omega
      have HR := Lib.hid (show comB x i = true by
        obtain ⟨u, h1, h2⟩ := HJ.out 0 (by omega)
        exact com_yes (by rw [HO.out, h1]) (fun s hs => by
          obtain ⟨u', h3, h4⟩ := HJ.out s (by omega)
          rw [h1] at h3
          cases h3
          exact h4))
      clear hbk
      go_wp2_with (fail)
      go_ret
      exact ⟨ret_b HR.out.symm, bstep B5.out HB.out⟩
end Go.Proofs.YthfppkcefnmdoaaGreatDoor

/-
  The reading of a source.
-/

namespace Go.Proofs.YthfppkcefnmdoaaGreatDoor
open Go.RowKit Go.Ap Go.Shelf Go.Proofs

attribute [local go_sem] Oper.semAt_some bs_toList empty_toList bs_size bs_extract
theorem infoStr : (Tryz.prog.info? 9).map (fun i => (i.zero, i.size, i.bytes)) = some (some (.string { data := #[] }), 1, 16) := by kernel_rfl

set_option maxRecDepth 100000 in
set_option maxHeartbeats 4000000 in
theorem readingP (x : Coll) (a1 : Option Addr) (n1 c1 : Nat) (a2 : Option Addr) (n2 c2 : Nat) (a3 : Option Addr) (n3 c3 : Nat) (w : World) (h : CollM w a1 a2 a3 n1 n2 n3 x) (hv : Val x) (lo hi s : Nat) (hlh : lo ≤ hi) (hh : hi ≤ x.columns.length) (hs : s < x.sigla.length) (h32 : x.columns.length ≤ 1048576) :
    Calls Tryz.prog 69 #[collV x.sec a1 n1 c1 a2 n2 c2 a3 n3 c3, .int .i64 lo, .int .i64 hi, .int .i64 s] w fun e w' => ∃ v, e = .returned v ∧ OwnS w' w.heap.size v (readL x s lo hi) ∧ Below w.heap.size w w' := by
  obtain ⟨i0, hi0, hz0, hz1, hz2⟩ := info_parts infoStr
  have HCE := Lib.hid (fun i (hi : i < x.columns.length) W (hb : Below w.heap.size w W) => cellP x a1 n1 c1 a2 n2 c2 a3 n3 c3 W (h.mono (Nat.le_refl _) hb) hv i s hi hs)
  clear h hv hs
  unfold collV at HCE ⊢
  go_enter Tryz.func69, Tryz.ntmps69
  go_wp2_with (fail)
  obtain ⟨W4, hW4⟩ : ∃ W4, w.alloc (.cells #[.string (bs x.sec), .slice a1 n1 c1, .slice a2 n2 c2, .slice a3 n3 c3] 26) = W4 := ⟨_, rfl⟩
  have B4 : Below w.heap.size w W4 := by rw [← hW4]; exact balloc _ _
  have K0 := Lib.hid (show W4.cell? ⟨w.heap.size, 0, none⟩ = some (.string (bs x.sec)) by rw [← hW4]; exact cell_fresh rfl rfl)
  have K1 := Lib.hid (show W4.cell? ⟨w.heap.size, 1, none⟩ = some (.slice a1 n1 c1) by rw [← hW4]; exact cell_fresh rfl rfl)
  have K2 := Lib.hid (show W4.cell? ⟨w.heap.size, 2, none⟩ = some (.slice a2 n2 c2) by rw [← hW4]; exact cell_fresh rfl rfl)
  have K3 := Lib.hid (show W4.cell? ⟨w.heap.size, 3, none⟩ = some (.slice a3 n3 c3) by rw [← hW4]; exact cell_fresh rfl rfl)
  have hsz4 : w.heap.size ≤ W4.heap.size := B4.size
  have HB4 := Lib.hid B4
  rw [hW4]
  clear hW4 B4
  go_loopw [9, 10] (fun ov kv wr => ∃ k : Nat, lo ≤ k ∧ k ≤ hi ∧ kv = .int .i64 k ∧ OwnS wr W4.heap.size ov (readL x s lo k) ∧ Below W4.heap.size W4 wr) (fun _ kv _ => hi - (intOf kv).toNat)
  case atStart => exact ⟨lo, Nat.le_refl _, hlh, rfl, by rw [readL_zero]; exact OwnS.nil _ _, Below.refl _ _⟩
  case round =>
    obtain ⟨k, hlk, hk, rfl, ho, hb⟩ := hrel
    have HO := Lib.hid ho
    have HB := Lib.hid hb
    have hsz := hb.size
    clear ho
    by_cases hkh : k < hi
    · have q0 := cell_keep hb K0.out
      have q1 := cell_keep hb K1.out
      have q2 := cell_keep hb K2.out
      have q3 := cell_keep hb K3.out
      have HC := Lib.hid (HCE.out k (by omega) wr (bstep HB4.out hb))
      have HS := Lib.hid (readL_succ (x := x) (s := s) hlk)
      have hrl := readL_len x s lo k
      obtain ⟨o, ho⟩ : ∃ o, cellO x k s = o := ⟨_, rfl⟩
      rw [ho] at HC HS
      clear ho hb
      cases o with
      | none =>
        go_wp2_with (fail)
        refine HC.out.mono ?_
        rintro e w2 ⟨rfl, hb2⟩
        have HB2 := Lib.hid (bstep HB.out hb2)
        have HO2 := Lib.hid (HO.out.below hb2)
        clear hb2 q0 q1 q2 q3
        go_wp2_with (fail)
        exact ⟨⟨k + 1, by omega, by omega, by simp, by rw [HS.out]; simpa using HO2.out, HB2.out⟩, by simp [intOf]; omega⟩
      | some u =>
        go_wp2_with (fail)
        refine HC.out.mono ?_
        rintro e w2 ⟨rfl, hb2⟩
        have HB2 := Lib.hid (bstep HB.out hb2)
        have HO2 := Lib.hid (HO.out.below hb2)
        have hsz2 := Nat.le_trans hsz hb2.size
        obtain ⟨m, hm⟩ : ∃ m, (readL x s lo k).length = m := ⟨_, rfl⟩
        rw [hm] at hrl
        have HM := Lib.hid hm
        have HOW := Lib.hid (show w2.ownsRow W4.heap.size 9 1 _ m ((readL x s lo k).map sv) by have := HO2.out; unfold OwnS at this; rwa [hm] at this)
        clear hb2 q0 q1 q2 q3 hm
        go_wp2_with (at_builtin; refine wpList_append_own _ rfl _ _ 22 rfl W4.heap.size 9 i0 (.string { data := #[] }) 1 16 Tryz.underlying22 hi0 hz0 hz1 hz2 rfl (by decide) _ _ _ rfl (HOW.out.alloc _) ⟨w2.heap.size, 0, none⟩ 1 1 [.string (bs u)] rfl rfl (cell_one_new _ _ _) (by simp [Value.oneCell']) (by unfold maxLen; omega) (by omega) (by simp; omega) ?_; intro v1 w4 hown1 hgrow1 _; have HO3 := Lib.hid hown1; have HG := Lib.hid hgrow1; clear hown1 hgrow1)
        obtain ⟨k1, k2⟩ := OwnS.pushed (x := u) HO2.out hsz2 (by rw [HM.out]; exact HO3.out) HG.out
        go_roundw
        case rel => exact ⟨k + 1, by omega, by omega, by simp, by rw [HS.out]; exact k1, HB2.out.trans k2⟩
        case measure => simp [intOf]; omega
    · obtain rfl : k = hi := by omega
      clear hb
      go_wp2_with (fail)
      go_ret
      exact ⟨_, rfl, HO.out.mono hsz4, bstep HB4.out HB.out⟩
end Go.Proofs.YthfppkcefnmdoaaGreatDoor

/-
  Columns that are common, as the reference says it.
-/

namespace Go.Proofs.YthfppkcefnmdoaaGreatDoor
open Go.RowKit Go.Ap Go.Shelf Go.Proofs

attribute [local go_sem] Oper.semAt_some bs_toList empty_toList bs_size bs_extract

set_option maxRecDepth 100000 in
set_option maxHeartbeats 4000000 in
theorem commonR (x : Coll) (a1 : Option Addr) (n1 c1 : Nat) (a2 : Option Addr) (n2 c2 : Nat) (a3 : Option Addr) (n3 c3 : Nat) (w : World) (h : CollM w a1 a2 a3 n1 n2 n3 x) (hv : Val x) (i : Nat) (c : List Int) (hc : x.columns[i]? = some c) (a : Option Addr) (n cp : Nat) (hI : Ints w a n c) :
    Calls Tryz.prog 66 #[collV x.sec a1 n1 c1 a2 n2 c2 a3 n3 c3, .slice a n cp] w fun e w' => e = .returned (.bool (comB x i)) ∧ Below w.heap.size w w' := by
  unfold collV
  have hl2 := h.tokens.len
  have hs2 := h.tokens.small
  have h12 := hv.toks
  have hp := hv.pos
  have hcr := hv.cols c (List.mem_of_getElem? hc)
  have hln := hI.len
  have hcl := hcr.1
  rw [lensT_len] at hcl
  have hnn : n = n2 := by omega
  have HCR := Lib.hid hcr.2
  have HCO := Lib.hid hc
  have H2 := Lib.hid h.tokens
  obtain ⟨bc, oc, rfl, hcc⟩ := Ints.at hI (by omega)
  have HCC := Lib.hid hcc
  -- a token of a source
  have HTK := Lib.hid (show ∀ s, s < n → nth c s = -1 ∨ ∃ (m : Nat) (a5 : Option Addr) (n5 c5 b6 o6 : Nat) (u : Str), nth c s = m ∧ (∃ b5 o5, a2 = some ⟨b5, o5, none⟩ ∧ w.cell? ⟨b5, o5 + s, none⟩ = some (.slice a5 n5 c5)) ∧ a5 = some ⟨b6, o6, none⟩ ∧ m < n5 ∧ n5 ≤ 4611686018427387903 ∧ w.cell? ⟨b6, o6 + m * 6, none⟩ = some (.string (bs u)) ∧ cellO x i s = some u from fun s hs => by
    rcases hcr.2 s (by rw [lensT_len]; omega) with hm | ⟨h0, hlt⟩
    · exact .inl hm
    · obtain ⟨l, b5, o5, v5, hl5, hab, hcv5, a5, n5, c5, rfl, ht5⟩ := h.tokens.at (show s < n2 by omega)
      rw [lensT_at hl5, ht5.len] at hlt
      obtain ⟨m, hm⟩ : ∃ m : Nat, nth c s = m := ⟨(nth c s).toNat, by omega⟩
      obtain ⟨t, b6, o6, ht, hab6, ⟨⟨q0, _, _, _, _, _⟩, _⟩⟩ := ht5.at (show m < n5 by omega)
      exact .inr ⟨m, a5, n5, c5, b6, o6, t.text, hm, ⟨b5, o5, hab, hcv5⟩, hab6, by omega, ht5.small, q0, cellO_pos hc hm hl5 ht⟩)
  obtain ⟨b5, o5, hab⟩ : ∃ b5 o5, a2 = some ⟨b5, o5, none⟩ := by
    obtain ⟨l, b5, o5, v5, _, hab, _⟩ := h.tokens.at (show 0 < n2 by omega)
    exact ⟨b5, o5, hab⟩
  subst hab
  clear h hv hcr hI hcc hc
  go_enter Tryz.func66, Tryz.ntmps66
  go_wp2_with (fail)
  obtain ⟨W4, hW4⟩ : ∃ W4, w.alloc (.cells #[.string (bs x.sec), .slice a1 n1 c1, .slice (some ⟨b5, o5, none⟩) n2 c2, .slice a3 n3 c3] 26) = W4 := ⟨_, rfl⟩
  have B4 : Below w.heap.size w W4 := by rw [← hW4]; exact balloc _ _
  have K2 := Lib.hid (show W4.cell? ⟨w.heap.size, 2, none⟩ = some (.slice (some ⟨b5, o5, none⟩) n2 c2) by rw [← hW4]; exact cell_fresh rfl rfl)
  rw [hW4]
  clear hW4
  have HB4 := Lib.hid B4
  clear B4
  go_loopw [5] (fun kv wr => ∃ k : Nat, k ≤ n ∧ kv = .int .i64 k ∧ Below W4.heap.size W4 wr ∧ ∀ s, s < k → ∃ u, cellO x i 0 = some u ∧ cellO x i s = some u) (fun kv _ => n - (intOf kv).toNat)
  case atStart => exact ⟨0, Nat.zero_le _, rfl, Below.refl _ _, fun s hs => by omega⟩
  case round =>
    obtain ⟨k, hk, rfl, hb, hj⟩ := hrel
    have HJ := Lib.hid hj
    have HB := Lib.hid hb
    clear hj
    by_cases hkn : k < n
    · have hbw := bstep HB4.out hb
      have q2 := cell_keep hb K2.out
      have hck := cell_keep hbw (HCC.out k hkn)
      have hc0 := cell_keep hbw (HCC.out 0 (by omega))
      rcases HTK.out k hkn with hm | ⟨m, a5, n5, c5, b6, o6, u, hm, ⟨b5', o5', hab', g1⟩, rfl, g2, g3, g4, g5⟩
      · have HR := Lib.hid (show comB x i = false from by
          have hn : cellO x i k = none := cellO_neg HCO.out (by omega)
          by_cases h0 : k = 0
          · subst h0; exact com_void hn
          · obtain ⟨u, h1, _⟩ := HJ.out 0 (by omega)
            exact com_ne (s := k) (by omega) (by rw [hn, h1]; simp))
        rw [hm] at hck
        clear hb hbw hc0 hm
        go_wp2_with (fail)
        go_quiet (fail)
        go_wp2_with (fail)
        go_ret
        exact ⟨ret_b HR.out.symm, bstep HB4.out (bstep HB.out (bdrewN _ _))⟩
      · rcases HTK.out 0 (by omega) with hm0 | ⟨m0, a50, n50, c50, b60, o60, u0, hm0, ⟨b5'', o5'', hab'', f1⟩, rfl, f2, f3, f4, f5⟩
        · exfalso
          have hn : cellO x i 0 = none := cellO_neg HCO.out (by omega)
          by_cases h0 : k = 0
          · subst h0; rw [g5] at hn; cases hn
          · obtain ⟨u, h1, _⟩ := HJ.out 0 (by omega)
            rw [hn] at h1; cases h1
        · cases hab'
          cases hab''
          rw [hm] at hck
          rw [hm0] at hc0
          have hc0 : wr.cell? ⟨bc, oc, none⟩ = some (.int .i64 m0) := hc0
          have r1 := cell_keep hbw g1
          have r0 : wr.cell? ⟨b5, o5, none⟩ = some (.slice (some ⟨b60, o60, none⟩) n50 c50) := cell_keep hbw f1
          have s1 := cell_keep hbw g4
          have s0 := cell_keep hbw f4
          have dn : decide ((m : Int) < 0) = false := by simp
          have i1 : (m : Int) < (n5 : Int) := by omega
          have i2 : (m0 : Int) < (n50 : Int) := by omega
          have i3 : (0 : Int) < (n2 : Int) := by omega
          have i4 : (k : Int) < (n2 : Int) := by omega
          have i5 : (0 : Int) < (n : Int) := by omega
          have HU := Lib.hid g5
          have HU0 := Lib.hid f5
          clear hb hbw hm hm0 g1 f1 g4 f4 g5 f5
          by_cases huv : u = u0
          · have eu : (u == u0) = true := by rw [beq_iff_eq]; exact huv
            have HE := Lib.hid huv
            clear huv
            go_wp2_with (fail)
            go_quiet (fail)
            go_wp2_with (fail)
            exact ⟨⟨k + 1, by omega, by simp, bstep HB.out (bdrewN _ _), fun s hs => by
              by_cases hsk : s = k
              · exact ⟨u0, HU0.out, by rw [hsk, HU.out, HE.out]⟩
              · exact HJ.out s (by omega)⟩, by simp [intOf]; omega⟩
          · have eu : (u == u0) = false := by rw [beq_eq_false_iff_ne]; exact huv
            have HR := Lib.hid (com_ne (x := x) (i := i) (s := k) (by omega) (by rw [HU.out, HU0.out]; simpa using huv))
            clear huv
            go_wp2_with (fail)
            go_quiet (fail)
            go_wp2_with (fail)
            go_ret
            exact ⟨ret_b HR.out.symm, bstep HB4.out (bstep HB.out (bdrewN _ _))⟩
    · obtain rfl : k = n := by omega
      have HR := Lib.hid (show comB x i = true by
        obtain ⟨u, h1, h2⟩ := HJ.out 0 (by omega)
        exact com_yes h1 (fun s hs => by
          obtain ⟨u', h3, h4⟩ := HJ.out s (by omega)
          rw [h1] at h3
          cases h3
          exact h4))
      clear hb
      go_wp2_with (fail)
      go_ret
      exact ⟨ret_b HR.out.symm, bstep HB4.out HB.out⟩
end Go.Proofs.YthfppkcefnmdoaaGreatDoor

/-
  The reading of a source, as the reference makes it.
-/

namespace Go.Proofs.YthfppkcefnmdoaaGreatDoor
open Go.RowKit Go.Ap Go.Shelf Go.Proofs

attribute [local go_sem] Oper.semAt_some bs_toList empty_toList bs_size bs_extract

/-- where the element of a column lies, and its token -/
theorem cell_lies {x : Coll} {a1 a2 a3 : Option Addr} {n1 n2 n3 : Nat} {w : World} (h : CollM w a1 a2 a3 n1 n2 n3 x) (hv : Val x) (s : Nat) (hs : s < x.sigla.length) (i : Nat) (hi : i < x.columns.length) :
    ∃ (b o bc oc : Nat) (nc cc : Nat) (y : Int), a3 = some ⟨b, o, none⟩ ∧ w.cell? ⟨b, o + i, none⟩ = some (.slice (some ⟨bc, oc, none⟩) nc cc) ∧ s < nc ∧ nc ≤ 4611686018427387903 ∧ w.cell? ⟨bc, oc + s, none⟩ = some (.int .i64 y) ∧
      ((y = -1 ∧ cellO x i s = none) ∨ ∃ (m : Nat) (b5 o5 n5 c5 b6 o6 : Nat) (u : Str), y = m ∧ a2 = some ⟨b5, o5, none⟩ ∧ w.cell? ⟨b5, o5 + s, none⟩ = some (.slice (some ⟨b6, o6, none⟩) n5 c5) ∧ m < n5 ∧ n5 ≤ 4611686018427387903 ∧ w.cell? ⟨b6, o6 + m * 6, none⟩ = some (.string (bs u)) ∧ cellO x i s = some u) := by
  have hl2 := h.tokens.len
  have hl3 := h.columns.len
  have h12 := hv.toks
  obtain ⟨c, b, off, v, hc, hab, hcv, a', n', c', rfl, hI⟩ := h.columns.at (show i < n3 by omega)
  have hcr := hv.cols c (List.mem_of_getElem? hc)
  have hln := hI.len
  have hcl := hcr.1
  rw [lensT_len] at hcl
  obtain ⟨bc, oc, rfl, hcc⟩ := Ints.at hI (by omega)
  refine ⟨b, off, bc, oc, n', c', nth c s, hab, hcv, by omega, hI.small, hcc s (by omega), ?_⟩
  rcases hcr.2 s (by rw [lensT_len]; omega) with hm | ⟨h0, hlt⟩
  · exact .inl ⟨hm, cellO_neg hc (by omega)⟩
  · obtain ⟨l, b5, o5, v5, hl5, hab5, hcv5, a5, n5, c5, rfl, ht5⟩ := h.tokens.at (show s < n2 by omega)
    rw [lensT_at hl5, ht5.len] at hlt
    obtain ⟨m, hm⟩ : ∃ m : Nat, nth c s = m := ⟨(nth c s).toNat, by omega⟩
    obtain ⟨t, b6, o6, ht, rfl, ⟨⟨q0, _, _, _, _, _⟩, _⟩⟩ := ht5.at (show m < n5 by omega)
    exact .inr ⟨m, b5, o5, n5, c5, b6, o6, t.text, hm, hab5, hcv5, by omega, ht5.small, q0, cellO_pos hc hm hl5 ht⟩

set_option maxRecDepth 100000 in
set_option maxHeartbeats 4000000 in
theorem readingR (x : Coll) (a1 : Option Addr) (n1 c1 : Nat) (a2 : Option Addr) (n2 c2 : Nat) (a3 : Option Addr) (n3 c3 : Nat) (w : World) (h : CollM w a1 a2 a3 n1 n2 n3 x) (hv : Val x) (lo hi s : Nat) (hlh : lo ≤ hi) (hh : hi ≤ x.columns.length) (hs : s < x.sigla.length) (h32 : x.columns.length ≤ 1048576) :
    Calls Tryz.prog 70 #[collV x.sec a1 n1 c1 a2 n2 c2 a3 n3 c3, .int .i64 lo, .int .i64 hi, .int .i64 s] w fun e w' => ∃ v, e = .returned v ∧ OwnS w' w.heap.size v (readL x s lo hi) ∧ Below w.heap.size w w' := by
  obtain ⟨i0, hi0, hz0, hz1, hz2⟩ := info_parts infoStr
  have hl2 := h.tokens.len
  have hl3 := h.columns.len
  have hs2 := h.tokens.small
  have h12 := hv.toks
  have HLI := Lib.hid (fun i (hi : i < x.columns.length) W (hb : Below w.heap.size w W) => cell_lies (h.mono (Nat.le_refl _) hb) hv s hs i hi)
  clear h hv
  unfold collV
  go_enter Tryz.func70, Tryz.ntmps70
  go_wp2_with (fail)
  obtain ⟨W4, hW4⟩ : ∃ W4, w.alloc (.cells #[.string (bs x.sec), .slice a1 n1 c1, .slice a2 n2 c2, .slice a3 n3 c3] 26) = W4 := ⟨_, rfl⟩
  have B4 : Below w.heap.size w W4 := by rw [← hW4]; exact balloc _ _
  have hz4 : W4.heap.size = w.heap.size + 1 := by rw [← hW4]; simp
  have K2 := Lib.hid (show W4.cell? ⟨w.heap.size, 2, none⟩ = some (.slice a2 n2 c2) by rw [← hW4]; exact cell_fresh rfl rfl)
  have K3 := Lib.hid (show W4.cell? ⟨w.heap.size, 3, none⟩ = some (.slice a3 n3 c3) by rw [← hW4]; exact cell_fresh rfl rfl)
  have hsz4 : w.heap.size ≤ W4.heap.size := B4.size
  have HB4 := Lib.hid B4
  rw [hW4]
  clear hW4 B4
  go_loopw [9, 10] (fun ov kv wr => ∃ k : Nat, lo ≤ k ∧ k ≤ hi ∧ kv = .int .i64 k ∧ OwnS wr W4.heap.size ov (readL x s lo k) ∧ Below W4.heap.size W4 wr) (fun _ kv _ => hi - (intOf kv).toNat)
  case atStart => exact ⟨lo, Nat.le_refl _, hlh, rfl, by rw [readL_zero, ← hz4]; exact OwnS.empty _ (Nat.le_refl _), balloc _ _⟩
  case round =>
    obtain ⟨k, hlk, hk, rfl, ho, hb⟩ := hrel
    have HO := Lib.hid ho
    have HB := Lib.hid hb
    have hsz := hb.size
    clear ho
    by_cases hkh : k < hi
    · have q2 := cell_keep hb K2.out
      have q3 := cell_keep hb K3.out
      have HS := Lib.hid (readL_succ (x := x) (s := s) hlk)
      have hrl := readL_len x s lo k
      obtain ⟨b, o, bc, oc, nc, cc, y, rfl, g1, g2, g3, g4, hor⟩ := HLI.out k (by omega) wr (bstep HB4.out hb)
      have i1 : (k : Int) < (n3 : Int) := by omega
      have i2 : (s : Int) < (nc : Int) := by omega
      have i3 : (s : Int) < (n2 : Int) := by omega
      clear hb
      rcases hor with ⟨rfl, hn⟩ | ⟨m, b5, o5, n5, c5, b6, o6, u, rfl, rfl, f1, f2, f3, f4, hn⟩
      · rw [hn] at HS
        clear hn
        go_wp2_with (fail)
        exact ⟨⟨k + 1, by omega, by omega, by simp, by rw [HS.out]; simpa using HO.out, HB.out⟩, by simp [intOf]; omega⟩
      · rw [hn] at HS
        have i4 : (m : Int) < (n5 : Int) := by omega
        obtain ⟨q, hq⟩ : ∃ q, (readL x s lo k).length = q := ⟨_, rfl⟩
        rw [hq] at hrl
        have HM := Lib.hid hq
        have HOW := Lib.hid (show wr.ownsRow W4.heap.size 9 1 _ q ((readL x s lo k).map sv) by have := HO.out; unfold OwnS at this; rwa [hq] at this)
        clear hn hq
        go_wp2_with (at_builtin; refine wpList_append_own _ rfl _ _ 22 rfl W4.heap.size 9 i0 (.string { data := #[] }) 1 16 Tryz.underlying22 hi0 hz0 hz1 hz2 rfl (by decide) _ _ _ rfl (HOW.out.alloc _) ⟨wr.heap.size, 0, none⟩ 1 1 [.string (bs u)] rfl rfl (cell_one_new _ _ _) (by simp [Value.oneCell']) (by unfold maxLen; omega) (by omega) (by simp; omega) ?_; intro v1 w4 hown1 hgrow1 _; have HO3 := Lib.hid hown1; have HG := Lib.hid hgrow1; clear hown1 hgrow1)
        obtain ⟨k1, k2⟩ := OwnS.pushed (x := u) HO.out hsz (by rw [HM.out]; exact HO3.out) HG.out
        go_roundw
        case rel => exact ⟨k + 1, by omega, by omega, by simp, by rw [HS.out]; exact k1, HB.out.trans k2⟩
        case measure => simp [intOf]; omega
    · obtain rfl : k = hi := by omega
      clear hb
      go_wp2_with (fail)
      go_ret
      exact ⟨_, rfl, HO.out.mono hsz4, bstep HB4.out HB.out⟩
end Go.Proofs.YthfppkcefnmdoaaGreatDoor

/-
  Words of readings are compared.
-/


namespace Go.Proofs.YthfppkcefnmdoaaGreatDoor
open Go.RowKit Go.Ap Go.Shelf Go.Proofs

attribute [local go_sem] Oper.semAt_some bs_toList empty_toList bs_size bs_extract
theorem map_bs_inj : ∀ {xs ys : List Str}, xs.map bs = ys.map bs → xs = ys
  | [], [], _ => rfl
  | [], _ :: _, h => by simp at h
  | _ :: _, [], h => by simp at h
  | x :: xs, y :: ys, h => by
    rw [List.map_cons, List.map_cons] at h
    injection h with h1 h2
    rw [bs_inj.1 h1, map_bs_inj h2]
theorem eqStrs (a a' : Option Addr) (c c' n n' : Nat) (xs ys : List Str) (w : World) (h : StrsL w a n xs) (h' : StrsL w a' n' ys) : Calls Tryz.prog 17 #[.slice a n c, .slice a' n' c'] w fun e w' => e = .returned (.bool (decide (xs = ys))) ∧ ∃ q, w' = w.drewN q := by
  have hl := h.len
  have hl' := h'.len
  have hs := h.small
  have hs' := h'.small
  by_cases hn : n = n'
  · subst hn
    rcases Nat.eq_zero_or_pos n with h0 | h0
    · subst h0
      have e1 : xs = [] := List.eq_nil_of_length_eq_zero hl
      have e2 : ys = [] := List.eq_nil_of_length_eq_zero hl'
      subst e1 e2
      exact (Tryz.slices_Equal_string_empty a a' c 0 c' w (by omega)).mono fun e w' ⟨he, hw⟩ => ⟨by rw [he]; rfl, 0, hw⟩
    · obtain ⟨b, off, rfl, hc⟩ := h.at h0
      obtain ⟨b', off', rfl, hc'⟩ := h'.at h0
      have get : ∀ (zs : List Str) (j : Nat), j < (zs.map bs).length → ∃ z, zs[j]? = some z ∧ (zs.map bs).getD j ByteArray.empty = bs z := fun zs j hj => by
        have hj' : j < zs.length := by simpa using hj
        exact ⟨zs[j], List.getElem?_eq_getElem hj', by simp [List.getD, hj']⟩
      refine (Tryz.slices_Equal_string b off n c b' off' n c' (xs.map bs) (ys.map bs) w (by simp [hl]) (by simp [hl']) (by omega) (by omega) (fun j hj => ?_) (fun j hj => ?_)).mono fun e w' ⟨he, hw⟩ => ⟨?_, hw⟩
      · obtain ⟨z, hz, he⟩ := get xs j hj
        rw [he]; exact hc j z hz
      · obtain ⟨z, hz, he⟩ := get ys j hj
        rw [he]; exact hc' j z hz
      · rw [he, List.take_of_length_le (by simp [hl]), List.take_of_length_le (by simp [hl'])]
        exact ret_b (by
          rw [decide_eq_decide]
          exact ⟨fun h => map_bs_inj h, fun h => by rw [h]⟩)
  · exact (Tryz.slices_Equal_string_lens a a' n c n' c' w hn).mono fun e w' ⟨he, hw⟩ => ⟨by
      rw [he]
      exact ret_b (by rw [eq_comm, decide_eq_false_iff_not]; intro h; exact hn (by rw [← hl, ← hl', h])), 0, hw⟩
/-- two readings of the same words -/
theorem sameWords (a1 : Option Addr) (n1 k1 : Nat) (z1 : Value) (a2 : Option Addr) (n2 k2 : Nat) (z2 : Value) (xs ys : List Str) (w : World) (h1 : StrsL w a1 n1 xs) (h2 : StrsL w a2 n2 ys) :
    Calls Tryz.prog 84 #[.agg #[.slice a1 n1 k1, z1], .agg #[.slice a2 n2 k2, z2]] w fun e w' => e = .returned (.bool (decide (xs = ys))) ∧ Below w.heap.size w w' := by
  have HE := Lib.hid (fun W (hb : Below w.heap.size w W) => eqStrs a1 a2 k1 k2 n1 n2 xs ys W (h1.mono (Nat.le_refl _) hb) (h2.mono (Nat.le_refl _) hb))
  generalize decide (xs = ys) = r at *
  clear h1 h2
  go_enter Tryz.func84, Tryz.ntmps84
  go_wp2_with (fail)
  have hb := bstep (balloc w (.cells #[.slice a1 n1 k1, z1] 39)) (balloc _ (.cells #[.slice a2 n2 k2, z2] 39))
  refine (HE.out _ hb).mono ?_
  rintro e w1 ⟨rfl, q, rfl⟩
  go_wp2_with (fail)
  go_ret
  exact ⟨rfl, bstep hb (bdrewN _ _)⟩
end Go.Proofs.YthfppkcefnmdoaaGreatDoor
