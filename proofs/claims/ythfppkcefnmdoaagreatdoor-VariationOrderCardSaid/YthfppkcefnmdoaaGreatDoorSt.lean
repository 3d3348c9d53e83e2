/-
  States of variation: the program's way; the words and the gap of a source.
-/
import Derived.Test.YthfppkcefnmdoaaGreatDoorOwT
import Derived.Test.YthfppkcefnmdoaaGreatDoorTx
import Derived.Test.YthfppkcefnmdoaaGreatDoorJn
namespace Go.Ap
def stN (g : Bool) (i : Int) : Int := if g = true then -1 else i
theorem stN_true (i : Int) : stN true i = -1 := rfl
theorem stN_false (i : Int) : stN false i = i := rfl
theorem stateU_eq (x : Coll) (s lo hi : Nat) (rds : List Rdg) : stateU x s ⟨lo, hi, rds⟩ = stN (gapU x s lo hi) (whoE rds (s : Int)).1 := rfl
theorem tok_flags {t : Tok} (h : tokC t = 0) : 0 ≤ t.flags ∧ t.flags ≤ 31 := by
  unfold tokC at h
  split at h
  · cases h
  · omega
end Go.Ap
namespace Go.Proofs.YthfppkcefnmdoaaGreatDoor
open Go.RowKit Go.Ap Go.Shelf Go.Proofs

attribute [local go_sem] Oper.semAt_some bs_toList empty_toList bs_size bs_extract
theorem infoRow : (Tryz.prog.info? 37).map (fun i => (i.zero, i.size, i.bytes)) = some (some (.slice none 0 0), 1, 24) := by kernel_rfl
theorem stN_bd (g : Bool) {i : Nat} (h : i ≤ 4611686018427387903) : I64 (stN g (i : Int)) := by
  unfold I64
  cases g
  · rw [stN_false]; omega
  · rw [stN_true]; omega
/-- where the token of a source in a column lies -/
theorem state_lies {x : Coll} {a1 a2 a3 : Option Addr} {n1 n2 n3 : Nat} {w : World} (h : CollM w a1 a2 a3 n1 n2 n3 x) (hv : Val x) (s : Nat) (hs : s < x.sigla.length) (i : Nat) (hi : i < x.columns.length) :
    ∃ (b o bc oc nc cc : Nat) (y : Int), a3 = some ⟨b, o, none⟩ ∧ w.cell? ⟨b, o + i, none⟩ = some (.slice (some ⟨bc, oc, none⟩) nc cc) ∧ s < nc ∧ nc ≤ 4611686018427387903 ∧ w.cell? ⟨bc, oc + s, none⟩ = some (.int .i64 y) ∧
      ((y = -1 ∧ cellO x i s = none ∧ gapAt x i s = false) ∨ ∃ (m b5 o5 n5 c5 b6 o6 : Nat) (t : Tok), y = m ∧ a2 = some ⟨b5, o5, none⟩ ∧ w.cell? ⟨b5, o5 + s, none⟩ = some (.slice (some ⟨b6, o6, none⟩) n5 c5) ∧ m < n5 ∧ n5 ≤ 4611686018427387903 ∧ TokR w b6 (o6 + m * 6) t ∧ 0 ≤ t.flags ∧ t.flags ≤ 31 ∧ cellO x i s = some t.text ∧ gapAt x i s = isGap t.flags) := by
  have hl1 := h.sigla.len
  have hl2 := h.tokens.len
  have hl3 := h.columns.len
  have h12 := hv.toks
  obtain ⟨c, b, off, v, hc, hab, hcv, a', n', c', rfl, hI⟩ := h.columns.at (show i < n3 by omega)
  have hcr := hv.cols c (List.mem_of_getElem? hc)
  have hln := hI.len
  have hcl := hcr.1
  rw [lensT_len] at hcl
  obtain ⟨bc, oc, rfl, hcc⟩ := Ints.at hI (by omega)
  refine ⟨b, off, bc, oc, n', c', nth c s, hab, hcv, by omega, hI.small, hcc s (by omega), ?_⟩
  rcases hcr.2 s (by rw [lensT_len]; omega) with hm | ⟨h0, hlt⟩
  · exact .inl ⟨hm, cellO_neg hc (by omega), gapAt_neg hc (by omega)⟩
  · obtain ⟨l, b5, o5, v5, hl5, hab5, hcv5, a5, n5, c5, rfl, ht5⟩ := h.tokens.at (show s < n2 by omega)
    rw [lensT_at hl5, ht5.len] at hlt
    obtain ⟨m, hm⟩ : ∃ m : Nat, nth c s = m := ⟨(nth c s).toNat, by omega⟩
    obtain ⟨t, b6, o6, ht, rfl, ⟨hT, _⟩⟩ := ht5.at (show m < n5 by omega)
    have hfl := tok_flags ((hv.rows l (List.mem_of_getElem? hl5)).2 t (List.mem_of_getElem? ht))
    exact .inr ⟨m, b5, o5, n5, c5, b6, o6, t, hm, hab5, hcv5, by omega, ht5.small, hT, hfl.1, hfl.2, cellO_pos hc hm hl5 ht, gapAt_pos hc hm hl5 ht⟩
/-- a row of rows of the call's own, and an error -/
def GivesT (w : World) (r : List (List Int) × Int) (e : Ending) (w' : World) : Prop := ∃ v, e = .returned (.tuple #[v, .int .i64 r.2]) ∧ OwnTb w' w.heap.size v r.1 ∧ Below w.heap.size w w'
theorem OwnTb_nil (w : World) (base : Nat) : OwnTb w base (.slice none 0 0) [] := ⟨[], World.ownsRow_nil _ _ _ _, fun k x hx => by simp at hx, .nil⟩
set_option maxRecDepth 100000 in
set_option maxHeartbeats 8000000 in
theorem statesP (x : Coll) (a1 : Option Addr) (n1 c1 : Nat) (a2 : Option Addr) (n2 c2 : Nat) (a3 : Option Addr) (n3 c3 : Nat) (w : World) (h : CollM w a1 a2 a3 n1 n2 n3 x) (hc1 : n1 ≤ c1) (hev : EV w) (h32 : x.columns.length ≤ 1048576)
    (a : Option Addr) (n c : Nat) (us : List Plc) (hu : Plcs w a n us) (hn : n ≤ 1048576) :
    Calls Tryz.prog 26 #[collV x.sec a1 n1 c1 a2 n2 c2 a3 n3 c3, .slice a n c] w (GivesT w (statesE x us)) := by
  obtain ⟨i0, hi0, hz0, hz1, hz2⟩ := info_parts infoRow
  obtain ⟨i9, hi9, hy0, hy1, hy2⟩ := info_parts infoInt
  have hl1 := h.sigla.len
  have hl2 := h.tokens.len
  have hl3 := h.columns.len
  have hs2 := h.tokens.small
  have hs3 := h.columns.small
  have hlu := hu.len
  have hsu := hu.small
  have HCK := Lib.hid (fun W (hb : Below w.heap.size w W) => checkU x a1 n1 c1 a2 n2 c2 a3 n3 c3 W (h.mono (Nat.le_refl _) hb) hc1 (hev.mono (Nat.le_refl _) hb) h32 a n c us (Plcs.mono hu (Nat.le_refl _) hb))
  have HB4 := Lib.hid (balloc w (.cells #[.string (bs x.sec), .slice a1 n1 c1, .slice a2 n2 c2, .slice a3 n3 c3] 26))
  have HBX := Lib.hid (BlkK.new w #[.string (bs x.sec), .slice a1 n1 c1, .slice a2 n2 c2, .slice a3 n3 c3] 26)
  by_cases hch : chkU x us = 0
  · obtain ⟨hok, hri⟩ := chkU_zero hch
    have hv := val_of hok
    have hle := hv.le
    have h12 := hv.toks
    have HE := Lib.hid (statesE_in hch)
    have HU := Lib.hid (fun W (hb : Below w.heap.size w W) => (Plcs.mono hu (Nat.le_refl _) hb))
    have HU0 := Lib.hid hu
    have HRNG := Lib.hid (show ∀ u ∈ us, 0 ≤ u.lo ∧ u.lo < u.hi ∧ u.hi ≤ n3 ∧ u.rds = rdsL x u.lo.toNat u.hi.toNat from fun u hu => by
      unfold rightB at hri
      rw [Bool.and_eq_true] at hri
      have := okUs_lo hri.1 u hu
      exact ⟨this.2.1, this.2.2.1, by have := this.2.2.2.1; omega, of_decide_eq_true this.2.2.2.2⟩)
    have HWH := Lib.hid (fun s (hs : s < n1) lo hi => who_at (x := x) (lo := lo) (hi := hi) (s := s) (by omega))
    have HLI := Lib.hid (fun s (hs : s < n1) i (hi : i < n3) => state_lies h hv s (by omega) i (by omega))
    have HLU := Lib.hid hlu
    have HL1 := Lib.hid hl1
    rw [hch] at HCK
    unfold collV at HCK ⊢
    clear h hc1 hev hok hch hri hv hu hlu
    have hmk : ∀ w, (Instr.makeSlice 24 (.int .i64 n1) (.int .i64 n1)).run Tryz.prog w = .ok (.slice (some ⟨w.heap.size, 0, none⟩) n1 n1) (w.alloc (.cells (Array.replicate n1 (.slice none 0 0)) 37)) := fun w => by
      have h := run_make_row (P := Tryz.prog) 24 37 i0 (.slice none 0 0) Tryz.underlying24 hi0 hz0 hz1 rfl .i64 .i64 n1 (by rw [hz2]; omega) (by omega) w
      rw [show madeCells #[Value.slice none 0 0] n1 = Array.replicate n1 (.slice none 0 0) from (made_all (enc := fun _ : Unit => Value.slice none 0 0) (x := ()) rfl n1).trans (by simp)] at h
      exact h
    go_enter Tryz.func26, Tryz.ntmps26
    obtain ⟨k0, k1, k2, k3⟩ := HBX.out.coll
    go_wp2_with (fail)
    refine (HCK.out _ HB4.out).mono ?_
    rintro e w1 ⟨rfl, hb1⟩
    clear k0 k1 k2 k3
    have HB1 := Lib.hid (bstep HB4.out hb1)
    have HX1 := Lib.hid (HBX.out.below hb1)
    clear hb1
    obtain ⟨k0, k1, k2, k3⟩ := HX1.out.coll
    have hsz1 := HB1.out.size
    have hbx1 := HX1.out.lt
    go_wp2_with (fail)
    clear hmk k0 k1 k2 k3
    have bM := balloc w1 (.cells (Array.replicate n1 (.slice none 0 0)) 37)
    have HT0 := Lib.hid (OwnTb.made w1 (base := w.heap.size + 1) (by omega) n1 (by omega))
    have HB2 := Lib.hid (bstep HB1.out bM)
    have HX2 := Lib.hid (HX1.out.below bM)
    obtain ⟨g, hg⟩ : ∃ g, w1.heap.size = g := ⟨_, rfl⟩
    rw [hg] at HT0 ⊢
    clear bM hg
    go_loopw [27] (fun sv wr => ∃ s : Nat, s ≤ n1 ∧ sv = .int .i64 s ∧ OwnTb wr (w.heap.size + 1) (.slice (some ⟨g, 0, none⟩) n1 n1) (tabS x us s) ∧ Below w.heap.size w wr ∧ BlkK wr w.heap.size #[.string (bs x.sec), .slice a1 n1 c1, .slice a2 n2 c2, .slice a3 n3 c3] 26) (fun sv _ => n1 - (intOf sv).toNat)
    case atStart => exact ⟨0, Nat.zero_le _, rfl, by rw [tabS_zero, HL1.out]; exact HT0.out, HB2.out, HX2.out⟩
    case round =>
      obtain ⟨ws, rfl⟩ : ∃ ws : World, ws = wr := ⟨_, rfl⟩
      obtain ⟨s, hs, rfl, ht, hb, hx⟩ := hrel
      have HT := Lib.hid ht
      have HB := Lib.hid hb
      have HX := Lib.hid hx
      clear ht hb hx
      by_cases hsn : s < n1
      · have HTA := Lib.hid (tabS_at (x := x) (us := us) (m := s) (by rw [HL1.out]; exact hsn))
        have HTN := Lib.hid (tabS_next (x := x) (us := us) (m := s) (by rw [HL1.out]; exact hsn))
        go_wp2_with (fail)
        go_loopw [32] (fun kv wr => ∃ k : Nat, k ≤ n ∧ kv = .int .i64 k ∧ OwnTb wr (w.heap.size + 1) (.slice (some ⟨g, 0, none⟩) n1 n1) ((tabS x us s).set s ((us.take k).map (stateU x s))) ∧ Below w.heap.size w wr ∧ BlkK wr w.heap.size #[.string (bs x.sec), .slice a1 n1 c1, .slice a2 n2 c2, .slice a3 n3 c3] 26) (fun kv _ => n - (intOf kv).toNat)
        case atStart => exact ⟨0, Nat.zero_le _, rfl, by
          rw [List.take_zero, List.map_nil]
          obtain ⟨hl, he⟩ := List.getElem?_eq_some_iff.1 HTA.out
          rw [show (tabS x us s).set s [] = tabS x us s by rw [← he]; exact List.set_getElem_self _]
          exact HT.out, HB.out, HX.out⟩
        case round =>
          obtain ⟨wk, rfl⟩ : ∃ wk : World, wk = wr := ⟨_, rfl⟩
          obtain ⟨k, hk, rfl, ht, hb, hx⟩ := hrel
          have HT2 := Lib.hid ht
          have HB2 := Lib.hid hb
          have HX2 := Lib.hid hx
          clear ht hb hx
          by_cases hkn : k < n
          · obtain ⟨u, bb, oo, hu, rfl, ⟨ar, nr, kr, g0, g1, g2, hRd, _, _, _⟩⟩ := (HU.out wk HB2.out).at hkn
            obtain ⟨r1, r2, r3, r4⟩ := HRNG.out u (List.mem_of_getElem? hu)
            have HUK := Lib.hid hu
            obtain ⟨ulo, uhi, rds⟩ := u
            simp only at g0 g1 hRd r1 r2 r3 r4
            obtain ⟨lo, rfl⟩ := Int.eq_ofNat_of_zero_le r1
            obtain ⟨hi, rfl⟩ := Int.eq_ofNat_of_zero_le (show 0 ≤ uhi by omega)
            have hrd : rds = rdsL x lo hi := r4
            subst hrd
            obtain ⟨i, r, hwh, hri, _, hrw⟩ := HWH.out s hsn lo hi
            have hir := (List.getElem?_eq_some_iff.1 hri).1
            rw [hRd.len] at hir
            have hrs := hRd.small
            have HRU := Lib.hid (fun W (hb : Below wk.heap.size wk W) => readU ⟨(lo : Int), (hi : Int), rdsL x lo hi⟩ ar nr kr (s : Int) W (Rdgs.mono hRd (Nat.le_refl _) hb))
            have hwe : whoE (rdsL x lo hi) (s : Int) = (((i : Nat) : Int), 0) := by rw [whoE, hwh]
            simp only [hwe] at HRU
            have HST := Lib.hid (show stateU x s ⟨(lo : Int), (hi : Int), rdsL x lo hi⟩ = stN (gapU x s lo hi) (i : Int) by rw [stateU_eq, hwe])
            have HTK := Lib.hid (show (us.take (k + 1)).map (stateU x s) = (us.take k).map (stateU x s) ++ [stN (gapU x s lo hi) (i : Int)] by
              rw [List.take_add_one, HUK.out, ← HST.out]; simp)
            have i1 : (k : Int) < (n : Int) := by omega
            clear hu hwh hri hrw hRd hwe r4
            have bA := balloc wk (.cells #[.int .i64 (lo : Int), .int .i64 (hi : Int), .slice ar nr kr] 36)
            have HU1 := Lib.hid (BlkK.new wk #[.int .i64 (lo : Int), .int .i64 (hi : Int), .slice ar nr kr] 36)
            have HBA := Lib.hid bA
            have u0 := HU1.out.cell (i := 0) rfl
            have u1 := HU1.out.cell (i := 1) rfl
            have u2 := HU1.out.cell (i := 2) rfl
            clear bA
            go_wp2_with (fail)
            refine (HRU.out _ HBA.out).mono ?_
            rintro e W1 ⟨rfl, hb1⟩
            have HBB := Lib.hid (bstep HBA.out hb1)
            have HU2 := Lib.hid (HU1.out.below hb1)
            have HX3 := Lib.hid (HX2.out.below HBB.out)
            have HT3 := Lib.hid (HT2.out.below HBB.out)
            have HBW := Lib.hid (bstep HB2.out HBB.out)
            clear hb1 u0 u1 u2 g0 g1 g2
            have u0 := HU2.out.cell (i := 0) rfl
            go_wp2_with (fail)
            clear u0
            go_loopw [11, 13] (fun nv iv wr => ∃ q : Nat, lo ≤ q ∧ q ≤ hi ∧ iv = .int .i64 q ∧ nv = .int .i64 (stN (gapU x s lo q) (i : Int)) ∧ W1 = wr) (fun _ iv _ => hi - (intOf iv).toNat)
            case atStart => exact ⟨lo, Nat.le_refl _, by omega, rfl, by rw [gapU_zero]; rfl, rfl⟩
            case round =>
              obtain ⟨q, hlq, hqh, rfl, rfl, rfl⟩ := hrel
              have u1 := HU2.out.cell (i := 1) rfl
              obtain ⟨k0, k1, k2, k3⟩ := HX3.out.coll
              by_cases hqlt : q < hi
              · have HGS := Lib.hid (gapU_succ (x := x) (s := s) hlq)
                obtain ⟨b3, o3, bc, oc, nc, cc, y, rfl, f1, f2, f3, f4, hor⟩ := HLI.out s hsn q (by omega)
                have h1 := cell_keep HBW.out f1
                have h4 := cell_keep HBW.out f4
                have i2 : (q : Int) < (n3 : Int) := by omega
                have i3 : (s : Int) < (nc : Int) := by omega
                have i4 : (q : Int) < (hi : Int) := by omega
                rcases hor with ⟨rfl, _, hgp⟩ | ⟨m, b5, o5, n5, c5, b6, o6, t, rfl, rfl, p1, p2, p3, hT, fl0, fl1, _, hgp⟩
                · rw [hgp, Bool.or_false] at HGS
                  clear f1 f4 hgp
                  go_wp2_with (fail)
                  go_roundw
                  case rel => exact ⟨q + 1, by omega, by omega, by simp, by rw [HGS.out], by first | rfl | trivial⟩
                  case measure => simp [intOf]; omega
                · have h5 := cell_keep HBW.out p1
                  have h6 := cell_keep HBW.out hT.5
                  have i5 : (s : Int) < (n2 : Int) := by omega
                  have i6 : (m : Int) < (n5 : Int) := by omega
                  obtain ⟨fl, hfl⟩ : ∃ fl, t.flags = fl := ⟨_, rfl⟩
                  rw [hfl] at hgp fl0 fl1 h6
                  cases hig : isGap fl
                  all_goals
                    rw [hgp, hig] at HGS
                  · have b2 : (bits BinOp.and IntKind.i64 fl 2 != 0) = false := by rw [bne, bits2 fl0 fl1, hig]; rfl
                    rw [Bool.or_false] at HGS
                    clear f1 f4 hgp p1 hT hfl hig fl0 fl1
                    go_wp2_with (fail)
                    go_roundw
                    case rel => exact ⟨q + 1, by omega, by omega, by simp, by rw [HGS.out], by first | rfl | trivial⟩
                    case measure => simp [intOf]; omega
                  · have b2 : (bits BinOp.and IntKind.i64 fl 2 != 0) = true := by rw [bne, bits2 fl0 fl1, hig]; rfl
                    rw [Bool.or_true] at HGS
                    clear f1 f4 hgp p1 hT hfl hig fl0 fl1
                    go_wp2_with (fail)
                    go_roundw
                    case rel => exact ⟨q + 1, by omega, by omega, by simp, by rw [HGS.out, stN_true], by first | rfl | trivial⟩
                    case measure => simp [intOf]; omega
              · obtain rfl : q = hi := by omega
                have hsv0 := stN_bd (gapU x s lo q) (i := i) (by omega)
                obtain ⟨sv, hsv⟩ : ∃ sv, stN (gapU x s lo q) (i : Int) = sv := ⟨_, rfl⟩
                rw [hsv] at HTK hsv0 ⊢
                have hlen : ((tabS x us s).set s ((us.take k).map (stateU x s))).length = n1 := by rw [List.length_set, tabS_len, HL1.out]
                have HLN := Lib.hid hlen
                have HTR := Lib.hid (show ((tabS x us s).set s ((us.take k).map (stateU x s)))[s]? = some ((us.take k).map (stateU x s)) from List.getElem?_set_self (by rw [tabS_len, HL1.out]; exact hsn))
                obtain ⟨g', cap', z, hvg, hgb, cz, fz, oz⟩ := HT3.out.at HTR.out
                rw [hlen] at hvg
                injection hvg with hvg1 hvg2 hvg3
                injection hvg1 with hvg1
                injection hvg1 with hvg1 _ _
                clear hvg2 hvg3
                subst hvg1
                have HZ := Lib.hid oz
                have HCZ := Lib.hid cz
                have hgbx : g ≠ w.heap.size := by omega
                have hszw := HBW.out.size
                have hbxl := HX3.out.lt
                obtain ⟨rw', hrw'⟩ : ∃ r, (us.take k).map (stateU x s) = r := ⟨_, rfl⟩
                have HRW := Lib.hid hrw'
                obtain ⟨m, hm⟩ : ∃ m, rw'.length = m := ⟨_, rfl⟩
                have hmk : m ≤ k := by rw [← hm, ← hrw', List.length_map]; exact List.length_take_le _ _
                have HM := Lib.hid hm
                have HZ2 := Lib.hid (show W1.ownsRow (w.heap.size + 1) 3 1 z m (rw'.map (Value.int .i64)) by have := HZ.out.1; rw [hrw', hm] at this; exact this)
                have i5 : (s : Int) < (n1 : Int) := by omega
                clear hlen fz oz hsv hrw' hm k0 k1 k2 k3
                go_wp2_with (at_builtin; refine wpList_append_own_at _ rfl _ _ 37 rfl (w.heap.size + 1) 3 i9 (.int .i64 0) 1 8 Tryz.underlying37 hi9 hy0 hy1 hy2 rfl (by decide) _ _ _ rfl (HZ2.out.alloc _) ⟨W1.heap.size, 0, none⟩ 1 1 [.int .i64 sv] rfl rfl (cell_one_new _ _ _) (by simp [Value.oneCell']) (by unfold maxLen; omega) (by omega) (by simp; omega) ?_; intro v1 w4 hown1 hgrow1 _ hblk1; obtain ⟨g9, cap9, rfl⟩ := ownsRow_succ hown1; have HMO := Lib.hid (OwnTb.more (x := sv) (by rw [HLN.out]; exact HT3.out) (by omega) HTR.out HCZ.out hsv0 (by rw [HRW.out, HM.out]; exact hown1) hgrow1 hblk1); have hst := HMO.out.1.1; have hfr := HMO.out.1.2.1; have HG := Lib.hid hgrow1; clear hown1 hgrow1 hblk1)
                have j1 := HMO.out.2.1
                have j2 := HMO.out.2.2
                rw [HLN.out, List.set_set] at j1
                go_roundw
                case rel => exact ⟨k + 1, by omega, by simp, by rw [HTK.out]; exact j1, HBW.out.trans (Below.mono j2 (by omega)), ((HX3.out.below (balloc _ _)).keptE HG.out (BlkK.apart HX3.out HZ2.out (by decide))).keptE (grown_set _ _ _ _) (by simpa using hgbx.symm)⟩
                case measure => simp [intOf]; omega
          · obtain rfl : k = n := by omega
            have HTF := Lib.hid (show us.take k = us from List.take_of_length_le (by rw [HLU.out]; exact Nat.le_refl _))
            rw [HTF.out, HTN.out] at HT2
            go_wp2_with (fail)
            go_roundw
            case rel => exact ⟨s + 1, by omega, by simp, HT2.out, HB2.out, HX2.out⟩
            case measure => simp [intOf]; omega
      · obtain rfl : s = n1 := by omega
        have HTF := Lib.hid (show tabS x us s = statesL x us by rw [← HL1.out]; exact tabS_all x us)
        rw [HTF.out] at HT
        go_wp2_with (fail)
        go_ret2
        rw [HE.out]
        exact ⟨_, rfl, HT.out.mono (by omega), HB.out⟩
  · have HE := Lib.hid (statesE_bad hch)
    have dn : (chkU x us != 0) = true := by simpa using hch
    obtain ⟨cc, hcc⟩ : ∃ cc, chkU x us = cc := ⟨_, rfl⟩
    rw [hcc] at HCK dn HE
    unfold collV at HCK ⊢
    clear h hc1 hev hu hch hcc
    go_enter Tryz.func26, Tryz.ntmps26
    obtain ⟨q0, q1, q2, q3⟩ := HBX.out.coll
    go_wp2_with (fail)
    refine (HCK.out _ HB4.out).mono ?_
    rintro e w1 ⟨rfl, hb1⟩
    clear q0 q1 q2 q3
    go_wp2_with (fail)
    go_ret2
    rw [HE.out]
    exact ⟨_, rfl, OwnTb_nil _ _, bstep HB4.out hb1⟩
end Go.Proofs.YthfppkcefnmdoaaGreatDoor
