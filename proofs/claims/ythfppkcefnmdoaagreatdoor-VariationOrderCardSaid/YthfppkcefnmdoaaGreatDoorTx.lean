/-
  Text of variation: the program's way; Text of a collation.
-/
import Derived.Test.YthfppkcefnmdoaaGreatDoorCu
import Derived.Test.YthfppkcefnmdoaaGreatDoorFu
import Derived.Test.YthfppkcefnmdoaaGreatDoorCn
namespace Go.Ap
open Go Go.RowKit
section
variable {P : Program} {w : World}
theorem run_append_zero (base : Nat) (t ty e : TypeId) (i : TypeInfo) (size : Nat) (c : Nat) (ht : P.underlying t = some (.slice e)) (hi : P.info? e = some i)
    (v : Value) (n : Nat) (xs : List Value) (hown : w.ownsRow base e size v n xs) :
    (Builtin.append_ #[t, t] ty #[v, .slice none 0 c]).run P w = .ok v w := by
  rcases hown.2 with ⟨rfl, rfl⟩ | ⟨g, cap, cur, rfl, _, _, hnc, _⟩
  · simp [Builtin.append_, run_underlying ht, sizeOf, typeInfo, hi, Builtin.lenOf, Builtin.firstCells]
  · simp [Builtin.append_, run_underlying ht, sizeOf, typeInfo, hi, Builtin.lenOf, Builtin.firstCells, hnc, storeCells]
theorem wpList_append_zero {ops : Array Oper} {rest : List Oper} {o : Oper} {a : Act} {Q : Exit → Act → World → Prop} (hgd : o.guard = none) (s x : Operand) (t : TypeId)
    (ho : o.op = .call { callee := .builtin .append, args := #[s, x], argTypes := #[t, t] })
    (base : Nat) (e : TypeId) (i : TypeInfo) (size c : Nat) (ht : P.underlying t = some (.slice e)) (hi : P.info? e = some i)
    (v : Value) (n : Nat) (xs : List Value) (hs : a.eval s = v) (hown : w.ownsRow base e size v n xs) (hx : a.eval x = .slice none 0 c)
    (h : wpList P ops Q rest (a.put o.dst v) w) : wpList P ops Q (o :: rest) a w := by
  refine wpList_plain hgd fun K hK => ?_
  have hrun := run_append_zero (P := P) (w := w) base t o.type e i size c ht hi v n xs hown
  unfold Oper.wp
  simp [execOp, ho, resolve, invoke, builtin, hs, hx, hrun, Result.andThen]
  exact hK _ _ h
/-- append of a slice that reads as words, to words of the call's own -/
theorem wpList_append_strs {ops : Array Oper} {rest : List Oper} {o : Oper} {a : Act} {Q : Exit → Act → World → Prop} (hgd : o.guard = none) (s x : Operand) (t : TypeId)
    (ho : o.op = .call { callee := .builtin .append, args := #[s, x], argTypes := #[t, t] })
    (base : Nat) (i : TypeInfo) (ht : P.underlying t = some (.slice 9)) (hi : P.info? 9 = some i) (hz : i.zero = some (.string { data := #[] })) (hsize : i.size = 1) (hby : i.bytes = 16)
    (v : Value) (xs : List Str) (hs : a.eval s = v) (hown : OwnS w base v xs) (ad : Option Addr) (m c : Nat) (ys : List Str) (hx : a.eval x = .slice ad m c) (hy : StrsL w ad m ys)
    (hlen : xs.length + m ≤ 8388608) (hbase : base ≤ w.heap.size)
    (h : ∀ v' w', OwnS w' base v' (xs ++ ys) → Below base w w' → w.grownBy w' v.ownBlock → wpList P ops Q rest (a.put o.dst v') w') : wpList P ops Q (o :: rest) a w := by
  have hyl := hy.len
  cases ad with
  | none =>
    have hm : m = 0 := by
      rcases Nat.eq_zero_or_pos m with h0 | h0
      · exact h0
      · obtain ⟨_, _, hab, _⟩ := StrsL.at hy h0
        cases hab
    subst hm
    have hye : ys = [] := List.eq_nil_of_length_eq_zero hyl
    subst hye
    refine wpList_append_zero hgd s x t ho base 9 i 1 c ht hi v xs.length (xs.map sv) hs hown hx (h v w (by rw [List.append_nil]; exact hown) (Below.refl _ _) ⟨rfl, rfl, rfl, Nat.le_refl _, fun _ _ _ => rfl⟩)
  | some ad =>
    refine wpList_append_own w hgd s x t ho base 9 i (.string { data := #[] }) 1 16 ht hi hz hsize hby rfl (by decide) v xs.length (xs.map sv) hs hown ad m c (ys.map sv) hx (by simp [hyl]) ?_ (by intro u hu; obtain ⟨x, _, rfl⟩ := List.mem_map.1 hu; rfl) (by unfold maxLen; omega) (by omega) hbase ?_
    · intro j u hu
      rw [List.getElem?_map] at hu
      obtain ⟨y, hyj, rfl⟩ := Option.map_eq_some_iff.1 hu
      have hj := (List.getElem?_eq_some_iff.1 hyj).1
      obtain ⟨b, off, hab, hc⟩ := StrsL.at hy (by omega)
      cases hab
      rw [show (⟨b, off, none⟩ : Addr).add j = ⟨b, off + j, none⟩ from by simp [Addr.add]]
      exact hc j y hyj
    · intro v' w' h1 h2 _
      have hO : OwnS w' base v' (xs ++ ys) := by
        unfold OwnS
        rw [List.length_append, List.map_append, hyl]
        exact h1
      exact h v' w' hO ((Below.refl base w).grown h2 (by omega) fun k hk => (hown.lt k hk).1) h2
end
/-- the words of a source, and the error -/
def textE (x : Coll) (us : List Plc) (s : Int) : List Str × Int := if chkU x us ≠ 0 then ([], chkU x us) else if s < 0 ∨ (x.sigla.length : Int) ≤ s then ([], 2) else (readL x s.toNat 0 x.columns.length, 0)
theorem textE_bad {x : Coll} {us : List Plc} {s : Int} (h : chkU x us ≠ 0) : textE x us s = ([], chkU x us) := if_pos h
theorem textE_out {x : Coll} {us : List Plc} {s : Int} (h : chkU x us = 0) (h2 : s < 0 ∨ (x.sigla.length : Int) ≤ s) : textE x us s = ([], 2) := by rw [textE, if_neg (by rw [h]; simp), if_pos h2]
theorem textE_in {x : Coll} {us : List Plc} {s : Nat} (h : chkU x us = 0) (h2 : s < x.sigla.length) : textE x us s = (readL x s 0 x.columns.length, 0) := by rw [textE, if_neg (by rw [h]; simp), if_neg (by omega)]; rfl
end Go.Ap
namespace Go.Proofs.YthfppkcefnmdoaaGreatDoor
open Go.RowKit Go.Ap Go.Shelf Go.Proofs

attribute [local go_sem] Oper.semAt_some bs_toList empty_toList bs_size bs_extract
/-- a row of words of the call's own, and an error -/
def GivesW (w : World) (r : List Str × Int) (e : Ending) (w' : World) : Prop := ∃ v, e = .returned (.tuple #[v, .int .i64 r.2]) ∧ OwnS w' w.heap.size v r.1 ∧ Below w.heap.size w w'
theorem shapeS {w : World} {base : Nat} {v : Value} {xs : List Str} (h : OwnS w base v xs) : ∃ a c, v = .slice a xs.length c := by
  rcases h.2 with ⟨rfl, h0⟩ | ⟨g, cap, cur, rfl, _⟩
  · exact ⟨none, 0, by rw [h0]⟩
  · exact ⟨_, cap, rfl⟩
set_option maxRecDepth 100000 in
set_option maxHeartbeats 8000000 in
theorem textP (x : Coll) (a1 : Option Addr) (n1 c1 : Nat) (a2 : Option Addr) (n2 c2 : Nat) (a3 : Option Addr) (n3 c3 : Nat) (w : World) (h : CollM w a1 a2 a3 n1 n2 n3 x) (hc1 : n1 ≤ c1) (hev : EV w) (h32 : x.columns.length ≤ 1048576)
    (a : Option Addr) (n c : Nat) (us : List Plc) (hu : Plcs w a n us) (s : Int) :
    Calls Tryz.prog 38 #[collV x.sec a1 n1 c1 a2 n2 c2 a3 n3 c3, .slice a n c, .int .i64 s] w (GivesW w (textE x us s)) := by
  obtain ⟨i0, hi0, hz0, hz1, hz2⟩ := info_parts infoStr
  have hl1 := h.sigla.len
  have hl3 := h.columns.len
  have hlu := hu.len
  have hsu := hu.small
  have HCK := Lib.hid (fun W (hb : Below w.heap.size w W) => checkU x a1 n1 c1 a2 n2 c2 a3 n3 c3 W (h.mono (Nat.le_refl _) hb) hc1 (hev.mono (Nat.le_refl _) hb) h32 a n c us (Plcs.mono hu (Nat.le_refl _) hb))
  have HB4 := Lib.hid (balloc w (.cells #[.string (bs x.sec), .slice a1 n1 c1, .slice a2 n2 c2, .slice a3 n3 c3] 26))
  have HBX := Lib.hid (BlkK.new w #[.string (bs x.sec), .slice a1 n1 c1, .slice a2 n2 c2, .slice a3 n3 c3] 26)
  by_cases hch : chkU x us = 0
  · obtain ⟨hok, hri⟩ := chkU_zero hch
    have hv := val_of hok
    have hle := hv.le
    by_cases hd : s < 0 ∨ (x.sigla.length : Int) ≤ s
    · have HE := Lib.hid (textE_out hch hd)
      rw [hch] at HCK
      unfold collV at HCK ⊢
      clear h hc1 hev hok hch hu hri hv
      by_cases q1 : s < 0
      · have t1 : decide (s < 0) = true := by simpa using q1
        go_enter Tryz.func38, Tryz.ntmps38
        obtain ⟨k0, k1, k2, k3⟩ := HBX.out.coll
        go_wp2_with (fail)
        refine (HCK.out _ HB4.out).mono ?_
        rintro e w1 ⟨rfl, hb1⟩
        clear k0 k1 k2 k3
        have HB1 := Lib.hid (bstep HB4.out hb1)
        go_wp2_with (fail)
        go_ret2
        rw [HE.out]
        exact ⟨_, rfl, OwnS.nil _ _, HB1.out⟩
      · have t1 : decide (s < 0) = false := by simpa using q1
        have t2 : decide ((n1 : Int) ≤ s) = true := by simp; omega
        clear hd
        go_enter Tryz.func38, Tryz.ntmps38
        obtain ⟨k0, k1, k2, k3⟩ := HBX.out.coll
        go_wp2_with (fail)
        refine (HCK.out _ HB4.out).mono ?_
        rintro e w1 ⟨rfl, hb1⟩
        clear k0 k1 k2 k3
        obtain ⟨k0, k1, k2, k3⟩ := (HBX.out.below hb1).coll
        have HB1 := Lib.hid (bstep HB4.out hb1)
        go_wp2_with (fail)
        go_ret2
        rw [HE.out]
        exact ⟨_, rfl, OwnS.nil _ _, HB1.out⟩
    · obtain ⟨s, rfl⟩ := Int.eq_ofNat_of_zero_le (show 0 ≤ s by omega)
      have hsn : s < x.sigla.length := by omega
      have HE := Lib.hid (textE_in hch hsn)
      have t1 : decide ((s : Int) < 0) = false := by simp
      have t2 : decide (n1 ≤ s) = false := by simp; omega
      have HU := Lib.hid (fun W (hb : Below w.heap.size w W) => (Plcs.mono hu (Nat.le_refl _) hb))
      have HU0 := Lib.hid hu
      have HRD := Lib.hid (fun lo hi (hlh : lo ≤ hi) (hh : hi ≤ n3) W (hb : Below w.heap.size w W) => readingP x a1 n1 c1 a2 n2 c2 a3 n3 c3 W (h.mono (Nat.le_refl _) hb) hv lo hi s hlh (by omega) hsn h32)
      have HOK := Lib.hid (show okUs n3 (Go.Ap.hasR x) (-1) us = true from by
        unfold rightB at hri
        rw [Bool.and_eq_true, hl3] at hri
        exact hri.1)
      have HWH := Lib.hid (fun lo hi => who_at (x := x) (lo := lo) (hi := hi) hsn)
      have HSP := Lib.hid (fun a b c (h1 : a ≤ b) (h2 : b ≤ c) => readL_split (x := x) (s := s) h1 h2)
      have HLN := Lib.hid (fun lo hi => readL_len x s lo hi)
      rw [hch] at HCK
      rw [hl3] at HE
      unfold collV at HCK HRD ⊢
      clear h hc1 hev hok hch hri hv hd hu
      have HLU := Lib.hid hlu
      clear hlu
      go_enter Tryz.func38, Tryz.ntmps38
      obtain ⟨k0, k1, k2, k3⟩ := HBX.out.coll
      go_wp2_with (fail)
      refine (HCK.out _ HB4.out).mono ?_
      rintro e w1 ⟨rfl, hb1⟩
      clear k0 k1 k2 k3
      have HB1 := Lib.hid (bstep HB4.out hb1)
      have HBX1 := Lib.hid (HBX.out.below hb1)
      clear hb1
      obtain ⟨k0, k1, k2, k3⟩ := HBX1.out.coll
      go_wp2_with (fail)
      clear k0 k1 k2 k3
      go_loopw [9, 10, 32] (fun ov av kv wr => ∃ (k at' : Nat) (b : Int), k ≤ n ∧ kv = .int .i64 k ∧ av = .int .i64 at' ∧ okUs n3 (Go.Ap.hasR x) b (us.drop k) = true ∧ (at' : Int) ≤ b + 1 ∧ at' ≤ n3 ∧ OwnS wr w.heap.size ov (readL x s 0 at') ∧ Below w.heap.size w wr ∧ BlkK wr w.heap.size #[.string (bs x.sec), .slice a1 n1 c1, .slice a2 n2 c2, .slice a3 n3 c3] 26) (fun _ _ kv _ => n - (intOf kv).toNat)
      case atStart => exact ⟨0, 0, -1, Nat.zero_le _, rfl, rfl, HOK.out, by omega, Nat.zero_le _, by rw [readL_zero]; exact OwnS.nil _ _, HB1.out, HBX1.out⟩
      case round =>
        obtain ⟨wk, rfl⟩ : ∃ wk : World, wk = wr := ⟨_, rfl⟩
        obtain ⟨k, at', b, hk, rfl, rfl, hok, hab, han, ho, hb, hbx⟩ := hrel
        have HO := Lib.hid ho
        have HB := Lib.hid hb
        have HX := Lib.hid hbx
        have HOKK := Lib.hid hok
        obtain ⟨ao, co, hov⟩ := shapeS HO.out
        subst hov
        clear ho hb hbx hok
        by_cases hkn : k < n
        · obtain ⟨u, bb, oo, hu, rfl, ⟨ar, nr, kr, g0, g1, g2, hRd, _, _, _⟩⟩ := (HU.out wk HB.out).at hkn
          obtain ⟨u', bb', oo', hu', hbb', ⟨ar', nr', kr', _, _, g2', hRd', _, _, _⟩⟩ := HU0.out.at hkn
          injection hbb' with hbb'
          injection hbb' with hb1' hb2' _
          subst hb1' hb2'
          have e3 := g2.symm.trans (cell_keep HB.out g2')
          injection e3 with e3
          injection e3 with e31 e32 e33
          subst e31 e32 e33
          have e4 : u' = u := Option.some.inj (hu'.symm.trans hu)
          subst e4
          clear hu' g2'
          obtain ⟨hkl, hke⟩ := List.getElem?_eq_some_iff.1 hu
          have hcs := HOKK.out
          rw [List.drop_eq_getElem_cons hkl, hke] at hcs
          obtain ⟨⟨r1, r2, r3, r4, r5⟩, r6⟩ := okUs_cons hcs
          have HR6 := Lib.hid r6
          obtain ⟨ulo, uhi, rds⟩ := u'
          simp only at g0 g1 hRd hRd' r1 r2 r3 r4
          obtain ⟨lo, rfl⟩ := Int.eq_ofNat_of_zero_le r2
          obtain ⟨hi, rfl⟩ := Int.eq_ofNat_of_zero_le (show 0 ≤ uhi by omega)
          have hrd : rds = rdsL x lo hi := of_decide_eq_true r5
          subst hrd
          obtain ⟨i, r, hwh, hri, _, hrw⟩ := HWH.out lo hi
          have HRI := Lib.hid hri
          have HRW := Lib.hid hrw
          have HRDS := Lib.hid hRd'
          have hir := (List.getElem?_eq_some_iff.1 hri).1
          rw [hRd.len] at hir
          have HRU := Lib.hid (fun W (hb : Below wk.heap.size wk W) => readU ⟨(lo : Int), (hi : Int), rdsL x lo hi⟩ ar nr kr (s : Int) W (Rdgs.mono hRd (Nat.le_refl _) hb))
          simp only [whoE, hwh] at HRU
          have hsr := hRd.small
          have i1 : (k : Int) < (n : Int) := by omega
          clear hu hkl hke hcs r5 r6 hwh hri hrw hRd hRd'
          have bA := balloc wk (.cells #[.int .i64 (lo : Int), .int .i64 (hi : Int), .slice ar nr kr] 36)
          have HU0 := Lib.hid (BlkK.new wk #[.int .i64 (lo : Int), .int .i64 (hi : Int), .slice ar nr kr] 36)
          have HBA := Lib.hid bA
          have u0 := HU0.out.cell (i := 0) rfl
          have u1 := HU0.out.cell (i := 1) rfl
          have u2 := HU0.out.cell (i := 2) rfl
          clear bA
          go_wp2_with (fail)
          refine (HRU.out _ HBA.out).mono ?_
          rintro e W1 ⟨rfl, hb1⟩
          have HBB := Lib.hid (bstep HBA.out hb1)
          have HU1 := Lib.hid (HU0.out.below hb1)
          have HX1 := Lib.hid (HX.out.below HBB.out)
          clear hb1 u0 u1 u2 g0 g1 g2
          have u0 := HU1.out.cell (i := 0) rfl
          obtain ⟨k0, k1, k2, k3⟩ := HX1.out.coll
          go_wp2_with (fail)
          refine (HRD.out at' lo (by omega) (by omega) _ (bstep HB.out HBB.out)).mono ?_
          rintro e W2 ⟨z, rfl, hz, hb2⟩
          obtain ⟨az, cz, rfl, hsz⟩ := hz.strs (by have := HLN.out at' lo; omega)
          have HSZ := Lib.hid hsz
          have HBC := Lib.hid (bstep HBB.out hb2)
          have HO2 := Lib.hid (HO.out.below HBC.out)
          have HX2 := Lib.hid (HX1.out.below hb2)
          have HU2 := Lib.hid (HU1.out.below hb2)
          have HBW := Lib.hid (bstep HB.out HBC.out)
          have hl1 := HLN.out 0 at'
          have hl2 := HLN.out at' lo
          have HSA := Lib.hid (HSP.out 0 at' lo (Nat.zero_le _) (by omega))
          have HSB := Lib.hid (HSP.out 0 lo hi (Nat.zero_le _) (by omega))
          have hl3' := HLN.out 0 lo
          have hl4 := HLN.out lo hi
          have hzw := HBW.out.size
          clear hb2 hz hsz u0 k0 k1 k2 k3
          obtain ⟨m1, hm1⟩ : ∃ m, (readL x s 0 at').length = m := ⟨_, rfl⟩
          obtain ⟨m2, hm2⟩ : ∃ m, (readL x s at' lo).length = m := ⟨_, rfl⟩
          have HM1 := Lib.hid hm1
          rw [hm1] at hl1 ⊢
          rw [hm2] at hl2 HSZ ⊢
          clear hm1 hm2
          have HO2' := Lib.hid (show OwnS W2 w.heap.size (.slice ao m1 co) (readL x s 0 at') by have := HO2.out; rwa [HM1.out] at this)
          obtain ⟨r', br, ofr, hr', rfl, ⟨a5, n5, k5, a6, n6, k6, q0, s5, q1, s6⟩⟩ := HRDS.out.at hir
          obtain rfl : r' = r := Option.some.inj (hr'.symm.trans HRI.out)
          have HQ0 := Lib.hid q0
          have HS5 := Lib.hid s5
          have HL5 := Lib.hid (show n5 ≤ hi - lo by have := s5.len; rw [HRW.out] at this; omega)
          have hl5 := HL5.out
          have i2 : (i : Int) < (nr : Int) := by omega
          clear hr' q0 q1 s5 s6
          go_wp2_with (first
            | (at_builtin; refine wpList_append_strs rfl _ _ 22 rfl w.heap.size i0 Tryz.underlying22 hi0 hz0 hz1 hz2 _ _ rfl HO2'.out az m2 cz _ rfl HSZ.out (by rw [HM1.out]; omega) hzw ?_; intro v3 w3 ho3 hb3 hg3; have HO3 := Lib.hid ho3; have HB3 := Lib.hid (HBW.out.trans hb3); have HU3 := Lib.hid (HU2.out.keptE hg3 (BlkK.apart HU2.out (show W2.ownsRow _ 9 1 _ _ _ from HO2'.out) (by decide))); have HX3 := Lib.hid (HX2.out.keptE hg3 (BlkK.apart HX2.out (show W2.ownsRow _ 9 1 _ _ _ from HO2'.out) (by decide))); have u2 := HU3.out.cell (i := 2) rfl; have q0 := cell_keep HB3.out HQ0.out; have hl6 := hl3'; clear ho3 hb3 hg3)
            | (at_builtin; refine wpList_append_strs rfl _ _ 22 rfl w.heap.size i0 Tryz.underlying22 hi0 hz0 hz1 hz2 _ _ rfl HO3.out a5 n5 k5 _ rfl (StrsL.mono HS5.out (Nat.le_refl _) HB3.out) (by rw [← HSA.out]; omega) HB3.out.size ?_; intro v4 w4 ho4 hb4 hg4; have HO4 := Lib.hid ho4; have HB4' := Lib.hid (HB3.out.trans hb4); have HU4 := Lib.hid (HU3.out.keptE hg4 (BlkK.apart HU3.out (show w3.ownsRow _ 9 1 _ _ _ from HO3.out) (by decide))); have HX4 := Lib.hid (HX3.out.keptE hg4 (BlkK.apart HX3.out (show w3.ownsRow _ 9 1 _ _ _ from HO3.out) (by decide))); have u1 := HU4.out.cell (i := 1) rfl; clear ho4 hb4 hg4))
          go_roundw
          case rel => exact ⟨k + 1, hi, (hi : Int), by omega, by simp, by simp, HR6.out, by omega, by omega, by rw [HSB.out, HSA.out, ← HRW.out]; exact HO4.out, HB4'.out, HX4.out⟩
          case measure => simp [intOf]; omega
        · obtain rfl : k = n := by omega
          have HSA := Lib.hid (HSP.out 0 at' n3 (Nat.zero_le _) han)
          obtain ⟨k0, k1, k2, k3⟩ := HX.out.coll
          go_wp2_with (fail)
          refine (HRD.out at' n3 han (Nat.le_refl _) _ HB.out).mono ?_
          rintro e W2 ⟨z, rfl, hz, hb2⟩
          obtain ⟨az, cz, rfl, hsz⟩ := hz.strs (by have := HLN.out at' n3; omega)
          have HSZ := Lib.hid hsz
          have HO2 := Lib.hid (HO.out.below hb2)
          have HBW := Lib.hid (bstep HB.out hb2)
          have hl1 := HLN.out 0 at'
          have hl2 := HLN.out at' n3
          have hzw := HBW.out.size
          clear hb2 hz hsz k0 k1 k2 k3
          obtain ⟨m1, hm1⟩ : ∃ m, (readL x s 0 at').length = m := ⟨_, rfl⟩
          obtain ⟨m2, hm2⟩ : ∃ m, (readL x s at' n3).length = m := ⟨_, rfl⟩
          have HM1 := Lib.hid hm1
          rw [hm1] at hl1 ⊢
          rw [hm2] at hl2 HSZ ⊢
          clear hm1 hm2
          have HO2' := Lib.hid (show OwnS W2 w.heap.size (.slice ao m1 co) (readL x s 0 at') by have := HO2.out; rwa [HM1.out] at this)
          go_wp2_with (at_builtin; refine wpList_append_strs rfl _ _ 22 rfl w.heap.size i0 Tryz.underlying22 hi0 hz0 hz1 hz2 _ _ rfl HO2'.out az m2 cz _ rfl HSZ.out (by rw [HM1.out]; omega) hzw ?_; intro v3 w3 ho3 hb3 hg3; have HO3 := Lib.hid ho3; have HB3 := Lib.hid (HBW.out.trans hb3); clear ho3 hb3 hg3)
          go_ret2
          rw [HE.out]
          exact ⟨_, rfl, by rw [HSA.out]; exact HO3.out, HB3.out⟩
  · have HE := Lib.hid (textE_bad (s := s) hch)
    have dn : (chkU x us != 0) = true := by simpa using hch
    obtain ⟨cc, hcc⟩ : ∃ cc, chkU x us = cc := ⟨_, rfl⟩
    rw [hcc] at HCK dn HE
    unfold collV at HCK ⊢
    clear h hc1 hev hu hch hcc
    go_enter Tryz.func38, Tryz.ntmps38
    obtain ⟨q0, q1, q2, q3⟩ := HBX.out.coll
    go_wp2_with (fail)
    refine (HCK.out _ HB4.out).mono ?_
    rintro e w1 ⟨rfl, hb1⟩
    clear q0 q1 q2 q3
    go_wp2_with (fail)
    go_ret2
    rw [HE.out]
    exact ⟨_, rfl, OwnS.nil _ _, bstep HB4.out hb1⟩
end Go.Proofs.YthfppkcefnmdoaaGreatDoor
