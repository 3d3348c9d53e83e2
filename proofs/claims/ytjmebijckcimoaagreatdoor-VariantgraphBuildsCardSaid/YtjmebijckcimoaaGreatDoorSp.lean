import Derived.Test.YtjmebijckcimoaaGreatDoorGx24
import Derived.Test.YtjmebijckcimoaaGreatDoorCn24
import Derived.Test.YtjmebijckcimoaaGreatDoorCk24



namespace Go.Ap
open Go Go.RowKit
section
variable {P : Program} {w : World}
theorem wpList_append_ints {ops : Array Oper} {rest : List Oper} {o : Oper} {a : Act} {Q : Exit → Act → World → Prop} (hgd : o.guard = none) (s x : Operand) (t e : TypeId)
    (ho : o.op = .call { callee := .builtin .append, args := #[s, x], argTypes := #[t, t] })
    (base : Nat) (i : TypeInfo) (ht : P.underlying t = some (.slice e)) (hi : P.info? e = some i) (hz : i.zero = some (.int .i64 0)) (hsize : i.size = 1) (hby : i.bytes = 8)
    (v : Value) (xs : List Int) (hs : a.eval s = v) (hown : OwnI e w base v xs) (b off m c : Nat) (ys : List Int) (hx : a.eval x = .slice (some ⟨b, off, none⟩) m c) (hyl : ys.length = m)
    (hy : ∀ j y, ys[j]? = some y → w.cell? ⟨b, off + j, none⟩ = some (.int .i64 y)) (hyi : ∀ y ∈ ys, I64 y)
    (hlen : xs.length + m ≤ 8388608) (hbase : base ≤ w.heap.size)
    (h : ∀ v' w', OwnI e w' base v' (xs ++ ys) → Below base w w' → w.grownBy w' v.ownBlock → wpList P ops Q rest (a.put o.dst v') w') : wpList P ops Q (o :: rest) a w := by
  refine wpList_append_own w hgd s x t ho base e i (.int .i64 0) 1 8 ht hi hz hsize hby rfl (by decide) v xs.length (xs.map (Value.int .i64)) hs hown.1 ⟨b, off, none⟩ m c (ys.map (Value.int .i64)) hx (by simp [hyl]) ?_ (by intro u hu; obtain ⟨x, _, rfl⟩ := List.mem_map.1 hu; rfl) (by unfold maxLen; omega) (by omega) hbase ?_
  · intro j u hu
    rw [List.getElem?_map] at hu
    obtain ⟨y, hyj, rfl⟩ := Option.map_eq_some_iff.1 hu
    have hadd : (⟨b, off, none⟩ : Addr).add j = ⟨b, off + j, none⟩ := by unfold Addr.add; split <;> simp_all
    rw [hadd]
    exact hy j y hyj
  · intro v' w' h1 h2 _
    refine h v' w' ⟨?_, fun z hz => ?_⟩ ((Below.refl base w).grown h2 hbase fun k hk => (hown.1.lt k hk).1) h2
    · rw [List.length_append, List.map_append, hyl]
      exact h1
    · rcases List.mem_append.1 hz with h3 | h3
      · exact hown.2 z h3
      · exact hyi z h3
end
/-- all sources of the arcs, one behind the other -/
def allS (al : List Vg.Arc) : List Int := al.flatMap (·.2)
/-- each once, in order -/
def srcC (al : List Vg.Arc) : List Int := Lib.compact (sortI (allS al))
theorem srcC_all (al : List Vg.Arc) : Vg.AllS al (srcC al) where
  asc := (compact_asc (sortI_asc _)).1
  all := fun s => by
    unfold srcC
    rw [(compact_asc (sortI_asc _)).2, (sortI_perm _).mem_iff]
    unfold allS
    rw [List.mem_flatMap]
theorem srcC_len (al : List Vg.Arc) : (srcC al).length ≤ (allS al).length := by
  have h1 : (Lib.compact (sortI (allS al))).length ≤ (sortI (allS al)).length := by
    unfold Lib.compact Lib.compactUpTo
    rw [List.length_map]
    exact Nat.le_trans (List.length_filter_le _ _) (by simp)
  have h2 := (sortI_perm (allS al)).length_eq
  unfold srcC
  omega
end Go.Ap
namespace Go.Proofs.YtjmebijckcimoaaGreatDoor
open Go.RowKit Go.Ap Go.Shelf Go.Proofs Go.Sort
attribute [local go_sem] Oper.semAt_some bs_toList empty_toList bs_size bs_extract
theorem sortOwn (base : Nat) (v : Value) (xs : List Int) (w : World) (hw : base ≤ w.heap.size) (ho : OwnI 3 w base v xs) (hl : xs.length ≤ 1000000) :
    ∃ a c, v = .slice a xs.length c ∧ Calls Tryz.prog 24 #[.slice a xs.length c] w fun e w' => e = .returned (.tuple #[]) ∧ OwnI 3 w' base v (Go.Ap.sortI xs) ∧ Below base w w' := by
  rcases Nat.eq_zero_or_pos xs.length with h0 | h0
  · have hx : xs = [] := List.eq_nil_of_length_eq_zero h0
    subst hx
    obtain ⟨a, c, rfl, _⟩ := ho.ints (by simp)
    refine ⟨a, c, rfl, (Tryz.slices_Sort_int_none a c w).mono ?_⟩
    rintro e w' ⟨rfl, rfl⟩
    exact ⟨rfl, by simpa [Go.Ap.sortI] using ho, Below.refl _ _⟩
  · rcases ho.1.2 with ⟨_, hz⟩ | ⟨gb, cap, cur, rfl, hbase, hgb, r1, r2, r3, r4⟩
    · omega
    · have hH : Go.Sort.Holds (Value.int .i64) w gb 0 xs.toArray := holds_of_block_i hgb (by simpa using r4)
      have hgl : gb < w.heap.size := (Array.getElem?_eq_some_iff.1 hgb).1
      refine ⟨_, cap, rfl, (Tryz.slices_Sort_int gb 0 cap xs w hH hgl (by omega)).mono ?_⟩
      rintro e w' ⟨rfl, nn, os, rfl⟩
      have hp := Go.Ap.sortI_perm xs
      have hs := ownsRow_sorted_i (w := w) (n := nn) (os := os) (ts := Go.Ap.sortI xs) (ss := xs) (hp.length_eq) hbase hgb r1 r2 r3
      refine ⟨rfl, ⟨?_, fun x hx => ho.2 x (hp.mem_iff.1 hx)⟩, (Below.refl _ _).grown (grownBy_sorted_i _) hw fun r he => by cases he; exact hbase⟩
      rw [hp.length_eq]
      exact hs
theorem compOwn (base : Nat) (v : Value) (xs : List Int) (w : World) (hw : base ≤ w.heap.size) (ho : OwnI 3 w base v xs) (hl : xs.length ≤ 1000000) (hs : xs.Pairwise (· ≤ ·)) :
    ∃ a c, v = .slice a xs.length c ∧ Calls Tryz.prog 70 #[.slice a xs.length c] w fun e w' => ∃ u, e = .returned u ∧ OwnI 3 w' base u (Lib.compact xs) ∧ Below base w w' := by
  by_cases h0 : xs = []
  · subst h0
    obtain ⟨a, c, rfl, _⟩ := ho.ints (by simp)
    refine ⟨a, c, rfl, (Tryz.slices_Compact_int_empty a c w).mono ?_⟩
    rintro e w' ⟨rfl, rfl⟩
    exact ⟨_, rfl, by simpa [Lib.compact, Lib.compactUpTo] using ho, Below.refl _ _⟩
  · obtain ⟨a, c, rfl, h⟩ := compG base v xs w ho hl h0 hs
    refine ⟨a, c, rfl, h.mono ?_⟩
    rintro e w' ⟨u, rfl, h1, h2, _⟩
    exact ⟨u, rfl, h1, (Below.refl base w).grown h2 hw fun k hk => (ho.1.lt k hk).1⟩
set_option maxRecDepth 100000 in
set_option maxHeartbeats 4000000 in
theorem sourcesP (al : List Vg.Arc) (a1 : Option Addr) (n1 c1 : Nat) (a2 : Option Addr) (n2 c2 : Nat) (w : World) (h : Arcs w a2 n2 al) (hne : ∀ a ∈ al, a.2 ≠ []) (hsz : (allS al).length ≤ 1000000) :
    Calls Tryz.prog 47 #[graphV a1 n1 c1 a2 n2 c2] w fun e w' => ∃ u, e = .returned u ∧ OwnI 3 w' w.heap.size u (srcC al) ∧ Below w.heap.size w w' := by
  obtain ⟨i0, hi0, hz0, hz1, hz2⟩ := info_parts infoI24
  have hl := h.len
  have hs2 := h.small
  have HL := Lib.hid hl
  have HA := Lib.hid h
  have HNE := Lib.hid hne
  have HSZ := Lib.hid (show ∀ i, (allS (al.take i)).length ≤ 1000000 from fun i => by
    refine Nat.le_trans ?_ hsz
    unfold allS
    rw [← List.take_append_drop i al, List.flatMap_append, List.length_append, List.take_append_drop]
    exact Nat.le_add_right _ _)
  have HST := Lib.hid (fun v W (hw : w.heap.size ≤ W.heap.size) (ho : OwnI 3 W w.heap.size v (allS al)) => sortOwn w.heap.size v (allS al) W hw ho hsz)
  have HSL := Lib.hid (show (sortI (allS al)).length = (allS al).length from (sortI_perm _).length_eq)
  have HCO := Lib.hid (fun v W (hw : w.heap.size ≤ W.heap.size) (ho : OwnI 3 W w.heap.size v (sortI (allS al))) => compOwn w.heap.size v _ W hw ho (by rw [(sortI_perm _).length_eq]; exact hsz) (sortI_asc _))
  obtain ⟨W4, hW4⟩ : ∃ W4, w.alloc (.cells #[.slice a1 n1 c1, .slice a2 n2 c2] 31) = W4 := ⟨_, rfl⟩
  have HB4 := Lib.hid (show Below w.heap.size w W4 by rw [← hW4]; exact balloc _ _)
  have HBX := Lib.hid (show BoxG W4 w.heap.size a1 n1 c1 a2 n2 c2 by rw [← hW4]; exact BoxG.new w a1 n1 c1 a2 n2 c2)
  clear h hl hne hsz
  unfold graphV
  go_enter Tryz.func47, Tryz.ntmps47
  obtain ⟨k0, k1⟩ := HBX.out
  go_wp2_with (fail)
  go_loopw [3, 9] (fun ov iv wr => ∃ i : Nat, i ≤ n2 ∧ iv = .int .i64 i ∧ OwnI 3 wr w.heap.size ov (allS (al.take i)) ∧ Below w.heap.size w wr) (fun _ iv _ => n2 - (intOf iv).toNat)
  case atStart => exact ⟨0, Nat.zero_le _, rfl, OwnI.nil _ _ _, HB4.out⟩
  case round =>
    obtain ⟨wi, rfl⟩ : ∃ wi : World, wi = wr := ⟨_, rfl⟩
    obtain ⟨i, hi, rfl, ho, hb⟩ := hrel
    have HO := Lib.hid ho
    have HB := Lib.hid hb
    have hszi := hb.size
    by_cases hin : i < n2
    · obtain ⟨x, b, off, a5, k5, hx, rfl, c0, c1', c2', hs⟩ := (HA.out.mono (Nat.le_refl _) hb).at hin
      obtain ⟨⟨f, t⟩, src⟩ := x
      simp only at c0 c1' c2'
      have hsn := HNE.out _ (List.mem_of_getElem? hx)
      have hpos : 0 < src.length := List.length_pos_iff.2 hsn
      have HN := Lib.hid (show allS (al.take (i + 1)) = allS (al.take i) ++ src by
        rw [List.take_add_one, hx]
        simp [allS])
      have hle := HSZ.out (i + 1)
      have hsi := hs.src
      obtain ⟨_, bs5, os5, _, _, rfl, _, _⟩ := Sl.at hsi hpos
      have hkb := balloc wi (.cells #[.int .i64 f, .int .i64 t, .slice (some ⟨bs5, os5, none⟩) src.length k5] 48)
      have HO2 := Lib.hid (ho.below hkb)
      have HB2 := Lib.hid (bstep hb hkb)
      have HCL := Lib.hid (show ∀ j y, src[j]? = some y → (wi.alloc (.cells #[.int .i64 f, .int .i64 t, .slice (some ⟨bs5, os5, none⟩) src.length k5] 48)).cell? ⟨bs5, os5 + j, none⟩ = some (.int .i64 y) from fun j y hj => by
        have hjl := (List.getElem?_eq_some_iff.1 hj).1
        obtain ⟨y', b6, o6, v6, hy, he, hc, hv, _⟩ := Sl.at hsi hjl
        cases he
        rw [hj] at hy
        cases hy
        rw [hv] at hc
        exact cell_keep hkb hc)
      have HWF := Lib.hid (show ∀ y ∈ src, I64 y from hsi.wf)
      have hln : (allS (al.take i)).length + src.length ≤ 8388608 := by rw [HN.out, List.length_append] at hle; omega
      obtain ⟨xs, hxs⟩ : ∃ xs, allS (al.take i) = xs := ⟨_, rfl⟩
      rw [hxs] at HO2 HN hln
      obtain ⟨m5, hm5⟩ : ∃ m, src.length = m := ⟨_, rfl⟩
      have HM5 := Lib.hid hm5
      rw [hm5] at c2' HO2 HB2 HCL hln
      have i1 : (i : Int) < (n2 : Int) := by omega
      obtain ⟨X, hX⟩ : ∃ X, wi.heap.size = X := ⟨_, rfl⟩
      have K := Lib.hid (show BlkK (wi.alloc (.cells #[.int .i64 f, .int .i64 t, .slice (some ⟨bs5, os5, none⟩) m5 k5] 48)) X #[.int .i64 f, .int .i64 t, .slice (some ⟨bs5, os5, none⟩) m5 k5] 48 by rw [← hX]; exact BlkK.new wi _ _)
      obtain ⟨WA, hWA⟩ : ∃ W, wi.alloc (.cells #[.int .i64 f, .int .i64 t, .slice (some ⟨bs5, os5, none⟩) m5 k5] 48) = W := ⟨_, rfl⟩
      rw [hWA] at HO2 HB2 HCL K
      have x2 : WA.cell? ⟨X, 2, none⟩ = some (.slice (some ⟨bs5, os5, none⟩) m5 k5) := K.out.cell (i := 2) rfl
      have hszw := HB2.out.size
      clear hx ho hb hs hsn hpos hsi hkb hm5 hxs hle
      go_wp2_with (at_builtin; refine wpList_append_ints rfl _ _ 44 3 rfl w.heap.size i0 Tryz.underlying44 hi0 hz0 hz1 hz2 _ xs rfl HO2.out bs5 os5 m5 k5 src rfl HM5.out HCL.out HWF.out hln hszw ?_; intro v' w' hv' hb' _; have HV := Lib.hid hv'; have HBV := Lib.hid hb'; clear hv' hb')
      go_roundw
      case rel => exact ⟨i + 1, by omega, by simp, by rw [HN.out]; exact HV.out, HB2.out.trans HBV.out⟩
      case measure => simp [intOf]; omega
    · obtain rfl : i = n2 := by omega
      rw [List.take_of_length_le (by rw [HL.out]; exact Nat.le_refl _)] at ho
      obtain ⟨a, c, rfl, hsort⟩ := HST.out _ _ hszi ho
      obtain ⟨m, hm⟩ : ∃ m, (allS al).length = m := ⟨_, rfl⟩
      rw [hm] at HSL
      simp only [hm] at hsort ⊢
      have HS := Lib.hid hsort
      clear ho hb hsort hm
      go_wp2_with (fail)
      refine HS.out.mono ?_
      rintro e W3 ⟨rfl, ho3, hb3⟩
      obtain ⟨a', c', he, hcomp⟩ := HCO.out _ W3 (by have := hb3.size; omega) ho3
      rw [HSL.out] at he hcomp
      cases he
      have HC := Lib.hid hcomp
      have HB3 := Lib.hid (HB.out.trans hb3)
      clear ho3 hb3 hcomp
      go_wp2_with (fail)
      refine HC.out.mono ?_
      rintro e W4 ⟨u, rfl, ho4, hb4⟩
      go_wp2_with (fail)
      go_ret
      exact ⟨u, rfl, ho4, HB3.out.trans hb4⟩
end Go.Proofs.YtjmebijckcimoaaGreatDoor



namespace Go.Proofs.YtjmebijckcimoaaGreatDoor
open Go.RowKit Go.Ap Go.Shelf Go.Proofs

attribute [local go_sem] Oper.semAt_some bs_toList empty_toList bs_size bs_extract
theorem contI (a : Option Addr) (n c : Nat) (xs : List Int) (x : Int) (w : World) (h : Ints w a n xs) :
    Calls Tryz.prog 46 #[.slice a n c, .int .i64 x] w fun e w' => e = .returned (.bool (xs.contains x)) ∧ w = w' := by
  have hl := h.len
  have hs := h.small
  rcases Nat.eq_zero_or_pos n with h0 | h0
  · subst h0
    have e1 : xs = [] := List.eq_nil_of_length_eq_zero hl
    subst e1
    exact (Tryz.slices_Contains_int_empty a c x w).mono fun e w' ⟨he, hw⟩ => ⟨he, hw.symm⟩
  · obtain ⟨b, off, rfl, hc⟩ := h.at h0
    exact (Tryz.slices_Contains_int b off n c xs x w (by omega) (by omega) (fun j hj => hc j (by omega))).mono fun e w' ⟨he, hw⟩ => ⟨by rw [he, List.take_of_length_le (by omega)], hw.symm⟩
theorem BoxG.kept {W W' : World} {b e b2 : Nat} {a1 : Option Addr} {n1 c1 : Nat} {a2 : Option Addr} {n2 c2 : Nat} (h : BoxG W b a1 n1 c1 a2 n2 c2) (hk : KeepR e b b2 W W') : BoxG W' b a1 n1 c1 a2 n2 c2 :=
  ⟨(hk.cell (.inr (.inl rfl))).trans h.k0, (hk.cell (.inr (.inl rfl))).trans h.k1⟩
set_option maxRecDepth 100000 in
set_option maxHeartbeats 8000000 in
theorem path_it (F : Fence) (hF : F = Fence.wide) (m : Nat) (hm : 1 ≤ m) (l Bg Bs e0 : Nat) (al : List Vg.Arc) (s : Int) (a1 : Option Addr) (n1 c1 : Nat) (a2 : Option Addr) (n2 c2 : Nat) (J Jx : List Int → World → Prop)
    (hY : ∀ pre (r : Int) W, J pre W → pre.length < (Vg.walkP ((n1 : Int) - 1) s 0 al).length → r ∈ Vg.walkP ((n1 : Int) - 1) s 0 al → YieldAt F (m - 1) Tryz.prog l #[.int .i64 r] W fun en W' =>
      (en = .returned (.bool true) ∧ J (pre ++ [r]) W' ∧ KeepR e0 Bg Bs W W') ∨ (en = .returned (.bool false) ∧ Jx (pre ++ [r]) W'))
    (W w0 : World) (he : w0.heap.size = e0) (heW : e0 ≤ W.heap.size) (hBg : Bg < W.heap.size) (hBs : Bs < W.heap.size) (hwW : Below e0 w0 W) (hx : Arcs w0 a2 n2 al) (hn1 : 2 ≤ n1 ∧ n1 ≤ 4096) (hJ : AbidesFrom W.heap.size J)
    (hbx : BoxG W Bg a1 n1 c1 a2 n2 c2) (hbs : W.cell? ⟨Bs, 0, none⟩ = some (.int .i64 s)) (h0 : J [] W) :
    CallsIn F m Tryz.prog 74 #[.func (.yield l) #[] #[], .pointer (some ⟨Bg, 0, none⟩), .pointer (some ⟨Bs, 0, none⟩)] W fun en W' => (∃ v, en = .returned v) ∧
      ((∃ zs, zs = Vg.walkP ((n1 : Int) - 1) s 0 al ∧ J zs W') ∨ (∃ pre, pre <+: Vg.walkP ((n1 : Int) - 1) s 0 al ∧ Jx pre W')) := by
  subst hF
  have hl2 := hx.len
  have hs2 := hx.small
  have HL := Lib.hid hl2
  have HJ := Lib.hid hJ
  have HBX := Lib.hid hbx
  have HBS := Lib.hid hbs
  have HN1 := Lib.hid hn1
  have HX := Lib.hid (fun W' (hk : KeepR e0 Bg Bs W W') => hx.mono (Nat.le_of_eq he) (hwW.trans hk.below))
  obtain ⟨L, hL⟩ : ∃ L, Vg.walkP ((n1 : Int) - 1) s 0 al = L := ⟨_, rfl⟩
  rw [hL] at hY ⊢
  have HL0 := Lib.hid hL
  have HY := Lib.hid (show ∀ pre (r : Int) W, J pre W → pre.length < L.length → r ∈ L → YieldAt Fence.wide (m - 1) Tryz.prog l #[.int .i64 r] W fun en W' => ∃ b, en = .returned (.bool b) ∧ AnsC J Jx e0 Bg Bs pre r W b W' from fun pre x W h1 h2 h3 => (hY pre x W h1 h2 h3).mono fun en W' h => by
    rcases h with ⟨h, h3⟩ | ⟨h, h3⟩
    · exact ⟨true, h, .inl ⟨rfl, h3⟩⟩
    · exact ⟨false, h, .inr ⟨rfl, h3⟩⟩)
  have HKB := Lib.hid (show ∀ (A C : World), W.heap.size ≤ A.heap.size → Below A.heap.size A C → KeepR e0 Bg Bs A C from fun A C hA hb => KeepR.of_below hb (by omega) (by omega) (by omega))
  have k0 := hbx.k0
  have k1 := hbx.k1
  clear hY hx hJ hbx hL hl2 hn1
  have hFc : Fence.wide.fn 46 := trivial
  refine callsIn_of_wp Tryz.func74 rfl trivial ?_ rfl
  simp only [Tryz.ntmps74, List.size_toArray, List.length_cons, List.length_nil, Nat.reduceAdd, Nat.reduceSub, Array.replicate_succ, Array.replicate_zero, List.push_toArray, List.append_toArray, List.nil_append, List.cons_append]
  gi_wp2
  clear k0 k1 hbs
  gi_loopw [4, 10] (fun pv iv wr => ∃ (i : Nat) (p : Int) (pre : List Int), i ≤ n2 ∧ iv = .int .i64 i ∧ pv = .int .i64 p ∧ pre ++ Vg.walkP ((n1 : Int) - 1) s p (al.drop i) = L ∧ J pre wr ∧ KeepR e0 Bg Bs W wr)
    (fun _ iv _ => n2 - (intOf iv).toNat)
  case atStart => exact ⟨0, 0, [], Nat.zero_le _, rfl, rfl, by rw [List.nil_append, List.drop_zero]; exact HL0.out, h0, KeepR.refl _ _ _ _⟩
  case round =>
    obtain ⟨wo, rfl⟩ : ∃ wo : World, wo = wr := ⟨_, rfl⟩
    obtain ⟨i, p, pre, hi, rfl, rfl, hpre, hJp, hkr⟩ := hrel
    have HPRE := Lib.hid hpre
    have HJP := Lib.hid hJp
    have HKR := Lib.hid hkr
    have hszk := hkr.size
    by_cases hin : i < n2
    · obtain ⟨x, b, off, a5, k5, hx, rfl, c0, c1', c2', hs⟩ := (HX.out wo hkr).at hin
      obtain ⟨⟨f, t⟩, src⟩ := x
      simp only at c0 c1' c2'
      have hd : al.drop i = ((f, t), src) :: al.drop (i + 1) := by
        obtain ⟨hl, he⟩ := List.getElem?_eq_some_iff.1 hx
        rw [← he]
        exact List.drop_eq_getElem_cons hl
      have HD := Lib.hid hd
      have hkb := balloc wo (.cells #[.int .i64 f, .int .i64 t, .slice a5 src.length k5] 48)
      have HK1 := Lib.hid (HKR.out.trans (HKB.out _ _ hszk hkb))
      have HJ1 := Lib.hid (HJ.out _ _ _ none HJP.out (grown_of_below hkb) (by simp))
      have HCT := Lib.hid (contI a5 src.length k5 src s _ (Ints.mono hs.src (Nat.le_refl _) hkb))
      obtain ⟨m5, hm5⟩ : ∃ m, src.length = m := ⟨_, rfl⟩
      rw [hm5] at c2' HK1 HJ1 HCT
      obtain ⟨X, hX⟩ : ∃ X, wo.heap.size = X := ⟨_, rfl⟩
      have K := Lib.hid (show BlkK (wo.alloc (.cells #[.int .i64 f, .int .i64 t, .slice a5 m5 k5] 48)) X #[.int .i64 f, .int .i64 t, .slice a5 m5 k5] 48 by rw [← hX]; exact BlkK.new wo _ _)
      obtain ⟨WA, hWA⟩ : ∃ W, wo.alloc (.cells #[.int .i64 f, .int .i64 t, .slice a5 m5 k5] 48) = W := ⟨_, rfl⟩
      rw [hWA] at HK1 HJ1 HCT K
      have x0 : WA.cell? ⟨X, 0, none⟩ = some (.int .i64 f) := K.out.cell (i := 0) rfl
      have x1 : WA.cell? ⟨X, 1, none⟩ = some (.int .i64 t) := K.out.cell (i := 1) rfl
      have x2 : WA.cell? ⟨X, 2, none⟩ = some (.slice a5 m5 k5) := K.out.cell (i := 2) rfl
      have g0 := (HBX.out.kept HK1.out).k0
      have gs : WA.cell? ⟨Bs, 0, none⟩ = some (.int .i64 s) := (HK1.out.cell (.inr (.inr rfl))).trans HBS.out
      have i1 : (i : Int) < (n2 : Int) := by omega
      clear hx hs hd hkb hm5 hpre hJp hkr
      by_cases hfp : f = p
      · have e1 : (f != p) = false := by simpa using hfp
        cases hc : src.contains s
        · rw [hc] at HCT
          have HN := Lib.hid (show pre ++ Vg.walkP ((n1 : Int) - 1) s p (al.drop (i + 1)) = L by
            rw [← HPRE.out, HD.out, Vg.walkP_cons, if_neg (fun h => by have := List.contains_iff_mem.2 h.2; rw [hc] at this; cases this)])
          clear hc hfp
          gi_wp2_with (fail)
          refine (callsIn_wide.2 HCT.out).mono ?_
          rintro e2 w1 ⟨rfl, rfl⟩
          gi_wp2_with (fail)
          go_roundw
          case rel => exact ⟨i + 1, p, pre, by omega, by simp, rfl, HN.out, HJ1.out, HK1.out⟩
          case measure => simp [intOf]; omega
        · rw [hc] at HCT
          have hwk : Vg.walkP ((n1 : Int) - 1) s p (al.drop i) = if t = (n1 : Int) - 1 then [] else t :: Vg.walkP ((n1 : Int) - 1) s t (al.drop (i + 1)) := by
            rw [HD.out, Vg.walkP_cons, if_pos ⟨hfp, List.contains_iff_mem.1 hc⟩]
          have HWK := Lib.hid hwk
          clear hc hfp hwk
          have hn1a := HN1.out.1
          have hn1b := HN1.out.2
          by_cases hte : t = (n1 : Int) - 1
          · have HZ := Lib.hid (show pre = L by rw [← HPRE.out, HWK.out, if_pos hte, List.append_nil])
            have e2 : (t == (n1 : Int) - 1) = true := by simpa using hte
            clear hte
            gi_wp2_with (fail)
            refine (callsIn_wide.2 HCT.out).mono ?_
            rintro e3 w1 ⟨rfl, rfl⟩
            gi_wp2_with (fail)
            refine ⟨fun _ h => (by cases h), ?_⟩
            gi_wp2_with (fail)
            exact bodyPost_ret (results_none rfl _ _ _) rfl ⟨⟨_, rfl⟩, .inl ⟨_, rfl, by rw [← HZ.out]; exact HJ1.out⟩⟩
          · have HZ := Lib.hid (show (pre ++ [t]) ++ Vg.walkP ((n1 : Int) - 1) s t (al.drop (i + 1)) = L by rw [← HPRE.out, HWK.out, if_neg hte]; simp)
            have e2 : (t == (n1 : Int) - 1) = false := by simpa using hte
            clear hte
            gi_wp2_with (fail)
            refine (callsIn_wide.2 HCT.out).mono ?_
            rintro e3 w1 ⟨rfl, rfl⟩
            obtain ⟨fn, tmps, assign, body, hy, hR⟩ := HY.out pre t _ HJ1.out (by rw [← HZ.out]; simp) (by rw [← HZ.out]; simp)
            gi_wp2_with (refine hR.mono ?_; rintro en W5 ⟨ans, rfl, hans⟩)
            all_goals clear hy hR
            all_goals have HANS := Lib.hid hans
            all_goals clear hans
            all_goals rcases HANS.out with ⟨rfl, hJ3, hk3⟩ | ⟨rfl, hJx3⟩
            all_goals clear HANS
            all_goals first
              | (exfalso; simp_all; done)
              | exact ⟨⟨i + 1, t, pre ++ [t], by omega, by simp, rfl, HZ.out, hJ3, HK1.out.trans hk3⟩, by simp [intOf]; omega⟩
              | exact bodyPost_ret (results_none rfl _ _ _) rfl ⟨⟨_, rfl⟩, .inr ⟨_, by rw [← HZ.out]; exact ⟨_, rfl⟩, hJx3⟩⟩
      · have e1 : (f != p) = true := by simpa using hfp
        have HN := Lib.hid (show pre ++ Vg.walkP ((n1 : Int) - 1) s p (al.drop (i + 1)) = L by rw [← HPRE.out, HD.out, Vg.walkP_cons, if_neg (fun h => hfp h.1)])
        clear hfp HCT
        gi_wp2_with (fail)
        go_roundw
        case rel => exact ⟨i + 1, p, pre, by omega, by simp, rfl, HN.out, HJ1.out, HK1.out⟩
        case measure => simp [intOf]; omega
    · obtain rfl : i = n2 := by omega
      have HZ := Lib.hid (show pre = L by
        rw [← HPRE.out, List.drop_eq_nil_of_le (by rw [HL.out]; exact Nat.le_refl _)]
        simp [Vg.walkP])
      clear hpre hJp hkr
      gi_wp2_with (fail)
      go_end0
      exact ⟨⟨_, rfl⟩, .inl ⟨_, rfl, by rw [← HZ.out]; exact HJP.out⟩⟩
theorem pathP (a1 : Option Addr) (n1 c1 : Nat) (a2 : Option Addr) (n2 c2 : Nat) (s : Int) (w : World) :
    Calls Tryz.prog 48 #[graphV a1 n1 c1 a2 n2 c2, .int .i64 s] w fun e w' => e = .returned (.func (.func 74) #[] #[.pointer (some ⟨w.heap.size, 0, none⟩), .pointer (some ⟨w.heap.size + 1, 0, none⟩)]) ∧
      BlkK w' w.heap.size #[.slice a1 n1 c1, .slice a2 n2 c2] 31 ∧ BlkK w' (w.heap.size + 1) #[.int .i64 s] 3 ∧ Below w.heap.size w w' := by
  unfold graphV
  go_enter Tryz.func48, Tryz.ntmps48
  go_wp2_with (fail)
  go_ret
  have h1 := balloc w (.cells #[.slice a1 n1 c1, .slice a2 n2 c2] 31)
  have h2 := balloc (w.alloc (.cells #[.slice a1 n1 c1, .slice a2 n2 c2] 31)) (.cells #[.int .i64 s] 3)
  refine ⟨by simp, (BlkK.new w _ _).below h2, ?_, bstep h1 h2⟩
  have := BlkK.new (w.alloc (.cells #[.slice a1 n1 c1, .slice a2 n2 c2] 31)) #[.int .i64 s] 3
  rwa [World.size_alloc] at this
end Go.Proofs.YtjmebijckcimoaaGreatDoor
namespace Go.Ap
open Go Go.RowKit Go.Proofs.YtjmebijckcimoaaGreatDoor
theorem BlkK.graph {W : World} {b : Nat} {a1 : Option Addr} {n1 c1 : Nat} {a2 : Option Addr} {n2 c2 : Nat} (h : BlkK W b #[.slice a1 n1 c1, .slice a2 n2 c2] 31) : BoxG W b a1 n1 c1 a2 n2 c2 := ⟨h.cell rfl, h.cell rfl⟩
end Go.Ap
namespace Go.Proofs.YtjmebijckcimoaaGreatDoor
open Go.RowKit Go.Ap Go.Shelf Go.Proofs
/-- the iterator value: all inner nodes on the path, each with the proof that it is one -/
theorem path_stops (al : List Vg.Arc) (s : Int) (a1 : Option Addr) (n1 c1 : Nat) (a2 : Option Addr) (n2 c2 : Nat) (w w0 : World) (hx : Arcs w0 a2 n2 al) (hn1 : 2 ≤ n1 ∧ n1 ≤ 4096) (Bg Bs : Nat) (hb0 : Below w0.heap.size w0 w) (hBg : Bg < w.heap.size) (hBs : Bs < w.heap.size)
    (hbx : BoxG w Bg a1 n1 c1 a2 n2 c2) (hbs : w.cell? ⟨Bs, 0, none⟩ = some (.int .i64 s)) (m : Nat) (hm : 1 ≤ m) :
    SeqStopsK Fence.wide m Tryz.prog 74 #[.pointer (some ⟨Bg, 0, none⟩), .pointer (some ⟨Bs, 0, none⟩)] (fun r : {r : Int // r ∈ Vg.walkP ((n1 : Int) - 1) s 0 al} => #[Value.int .i64 r.1]) (KeepR w0.heap.size Bg Bs) (fun ys => ys.map (·.1) = Vg.walkP ((n1 : Int) - 1) s 0 al) (fun pre => pre.map (·.1) <+: Vg.walkP ((n1 : Int) - 1) s 0 al) (Vg.walkP ((n1 : Int) - 1) s 0 al).length w :=
  fun l J Jx W hW hJ hJx hY h0 => by
    have hres := path_it Fence.wide rfl m hm l Bg Bs w0.heap.size al s a1 n1 c1 a2 n2 c2 (fun pre W => ∃ pre' : List {r : Int // r ∈ Vg.walkP ((n1 : Int) - 1) s 0 al}, pre'.map (·.1) = pre ∧ J pre' W) (fun pre W => ∃ pre' : List {r : Int // r ∈ Vg.walkP ((n1 : Int) - 1) s 0 al}, pre'.map (·.1) = pre ∧ Jx pre' W)
      (fun pre r W h1 h2 h3 => by
        obtain ⟨pre', rfl, hJ1⟩ := h1
        refine (hY pre' ⟨r, h3⟩ W hJ1 (by simpa using h2)).mono fun en W' h => ?_
        rcases h with ⟨e1, e2, e3⟩ | ⟨e1, e2⟩
        · exact .inl ⟨e1, ⟨_, by simp, e2⟩, e3⟩
        · exact .inr ⟨e1, ⟨_, by simp, e2⟩⟩) W w0 rfl (Nat.le_trans hb0.size hW.size) (Nat.lt_of_lt_of_le hBg hW.size) (Nat.lt_of_lt_of_le hBs hW.size) (hb0.trans (hW.mono hb0.size)) hx hn1
      (fun s' W1 W2 row h1 hg hr => by obtain ⟨p, hp, hJ1⟩ := h1; exact ⟨p, hp, hJ p W1 W2 row hJ1 hg hr⟩) (hbx.below hW) (cell_keep hW hbs) ⟨[], rfl, h0⟩
    refine hres.mono fun en W' h => ⟨h.1, ?_⟩
    rcases h.2 with ⟨zs, hz, p, hp, hJ1⟩ | ⟨pre, hpre, p, hp, hJ1⟩
    · exact .inl ⟨p, hp.trans hz, hJ1⟩
    · exact .inr ⟨p, by rw [← hp] at hpre; exact hpre, hJ1⟩
end Go.Proofs.YtjmebijckcimoaaGreatDoor


namespace Go.Ap.Vg
theorem fwdC_le (c : Nat) : ∀ (l : List Ends) {v : Nat → Nat}, (∀ k, v k ≤ c) → ∀ k, fwdC c l v k ≤ c
  | [], v, h, k => h k
  | a :: r, v, h, k => by
    unfold fwdC
    refine fwdC_le c r (fun j => ?_) k
    unfold upd
    split
    · exact Nat.min_le_left _ _
    · exact h j
end Go.Ap.Vg
namespace Go.Proofs.YtjmebijckcimoaaGreatDoor
open Go.RowKit Go.Ap Go.Shelf Go.Proofs

attribute [local go_sem] Oper.semAt_some bs_toList empty_toList bs_size bs_extract
set_option maxHeartbeats 1000000 in
theorem pathsBad (ws : List Str) (al : List Vg.Arc) (a1 : Option Addr) (n1 c1 : Nat) (a2 : Option Addr) (n2 c2 : Nat) (w : World) (h : GraphM w a1 n1 a2 n2 ws al) (hn1 : n1 ≤ 4096) (hn2 : n2 ≤ 65536) (hbad : Vg.chkG ws al ≠ 0) :
    Calls Tryz.prog 18 #[graphV a1 n1 c1 a2 n2 c2] w fun e w' => e = .returned (.tuple #[.int .i64 0, .int .i64 1]) ∧ Below w.heap.size w w' := by
  have HC := Lib.hid (fun W (hb : Below w.heap.size w W) => checkP ws al a1 n1 c1 a2 n2 c2 W (h.mono (Nat.le_refl _) hb) hn1 hn2)
  have HB4 := Lib.hid (balloc w (.cells #[.slice a1 n1 c1, .slice a2 n2 c2] 31))
  have HBX := Lib.hid (BoxG.new w a1 n1 c1 a2 n2 c2)
  obtain ⟨q, hq⟩ : ∃ q, Vg.chkG ws al = q := ⟨_, rfl⟩
  rw [hq] at HC hbad
  have d0 : (q != 0) = true := by simpa using hbad
  clear h hq hbad
  unfold graphV at HC ⊢
  go_enter Tryz.func18, Tryz.ntmps18
  obtain ⟨k0, k1⟩ := HBX.out
  go_wp2_with (fail)
  refine (HC.out _ HB4.out).mono ?_
  rintro e w1 ⟨rfl, hb1⟩
  go_wp2_with (fail)
  go_ret2
  exact ⟨rfl, bstep HB4.out hb1⟩
set_option maxRecDepth 100000 in
set_option maxHeartbeats 4000000 in
theorem pathsOk (ws : List Str) (al : List Vg.Arc) (a1 : Option Addr) (n1 c1 : Nat) (a2 : Option Addr) (n2 c2 : Nat) (w : World) (h : GraphM w a1 n1 a2 n2 ws al) (hn1 : n1 ≤ 4096) (hn2 : n2 ≤ 65536) (hok : Vg.chkG ws al = 0) :
    Calls Tryz.prog 18 #[graphV a1 n1 c1 a2 n2 c2] w fun e w' => e = .returned (.tuple #[.int .i64 ((Vg.pathsN 1073741824 ((ws.length : Int) - 1) al : Nat) : Int), .int .i64 0]) ∧ Below w.heap.size w w' := by
  obtain ⟨g2, _, _, _, V, _⟩ := Vg.chkG_zero.1 hok
  have hl1 := h.words.len
  have hl2 := h.arcs.len
  have hs2 := h.arcs.small
  have HC := Lib.hid (fun W (hb : Below w.heap.size w W) => checkP ws al a1 n1 c1 a2 n2 c2 W (h.mono (Nat.le_refl _) hb) hn1 hn2)
  rw [hok] at HC
  have HP := Lib.hid (V.paths (c := 1073741824) (by omega)).1
  have HRG := Lib.hid V.rng
  have HA := Lib.hid h.arcs
  rw [hl1] at HP HRG g2 ⊢
  obtain ⟨R, hR⟩ : ∃ R, Vg.pathsN 1073741824 ((n1 : Int) - 1) al = R := ⟨_, rfl⟩
  rw [hR] at HP ⊢
  have HL2 := Lib.hid hl2
  have HB4 := Lib.hid (balloc w (.cells #[.slice a1 n1 c1, .slice a2 n2 c2] 31))
  have HBX := Lib.hid (BoxG.new w a1 n1 c1 a2 n2 c2)
  have hmk := make_nums n1 (by omega)
  have HMK := Lib.hid hmk
  clear h hok V hR hl1 hl2 hmk
  unfold graphV at HC ⊢
  go_enter Tryz.func18, Tryz.ntmps18
  obtain ⟨k0, k1⟩ := HBX.out
  go_wp2_with (fail)
  refine (HC.out _ HB4.out).mono ?_
  rintro e w1 ⟨rfl, hb1⟩
  have HBX1 := Lib.hid (HBX.out.below hb1)
  have HB1 := Lib.hid (bstep HB4.out hb1)
  obtain ⟨S, hS⟩ : ∃ S, w1.heap.size = S := ⟨_, rfl⟩
  have HS := Lib.hid hS
  have hSw : w.heap.size < S := by have := hb1.size; simp at this; omega
  have hmk := HMK.out
  obtain ⟨k0', k1'⟩ := HBX1.out
  clear k0 k1 hb1
  have kb := balloc w1 (.cells ((Array.replicate n1 (.int .i64 0)).setIfInBounds 0 (.int .i64 1)) 3)
  have HB2 := Lib.hid (bstep HB1.out kb)
  have HBS := Lib.hid (show Below S w1 _ by rw [← hS]; exact kb)
  have j1 := cell_keep kb k1'
  have i0 : (0 : Int) < (n1 : Int) := by omega
  have r0 : (Array.replicate n1 (Value.int .i64 0))[0]? = some (.int .i64 0) := by rw [Array.getElem?_replicate, if_pos (by omega)]
  have HA1 := Lib.hid (show Arr (w1.alloc (.cells ((Array.replicate n1 (.int .i64 0)).setIfInBounds 0 (.int .i64 1)) 3)) S 3 (arrN n1 (Vg.fwdC 1073741824 (Vg.endsN (al.take 0)) (Vg.one 0))) from Arr.first hS)
  have HSZ := Lib.hid hSw
  clear kb hS hSw
  go_wp2_with (fail)
  rw [HS.out]
  clear hmk j1 r0 i0
  go_loopw [19] (fun iv wr => ∃ i : Nat, i ≤ n2 ∧ iv = .int .i64 i ∧ Arr wr S 3 (arrN n1 (Vg.fwdC 1073741824 (Vg.endsN (al.take i)) (Vg.one 0))) ∧ Below S w1 wr) (fun iv _ => n2 - (intOf iv).toNat)
  case atStart => exact ⟨0, Nat.zero_le _, rfl, HA1.out, HBS.out⟩
  case round =>
    obtain ⟨wi, rfl⟩ : ∃ wi : World, wi = wr := ⟨_, rfl⟩
    obtain ⟨i, hi, rfl, ha, hb⟩ := hrel
    have HAR := Lib.hid ha
    have HB := Lib.hid hb
    have hbw : Below w.heap.size w wi := HB1.out.trans (hb.mono (Nat.le_of_lt HSZ.out))
    have HBW := Lib.hid hbw
    have hszi : S ≤ wi.heap.size := by have := hb.size; have := HS.out; omega
    by_cases hin : i < n2
    · obtain ⟨x, b, off, a5, k5, hx, rfl, c0, c1', c2', _⟩ := (HA.out.mono (Nat.le_refl _) hbw).at hin
      obtain ⟨r1, r2, r3⟩ := HRG.out _ (List.mem_of_getElem? hx)
      obtain ⟨⟨f0, t0⟩, src⟩ := x
      simp only at r1 r2 r3 c0 c1' c2'
      obtain ⟨f, rfl⟩ : ∃ f : Nat, f0 = f := ⟨f0.toNat, by omega⟩
      obtain ⟨t, rfl⟩ : ∃ t : Nat, t0 = t := ⟨t0.toNat, by omega⟩
      have HX := Lib.hid hx
      obtain ⟨F, hF⟩ : ∃ F, Vg.fwdC 1073741824 (Vg.endsN (al.take i)) (Vg.one 0) = F := ⟨_, rfl⟩
      have HFL := Lib.hid (show ∀ k, F k ≤ 1073741824 from fun k => by rw [← hF]; exact Vg.fwdC_le _ _ (fun k => by unfold Vg.one; split <;> omega) k)
      rw [hF] at HAR ha
      have HF := Lib.hid hF
      have HN := Lib.hid (show Vg.fwdC 1073741824 (Vg.endsN (al.take (i + 1))) (Vg.one 0) = Vg.upd F t (min 1073741824 (F t + F f)) by
        rw [List.take_add_one, hx, ← hF]
        simp only [Option.toList_some, Vg.endsN, List.map_append, List.map_cons, List.map_nil, Int.toNat_natCast]
        exact Vg.fwdC_snoc _ _ _ _)
      obtain ⟨q, hq⟩ : ∃ q, F t = q := ⟨_, rfl⟩
      obtain ⟨p, hp⟩ : ∃ p, F f = p := ⟨_, rfl⟩
      have hq1 := HFL.out t
      have hp1 := HFL.out f
      rw [hq] at hq1 HN
      rw [hp] at hp1 HN
      obtain ⟨z, hz⟩ : ∃ z, q + p = z := ⟨_, rfl⟩
      obtain ⟨y, hy⟩ : ∃ y, min 1073741824 z = y := ⟨_, rfl⟩
      rw [hz, hy] at HN
      have HSUM := Lib.hid (show IntKind.i64.wrap ((q : Int) + (p : Int)) = ((z : Nat) : Int) by rw [IntWalk.i64_in _ (by omega)]; omega)
      have HMIN := Lib.hid (show ∀ (ts : Array TypeId) (t : TypeId) (W : World), (Builtin.min_ ts t #[.int .i64 1073741824, .int .i64 (z : Int)]).run Tryz.prog W = .ok (.int .i64 (y : Int)) W from fun ts t W => run_min2 _ _ _ (by omega) ts t W)
      obtain ⟨X, hX⟩ : ∃ X, wi.heap.size = X := ⟨_, rfl⟩
      have K := Lib.hid (show BlkK (wi.alloc (.cells #[.int .i64 (f : Int), .int .i64 (t : Int), .slice a5 src.length k5] 48)) X #[.int .i64 (f : Int), .int .i64 (t : Int), .slice a5 src.length k5] 48 by rw [← hX]; exact BlkK.new wi _ _)
      have HA2 := Lib.hid (ha.kept (balloc wi (.cells #[.int .i64 (f : Int), .int .i64 (t : Int), .slice a5 src.length k5] 48)))
      have HB2 := Lib.hid (hb.trans ((balloc wi (.cells #[.int .i64 (f : Int), .int .i64 (t : Int), .slice a5 src.length k5] 48)).mono hszi))
      have HEA := Lib.hid hp
      have HEB := Lib.hid hq
      have i1 : (i : Int) < (n2 : Int) := by omega
      have hfn : f < n1 := by omega
      have htn : t < n1 := by omega
      have HFN := Lib.hid hfn
      have HTN := Lib.hid htn
      have i2 : (f : Int) < (n1 : Int) := by omega
      have i3 : (t : Int) < (n1 : Int) := by omega
      obtain ⟨m5, hm5⟩ : ∃ m, src.length = m := ⟨_, rfl⟩
      rw [hm5] at c2' K HA2 HB2
      obtain ⟨WA, hWA⟩ : ∃ W, wi.alloc (.cells #[.int .i64 (f : Int), .int .i64 (t : Int), .slice a5 m5 k5] 48) = W := ⟨_, rfl⟩
      rw [hWA] at HA2 K HB2
      clear hx ha hb hbw hF hq hp hz hy r1 r2 r3 hq1 hp1 hm5 hfn htn
      go_wp2_with (fail)
      refine (wpIn_wide (n := 20)).1 ?_
      refine wpIn_region_planM (fun W' => Arr W' S 3 (arrN n1 F) ∧ BlkK W' X #[.int .i64 (f : Int), .int .i64 (t : Int), .slice a5 m5 k5] 48) 16 (.take 0 <| .take 1 <| .take 2 <| .take 3 <| .take 4 <| .take 5 <| .take 6 <| .take 7 <| .take 8 <| .take 9 <| .take 10 <| .take 11 <| .take 12 <| .take 13 <| .take 14 <| .take 15 <| .one 16 <| .fin) (fun _ => trivial) (by kernel_rfl) (by kernel_rfl) (⟨HA2.out.drew, K.out.drew⟩) ?_
      iterate 2
        apply pm_take rfl rfl (by rfl)
        case hy =>
          rintro W' hb'
          clear hb'
          go_simp
          first | done | with_reducible rfl
        simp only [List.setIfInBounds_toArray, List.set_cons_zero, List.set_cons_succ]
      apply pm_take rfl rfl (by rfl)
      case hy =>
        rintro W' hb'
        have ea := hb'.1.getN HFN.out
        have eb := hb'.1.getN HTN.out
        rw [HEA.out] at ea
        rw [HEB.out] at eb
        have x0 : W'.cell? ⟨X, 0, none⟩ = some (.int .i64 (f : Int)) := hb'.2.cell (i := 0) rfl
        have x1 : W'.cell? ⟨X, 1, none⟩ = some (.int .i64 (t : Int)) := hb'.2.cell (i := 1) rfl
        clear hb'
        go_simp
        first | done | with_reducible rfl
      simp only [List.setIfInBounds_toArray, List.set_cons_zero, List.set_cons_succ]
      iterate 2
        apply pm_take rfl rfl (by rfl)
        case hy =>
          rintro W' hb'
          clear hb'
          go_simp
          first | done | with_reducible rfl
        simp only [List.setIfInBounds_toArray, List.set_cons_zero, List.set_cons_succ]
      apply pm_take rfl rfl (by rfl)
      case hy =>
        rintro W' hb'
        have ea := hb'.1.getN HFN.out
        have eb := hb'.1.getN HTN.out
        rw [HEA.out] at ea
        rw [HEB.out] at eb
        have x0 : W'.cell? ⟨X, 0, none⟩ = some (.int .i64 (f : Int)) := hb'.2.cell (i := 0) rfl
        have x1 : W'.cell? ⟨X, 1, none⟩ = some (.int .i64 (t : Int)) := hb'.2.cell (i := 1) rfl
        clear hb'
        go_simp
        first | done | with_reducible rfl
      simp only [List.setIfInBounds_toArray, List.set_cons_zero, List.set_cons_succ]
      apply pm_take rfl rfl (by rfl)
      case hy =>
        rintro W' hb'
        clear hb'
        go_simp
        first | done | with_reducible rfl
      simp only [List.setIfInBounds_toArray, List.set_cons_zero, List.set_cons_succ]
      apply pm_take rfl rfl (by rfl)
      case hy =>
        rintro W' hb'
        have ea := hb'.1.getN HFN.out
        have eb := hb'.1.getN HTN.out
        rw [HEA.out] at ea
        rw [HEB.out] at eb
        have x0 : W'.cell? ⟨X, 0, none⟩ = some (.int .i64 (f : Int)) := hb'.2.cell (i := 0) rfl
        have x1 : W'.cell? ⟨X, 1, none⟩ = some (.int .i64 (t : Int)) := hb'.2.cell (i := 1) rfl
        clear hb'
        go_simp
        first | done | with_reducible rfl
      simp only [List.setIfInBounds_toArray, List.set_cons_zero, List.set_cons_succ]
      iterate 2
        apply pm_take rfl rfl (by rfl)
        case hy =>
          rintro W' hb'
          clear hb'
          go_simp
          first | done | with_reducible rfl
        simp only [List.setIfInBounds_toArray, List.set_cons_zero, List.set_cons_succ]
      apply pm_take rfl rfl (by rfl)
      case hy =>
        rintro W' hb'
        have ea := hb'.1.getN HFN.out
        have eb := hb'.1.getN HTN.out
        rw [HEA.out] at ea
        rw [HEB.out] at eb
        have x0 : W'.cell? ⟨X, 0, none⟩ = some (.int .i64 (f : Int)) := hb'.2.cell (i := 0) rfl
        have x1 : W'.cell? ⟨X, 1, none⟩ = some (.int .i64 (t : Int)) := hb'.2.cell (i := 1) rfl
        clear hb'
        go_simp
        first | done | with_reducible rfl
      simp only [List.setIfInBounds_toArray, List.set_cons_zero, List.set_cons_succ]
      apply pm_take rfl rfl (by rfl)
      case hy =>
        rintro W' hb'
        clear hb'
        go_simp
        first | done | with_reducible rfl
      simp only [List.setIfInBounds_toArray, List.set_cons_zero, List.set_cons_succ]
      apply pm_take rfl rfl (by rfl)
      case hy =>
        rintro W' hb'
        have ea := hb'.1.getN HFN.out
        have eb := hb'.1.getN HTN.out
        rw [HEA.out] at ea
        rw [HEB.out] at eb
        have x0 : W'.cell? ⟨X, 0, none⟩ = some (.int .i64 (f : Int)) := hb'.2.cell (i := 0) rfl
        have x1 : W'.cell? ⟨X, 1, none⟩ = some (.int .i64 (t : Int)) := hb'.2.cell (i := 1) rfl
        clear hb'
        go_simp
        first | done | with_reducible rfl
      simp only [List.setIfInBounds_toArray, List.set_cons_zero, List.set_cons_succ]
      apply pm_take rfl rfl (by rfl)
      case hy =>
        rintro W' hb'
        have e1 := HSUM.out
        clear hb'
        go_simp
        first | done | with_reducible rfl
      simp only [List.setIfInBounds_toArray, List.set_cons_zero, List.set_cons_succ]
      apply pm_take rfl rfl (by rfl)
      case hy =>
        rintro W' hb'
        have e2 := HMIN.out
        clear hb'
        go_simp
        first | done | with_reducible rfl
      simp only [List.setIfInBounds_toArray, List.set_cons_zero, List.set_cons_succ]
      apply pm_take rfl rfl (by rfl)
      case hy =>
        rintro W' hb'
        clear hb'
        go_simp
        first | done | with_reducible rfl
      simp only [List.setIfInBounds_toArray, List.set_cons_zero, List.set_cons_succ]
      refine pm_one rfl ?_
      have z0 := HA2.out.drew.getN HTN.out
      have z1 := HA2.out.drew.free t
      have HA3 := Lib.hid (HA2.out.drew.setN t y)
      gi_wp2_with (fail)
      refine ⟨fun h => absurd h (by omega), ?_⟩
      refine pm_fin ?_
      gi_wp2_with (fail)
      go_wp2_with (fail)
      go_roundw
      case rel => exact ⟨i + 1, by omega, by simp, by rw [HN.out]; exact HA3.out, below_drew' (HB2.out.setCell (p := ⟨S, t, none⟩) (Nat.le_refl _) _)⟩
      case measure => simp [intOf]; omega
    · obtain rfl : i = n2 := by omega
      rw [List.take_of_length_le (by rw [HL2.out]; exact Nat.le_refl _)] at ha
      obtain ⟨m, hm⟩ : ∃ m : Nat, n1 = m + 1 := ⟨n1 - 1, by omega⟩
      have cm := ha.getN (k := m) (by omega)
      have HP2 := HP.out
      rw [show ((n1 : Int) - 1).toNat = m by omega] at HP2
      rw [HP2] at cm
      have m1 : (n1 : Int) - 1 = (m : Int) := by omega
      have m2 : (m : Int) < (n1 : Int) := by omega
      clear ha hb hbw hm HP2
      go_wp2_with (fail)
      go_ret2
      exact ⟨rfl, HBW.out⟩
end Go.Proofs.YtjmebijckcimoaaGreatDoor


namespace Go.Ap
open Go Go.RowKit
theorem spell_walk {ws : List Str} {al : List Vg.Arc} (V : Vg.ValidG ((ws.length : Int) - 1) al) (s : Int) : Vg.spellW ws al s = (Vg.walkP ((ws.length : Int) - 1) s 0 al).map fun k => ws.getD k.toNat [] := by
  unfold Vg.spellW
  rw [V.walkP_eq]
theorem walkP_rng {e s : Int} : ∀ {al : List Vg.Arc} {p : Int}, (∀ a ∈ al, 0 ≤ a.1.1 ∧ a.1.1 < a.1.2 ∧ a.1.2 ≤ e) → ∀ k ∈ Vg.walkP e s p al, 0 ≤ k ∧ k < e
  | [], p, _, k, hk => by simp [Vg.walkP] at hk
  | a :: r, p, h, k, hk => by
    have h1 := fun b hb => h b (List.mem_cons_of_mem _ hb)
    have h2 := h a (List.mem_cons_self ..)
    rw [Vg.walkP_cons] at hk
    split at hk
    · split at hk
      · cases hk
      · rename_i hne
        rcases List.mem_cons.1 hk with rfl | hk
        · omega
        · exact walkP_rng h1 k hk
    · exact walkP_rng h1 k hk
theorem walkP_len {e s : Int} : ∀ {al : List Vg.Arc} {p : Int}, (Vg.walkP e s p al).length ≤ al.length
  | [], p => by simp [Vg.walkP]
  | a :: r, p => by
    rw [Vg.walkP_cons]
    split
    · split
      · simp
      · have := walkP_len (e := e) (s := s) (al := r) (p := a.1.2)
        simp
        omega
    · have := walkP_len (e := e) (s := s) (al := r) (p := p)
      simp
      omega
end Go.Ap
namespace Go.Proofs.YtjmebijckcimoaaGreatDoor
open Go.RowKit Go.Ap Go.Shelf Go.Proofs

attribute [local go_sem] Oper.semAt_some bs_toList empty_toList bs_size bs_extract
/-- the box of the words found so far -/
structure SpI (w : World) (cs : Array Value) (B6 Bg Bs : Nat) (s : Int) (us : List Str) (W : World) : Prop where
  row : ∃ v, Boxed W B6 22 v ∧ OwnS W w.heap.size v us
  own : BlkK W w.heap.size cs 31
  it : BlkK W Bg cs 31
  src : BlkK W Bs #[.int .i64 s] 3
  bel : Below w.heap.size w W
theorem SpI.keptN {w W W' : World} {cs : Array Value} {B6 Bg Bs : Nat} {s : Int} {us : List Str} {row : Option Nat} (h : SpI w cs B6 Bg Bs s us W) (hg : W.grownBy W' row) (hr : NoCells W row) (hr2 : ∀ r, row = some r → w.heap.size ≤ r) : SpI w cs B6 Bg Bs s us W' := by
  obtain ⟨⟨v, h1, h2⟩, h3, h4, h6, h5⟩ := h
  refine ⟨⟨v, ?_, World.ownsRow.kept h2 hg (owns_none h2 hr)⟩, h3.keptN hg hr, h4.keptN hg hr, h6.keptN hg hr, h5.grown hg h5.size fun r he => hr2 r he⟩
  exact BlkK.keptN h1 hg hr
/-- one more word -/
theorem SpI.push {w W2 w4 : World} {cs : Array Value} {B6 Bg Bs : Nat} {s : Int} {us : List Str} {u : Str} {v v1 : Value} {tmp : Obj} (hv1 : Boxed W2 B6 22 v) (h3 : BlkK W2 w.heap.size cs 31) (h4 : BlkK W2 Bg cs 31) (h6 : BlkK W2 Bs #[.int .i64 s] 3)
    (h5 : Below w.heap.size w W2) (hB : w.heap.size < B6) (hx : Bg ≠ B6) (hs : Bs ≠ B6) (hrow : OwnS W2 w.heap.size v us) (hrow1 : w4.ownsRow w.heap.size 9 1 v1 (us.length + 1) (us.map sv ++ [.string (bs u)])) (hg : (W2.alloc tmp).grownBy w4 v.ownBlock) :
    SpI w cs B6 Bg Bs s (us ++ [u]) (w4.setCell ⟨B6, 0, none⟩ v1) ∧ KeepR w.heap.size Bg Bs W2 (w4.setCell ⟨B6, 0, none⟩ v1) ∧ KeepsOthers W2 (w4.setCell ⟨B6, 0, none⟩ v1) := by
  obtain ⟨b1, b2, b3, b4, b5⟩ := hv1.appended (by decide) hrow h5.size (Nat.le_of_lt hB) hrow1 hg
  have gs := grownBy_setCell' w4 B6 v1
  have kk : ∀ b cs t, t ≠ 9 → b ≠ B6 → BlkK W2 b cs t → BlkK (w4.setCell ⟨B6, 0, none⟩ v1) b cs t := fun b cs t ht hb h =>
    ((h.below (balloc W2 tmp)).keptE hg (BlkK.apart h hrow ht)).keptE gs (by simpa using hb)
  have k4 := kk _ _ _ (by decide) hx h4
  have k6 := kk _ _ _ (by decide) hs h6
  refine ⟨⟨⟨v1, b2, ?_⟩, kk _ _ _ (by decide) (by omega) h3, k4, k6, h5.trans b5⟩,
    ⟨b5.os, b5.tape, b5.output, b5.size, fun k hk => by
      rcases hk with hk | hk
      · exact b5.block k hk
      · rcases hk with hk | hk
        · subst hk
          exact k4.trans h4.symm
        · subst hk
          exact k6.trans h6.symm⟩, b4⟩
  have : w4.ownsRow w.heap.size 9 1 v1 (us ++ [u]).length ((us ++ [u]).map sv) := by simpa [sv] using hrow1
  exact World.ownsRow.kept this gs (.inr (BlkK.apart (cs := #[v]) b1 this (by decide)).symm)
/-- the word of a node on the path -/
def spW (ws : List Str) (L : List Int) (r : {r : Int // r ∈ L}) : Str := ws.getD r.1.toNat []
/-- what Spell answers -/
def SpellA (w : World) (l : List Str) (c : Int) (e : Ending) (w' : World) : Prop := ∃ v, e = .returned (.tuple #[v, .int .i64 c]) ∧ OwnS w' w.heap.size v l ∧ Below w.heap.size w w'
set_option maxHeartbeats 1000000 in
theorem spellBad (ws : List Str) (al : List Vg.Arc) (a1 : Option Addr) (n1 c1 : Nat) (a2 : Option Addr) (n2 c2 : Nat) (s : Int) (w : World) (h : GraphM w a1 n1 a2 n2 ws al) (hn1 : n1 ≤ 4096) (hn2 : n2 ≤ 65536) (hbad : Vg.chkG ws al ≠ 0) :
    Calls Tryz.prog 16 #[graphV a1 n1 c1 a2 n2 c2, .int .i64 s] w (SpellA w [] 1) := by
  have HC := Lib.hid (fun W (hb : Below w.heap.size w W) => checkP ws al a1 n1 c1 a2 n2 c2 W (h.mono (Nat.le_refl _) hb) hn1 hn2)
  have HB4 := Lib.hid (balloc w (.cells #[.slice a1 n1 c1, .slice a2 n2 c2] 31))
  have HBX := Lib.hid (BoxG.new w a1 n1 c1 a2 n2 c2)
  obtain ⟨q, hq⟩ : ∃ q, Vg.chkG ws al = q := ⟨_, rfl⟩
  rw [hq] at HC hbad
  have d0 : (q != 0) = true := by simpa using hbad
  clear h hq hbad
  unfold graphV at HC ⊢
  go_enter Tryz.func16, Tryz.ntmps16
  obtain ⟨k0, k1⟩ := HBX.out
  go_wp2_with (fail)
  refine (HC.out _ HB4.out).mono ?_
  rintro e w1 ⟨rfl, hb1⟩
  go_wp2_with (fail)
  go_ret2
  exact ⟨_, rfl, OwnS.nil _ _, bstep HB4.out hb1⟩
set_option maxHeartbeats 2000000 in
theorem spellNot (ws : List Str) (al : List Vg.Arc) (a1 : Option Addr) (n1 c1 : Nat) (a2 : Option Addr) (n2 c2 : Nat) (s : Int) (w : World) (h : GraphM w a1 n1 a2 n2 ws al) (hn1 : n1 ≤ 4096) (hn2 : n2 ≤ 65536) (hsz : (allS al).length ≤ 1000000) (hok : Vg.chkG ws al = 0) (hno : s ∉ srcC al) :
    Calls Tryz.prog 16 #[graphV a1 n1 c1 a2 n2 c2, .int .i64 s] w (SpellA w [] 6) := by
  obtain ⟨_, _, _, _, V, _⟩ := Vg.chkG_zero.1 hok
  have HC := Lib.hid (fun W (hb : Below w.heap.size w W) => checkP ws al a1 n1 c1 a2 n2 c2 W (h.mono (Nat.le_refl _) hb) hn1 hn2)
  rw [hok] at HC
  have HS := Lib.hid (fun W (hb : Below w.heap.size w W) => sourcesP al a1 n1 c1 a2 n2 c2 W (h.arcs.mono (Nat.le_refl _) hb) (fun a ha => (V.src a ha).2) hsz)
  have HSL := Lib.hid (show (srcC al).length ≤ 4611686018427387903 by have := srcC_len al; omega)
  have HNO := Lib.hid (show (srcC al).contains s = false by simpa using hno)
  have HB4 := Lib.hid (balloc w (.cells #[.slice a1 n1 c1, .slice a2 n2 c2] 31))
  have HBX := Lib.hid (BoxG.new w a1 n1 c1 a2 n2 c2)
  clear h hok V hsz hno
  unfold graphV at HC HS ⊢
  go_enter Tryz.func16, Tryz.ntmps16
  obtain ⟨k0, k1⟩ := HBX.out
  go_wp2_with (fail)
  refine (HC.out _ HB4.out).mono ?_
  rintro e w1 ⟨rfl, hb1⟩
  have HB1 := Lib.hid (bstep HB4.out hb1)
  obtain ⟨k0', k1'⟩ := HBX.out.below hb1
  clear k0 k1 hb1
  go_wp2_with (fail)
  refine (HS.out _ HB1.out).mono ?_
  rintro e w2 ⟨u, rfl, ho, hb2⟩
  obtain ⟨a, c, rfl, hi⟩ := ho.ints HSL.out
  have HCT := Lib.hid (contI a _ c (srcC al) s _ hi)
  rw [HNO.out] at HCT
  have HB2 := Lib.hid (bstep HB1.out hb2)
  generalize (srcC al).length = m at *
  clear ho hi hb2
  go_wp2_with (fail)
  refine HCT.out.mono ?_
  rintro e w3 ⟨rfl, rfl⟩
  go_wp2_with (fail)
  go_ret2
  exact ⟨_, rfl, OwnS.nil _ _, HB2.out⟩
set_option maxRecDepth 100000 in
set_option maxHeartbeats 8000000 in
theorem spellOk (ws : List Str) (al : List Vg.Arc) (a1 : Option Addr) (n1 c1 : Nat) (a2 : Option Addr) (n2 c2 : Nat) (s : Int) (w : World) (h : GraphM w a1 n1 a2 n2 ws al) (hn1 : n1 ≤ 4096) (hn2 : n2 ≤ 65536) (hsz : (allS al).length ≤ 1000000) (hok : Vg.chkG ws al = 0) (hno : s ∈ srcC al) :
    CallsIn Fence.wide 10 Tryz.prog 16 #[graphV a1 n1 c1 a2 n2 c2, .int .i64 s] w (SpellA w (Vg.spellW ws al s) 0) := by
  obtain ⟨i0, hi0, hz0, hz1, hz2⟩ := info_parts infoStr24
  obtain ⟨g2, _, _, _, V, _⟩ := Vg.chkG_zero.1 hok
  have hl1 := h.words.len
  have hl2 := h.arcs.len
  have HC := Lib.hid (fun W (hb : Below w.heap.size w W) => checkP ws al a1 n1 c1 a2 n2 c2 W (h.mono (Nat.le_refl _) hb) hn1 hn2)
  rw [hok] at HC
  have HS := Lib.hid (fun W (hb : Below w.heap.size w W) => sourcesP al a1 n1 c1 a2 n2 c2 W (h.arcs.mono (Nat.le_refl _) hb) (fun a ha => (V.src a ha).2) hsz)
  have HSL := Lib.hid (show (srcC al).length ≤ 4611686018427387903 by have := srcC_len al; omega)
  have HNO := Lib.hid (show (srcC al).contains s = true by simpa using hno)
  have HSW := Lib.hid (spell_walk V s)
  have HRG := Lib.hid (fun k hk => walkP_rng (s := s) (p := 0) V.rng k hk)
  have HWL := Lib.hid (walkP_len (e := (ws.length : Int) - 1) (s := s) (al := al) (p := 0))
  rw [hl1] at HSW HRG HWL g2
  rw [hl2] at HWL
  have HPT := Lib.hid (fun W => pathP a1 n1 c1 a2 n2 c2 s W)
  have HST := Lib.hid (fun (W : World) (Bg Bs : Nat) (hb0 : Below w.heap.size w W) (hBg : Bg < W.heap.size) (hBs : Bs < W.heap.size) (hbx : BoxG W Bg a1 n1 c1 a2 n2 c2) (hbs : W.cell? ⟨Bs, 0, none⟩ = some (.int .i64 s)) m hm => path_stops al s a1 n1 c1 a2 n2 c2 W w h.arcs ⟨g2, hn1⟩ Bg Bs hb0 hBg hBs hbx hbs m hm)
  obtain ⟨b1, o1, rfl, hcl⟩ := h.words.at (by omega)
  have HWC := Lib.hid hcl
  have HWS := Lib.hid hl1
  have eg := enters_of Tryz.func74 (by kernel_rfl) rfl
  have hF22 : Fence.wide.fn 22 := trivial
  have hF47 : Fence.wide.fn 47 := trivial
  have hF46 : Fence.wide.fn 46 := trivial
  have hF48 : Fence.wide.fn 48 := trivial
  clear h hok V hsz hno hl1 hl2 hcl
  unfold graphV at HC HS HPT ⊢
  refine callsIn_of_wp_marks Tryz.func16 rfl trivial ?_ rfl
  simp only [Tryz.ntmps16, List.size_toArray, List.length_cons, List.length_nil, Nat.reduceAdd, Nat.reduceSub, Array.replicate_succ, Array.replicate_zero, List.push_toArray, List.append_toArray, List.nil_append, List.cons_append]
  have HK0 := Lib.hid (BlkK.new w #[.slice (some ⟨b1, o1, none⟩) n1 c1, .slice a2 n2 c2] 31)
  have k0 := HK0.out.graph.k0
  have k1 := HK0.out.graph.k1
  gi_wp2_with (fail)
  refine (callsIn_wide.2 (HC.out _ (balloc _ _))).mono ?_
  rintro e w1 ⟨rfl, hb1⟩
  have HB1 := Lib.hid (bstep (balloc _ _) hb1)
  have HK1 := Lib.hid (HK0.out.below hb1)
  clear k0 k1 hb1
  have k0 := HK1.out.graph.k0
  have k1 := HK1.out.graph.k1
  gi_wp2_with (fail)
  refine (callsIn_wide.2 (HS.out _ HB1.out)).mono ?_
  rintro e w2 ⟨u, rfl, ho, hb2⟩
  obtain ⟨a, c, rfl, hi⟩ := ho.ints HSL.out
  have HCT := Lib.hid (contI a _ c (srcC al) s _ hi)
  rw [HNO.out] at HCT
  have HB2 := Lib.hid (bstep HB1.out hb2)
  have HK2 := Lib.hid (HK1.out.below hb2)
  generalize (srcC al).length = m at *
  clear ho hi hb2 k0 k1
  gi_wp2_with (fail)
  refine (callsIn_wide.2 HCT.out).mono ?_
  rintro e w3 ⟨rfl, rfl⟩
  have kb := balloc w2 (.cells #[.slice none 0 0] 22)
  have HK3 := Lib.hid (HK2.out.below kb)
  have HB3 := Lib.hid (bstep HB2.out kb)
  have BX := Lib.hid (show Boxed (w2.alloc (.cells #[.slice none 0 0] 22)) w2.heap.size 22 (.slice none 0 0) from Boxed.new _ _ _)
  have k0 := HK3.out.graph.k0
  have k1 := HK3.out.graph.k1
  clear kb
  gi_wp2_with (fail)
  refine (callsIn_wide.2 (HPT.out _)).mono ?_
  rintro e w4 ⟨rfl, hbg, hbs, hb4⟩
  have hsz2 := HB2.out.size
  have hsz4 := hb4.size
  have hsz0 := World.block_lt_of_cell? w2 _ (HK2.out.graph.k0)
  simp only [World.size_alloc] at hbg hbs hsz4 hsz0 ⊢
  have HB4 := Lib.hid (bstep HB3.out hb4)
  have HI := Lib.hid (show SpI w #[.slice (some ⟨b1, o1, none⟩) n1 c1, .slice a2 n2 c2] w2.heap.size (w2.heap.size + 1) (w2.heap.size + 1 + 1) s [] w4 from ⟨⟨_, boxed_below BX.out hb4, OwnS.nil _ _⟩, HK3.out.below hb4, hbg, hbs, HB4.out⟩)
  have HS2 := Lib.hid (HST.out w4 (w2.heap.size + 1) (w2.heap.size + 1 + 1) HB4.out hbg.lt hbs.lt hbg.graph (hbs.cell (i := 0) rfl))
  have hbgl := hbg.lt
  have hbsl := hbs.lt
  clear hb4 hbg hbs k0 k1 BX
  gi_wp2_with (fail)
  refine wpIn_rangeFunc_ownG (F := Fence.wide) rfl (by omega) (gf := 74) rfl trivial eg
    (HS2.out _ (by omega)) KeepR.trans (keepR_b (w := w4) (by omega) (by omega) (by omega)) (Below.refl _ _) (fun _ => rfl)
    (fun (pre : List {r : Int // r ∈ Vg.walkP ((n1 : Int) - 1) s 0 al}) W => SpI w #[.slice (some ⟨b1, o1, none⟩) n1 c1, .slice a2 n2 c2] w2.heap.size (w2.heap.size + 1) (w2.heap.size + 1 + 1) s (pre.map (spW ws (Vg.walkP ((n1 : Int) - 1) s 0 al))) W)
    (fun _ _ _ => False)
    (fun _ _ _ _ hI hg hr => SpI.keptN hI hg (fun r he => (hr r he).2) (fun r he => by have := (hr r he).1; omega))
    (fun _ _ _ _ _ hs _ _ => hs)
    HI.out
    (fun r => { tmps := #[.agg #[.slice (some ⟨b1, o1, none⟩) n1 c1, .slice a2 n2 c2], .int .i64 s, .pointer (some ⟨w.heap.size, 0, none⟩), undef, .slice none 0 0, .int .i64 0, .pointer (some ⟨w2.heap.size, 0, none⟩), .int .i64 r.1, .bool false, .agg #[.slice (some ⟨b1, o1, none⟩) n1 c1, .slice a2 n2 c2], .int .i64 0, .bool false, .bool false, .agg #[.slice (some ⟨b1, o1, none⟩) n1 c1, .slice a2 n2 c2], .slice a m c, .int .i64 s, .bool true, .bool false, .agg #[.slice (some ⟨b1, o1, none⟩) n1 c1, .slice a2 n2 c2], .int .i64 s, .func (.func 74) #[] #[.pointer (some ⟨w2.heap.size + 1, 0, none⟩), .pointer (some ⟨w2.heap.size + 1 + 1, 0, none⟩)], .int .i64 r.1, undef, undef, undef, undef, undef, undef, undef, undef, undef], defers := [] }) ?assign ?body ?done ?stop
  case assign =>
    intro l r W K hK
    gi_wp2
    exact hK
  case body =>
    rintro l pre ⟨k0, hr⟩ W hI hlt
    obtain ⟨⟨v, hv1, hv2⟩, h3, h4, h6, h5⟩ := hI
    obtain ⟨r1, r2⟩ := HRG.out k0 hr
    obtain ⟨k, rfl⟩ : ∃ k : Nat, k0 = k := ⟨k0.toNat, by omega⟩
    have hkn : k < n1 := by omega
    have HWK := Lib.hid (show ws.getD k [] = ws[k]'(by rw [HWS.out]; exact hkn) by simp [List.getD, HWS.out, hkn])
    obtain ⟨u, hu⟩ : ∃ u, ws[k]'(by rw [HWS.out]; exact hkn) = u := ⟨_, rfl⟩
    rw [hu] at HWK
    have hcw := cell_keep h5 (HWC.out k u (by rw [← hu]; exact List.getElem?_eq_getElem (by rw [HWS.out]; exact hkn)))
    have HV1 := Lib.hid (BlkK.drew (cs := #[v]) hv1)
    have HV2 := Lib.hid (hv2.below (bdrewN W 1))
    have H3 := Lib.hid h3.drew
    have H4 := Lib.hid h4.drew
    have H6 := Lib.hid h6.drew
    have H5 := Lib.hid (below_drew' h5)
    have HCW := Lib.hid hcw
    have hszW := h5.size
    have hple := HWL.out
    obtain ⟨us, hus⟩ : ∃ us, pre.map (spW ws (Vg.walkP ((n1 : Int) - 1) s 0 al)) = us := ⟨_, rfl⟩
    have hul : us.length ≤ 65536 := by rw [← hus, List.length_map]; omega
    rw [hus] at HV2
    have HUS := Lib.hid hus
    have HPR := Lib.hid (show (pre ++ [(⟨(k : Int), hr⟩ : {r : Int // r ∈ Vg.walkP ((n1 : Int) - 1) s 0 al})]).map (spW ws (Vg.walkP ((n1 : Int) - 1) s 0 al)) = us ++ [u] by
      rw [List.map_append, hus, List.map_singleton]
      simp only [spW, Int.toNat_natCast, HWK.out])
    simp only at hlt ⊢
    have i1 : (k : Int) < (n1 : Int) := by omega
    obtain ⟨nu, hnu⟩ : ∃ nu, us.length = nu := ⟨_, rfl⟩
    have HNU := Lib.hid hnu
    have HROW := Lib.hid (show W.drew.ownsRow w.heap.size 9 1 v nu (us.map sv) by rw [← hnu]; exact HV2.out)
    rw [hnu] at hul
    have HNW := Lib.hid (show ∀ (j : Nat) (z : Value), [.string (bs u)][j]? = some z → (W.drew.alloc (.cells #[.string (bs u)] 9)).cell? ((⟨W.heap.size, 0, none⟩ : Addr).add j) = some z from World.news_of_block (cs := #[.string (bs u)]) (heap_fresh rfl))
    clear hv1 hv2 h3 h4 h6 h5 hcw hu hple hus hnu
    gi_wp2_with (fail)
    refine wpIn_region_planM (fun W' => BlkK W' w2.heap.size #[v] 22 ∧ BlkK W' w.heap.size #[.slice (some ⟨b1, o1, none⟩) n1 c1, .slice a2 n2 c2] 31 ∧ W'.cell? ⟨b1, o1 + k, none⟩ = some (.string (bs u))) 7 (.take 0 <| .take 1 <| .take 2 <| .take 3 <| .take 4 <| .take 5 <| .one 6 <| .one 7 <| .one 8 <| .fin) (fun _ => trivial) (by kernel_rfl) (by kernel_rfl) (⟨HV1.out, H3.out, HCW.out⟩) ?_
    apply pm_take rfl rfl (by rfl)
    case hy =>
      rintro W' hb'
      have c0 := hb'.1.cell (i := 0) rfl
      have c1 := hb'.2.1.graph.k0
      have c2 := hb'.2.2
      clear hb'
      go_simp
      first | done | with_reducible rfl
    simp only [List.setIfInBounds_toArray, List.set_cons_zero, List.set_cons_succ]
    apply pm_take rfl rfl (by rfl)
    case hy =>
      rintro W' hb'
      clear hb'
      go_simp
      first | done | with_reducible rfl
    simp only [List.setIfInBounds_toArray, List.set_cons_zero, List.set_cons_succ]
    apply pm_take rfl rfl (by rfl)
    case hy =>
      rintro W' hb'
      have c0 := hb'.1.cell (i := 0) rfl
      have c1 := hb'.2.1.graph.k0
      have c2 := hb'.2.2
      clear hb'
      go_simp
      first | done | with_reducible rfl
    simp only [List.setIfInBounds_toArray, List.set_cons_zero, List.set_cons_succ]
    iterate 2
      apply pm_take rfl rfl (by rfl)
      case hy =>
        rintro W' hb'
        clear hb'
        go_simp
        first | done | with_reducible rfl
      simp only [List.setIfInBounds_toArray, List.set_cons_zero, List.set_cons_succ]
    apply pm_take rfl rfl (by rfl)
    case hy =>
      rintro W' hb'
      have c0 := hb'.1.cell (i := 0) rfl
      have c1 := hb'.2.1.graph.k0
      have c2 := hb'.2.2
      clear hb'
      go_simp
      first | done | with_reducible rfl
    simp only [List.setIfInBounds_toArray, List.set_cons_zero, List.set_cons_succ]
    refine pm_one rfl ?_
    gi_wp2_with (fail)
    refine ⟨fun _ => ⟨HV1.out.allocK _, H3.out.allocK _, cell_keep (below_drew' (balloc W _)) HCW.out⟩, ?_⟩
    refine pm_one rfl ?_
    refine wpListIn_append_own _ rfl _ _ 22 rfl w.heap.size 9 i0 (.string { data := #[] }) 1 16 Tryz.underlying22 hi0 hz0 hz1 hz2 rfl (by decide) _ _ _ rfl (HROW.out.alloc _) ⟨W.heap.size, 0, none⟩ 1 1 [.string (bs u)] rfl rfl HNW.out (by simp [Value.oneCell']) (by unfold maxLen; omega) (by omega) (by simp; omega) ?_
    intro v1 w9 hown1 hgrow1 _
    obtain ⟨g1, cap1, rfl⟩ := ownsRow_succ hown1
    have HW3 := Lib.hid hown1
    have HG := Lib.hid hgrow1
    clear hown1 hgrow1
    gi_wp2_with (fail)
    have hbx1 : BlkK w9 w2.heap.size #[v] 22 := (HV1.out.allocK _).keptE HG.out (BlkK.apart (cs := #[v]) HV1.out HROW.out (by decide))
    obtain ⟨p1, p2, p3⟩ := SpI.push (us := us) (u := u) HV1.out H3.out H4.out H6.out H5.out (by omega) (by omega) (by omega) HV2.out (by rw [HNU.out]; exact HW3.out) HG.out
    have HP1 := Lib.hid p1
    have HP2 := Lib.hid p2
    have HP3 := Lib.hid p3
    have cx := hbx1.cell (i := 0) rfl
    have fx := hbx1.hard (i := 0)
    clear p1 p2 p3 hbx1
    refine ⟨fun h => absurd h (by omega), ?_⟩
    refine pm_one rfl ?_
    gi_wp2_with (fail)
    refine ⟨fun h => absurd h (by omega), ?_⟩
    refine pm_fin ?_
    gi_wp2_with (fail)
    have hbx' := H4.out.lt
    have hbs' := H6.out.lt
    refine ⟨((KeepsOthers.of_grownBy (grown_of_below (bdrewN W 1)) (by simp)).trans HP3.out).from _, (KeepR.of_below (bdrewN W 1) hszW hbx' hbs').trans HP2.out, ?_⟩
    show SpI w _ _ _ _ _ ((pre ++ [(⟨(k : Int), hr⟩ : {r : Int // r ∈ Vg.walkP ((n1 : Int) - 1) s 0 al})]).map (spW ws (Vg.walkP ((n1 : Int) - 1) s 0 al))) _
    rw [HPR.out]
    exact HP1.out
  case done =>
    rintro D ys W hD hS hI hK
    obtain ⟨⟨v, hv1, hv2⟩, h3, h4, h6, h5⟩ := hI
    have e1 : ys.map (spW ws (Vg.walkP ((n1 : Int) - 1) s 0 al)) = (ys.map (·.1)).map fun k => ws.getD k.toNat [] := by rw [List.map_map]; rfl
    have HUS := Lib.hid (e1.trans ((congrArg (List.map fun k : Int => ws.getD k.toNat []) (show ys.map (·.1) = Vg.walkP ((n1 : Int) - 1) s 0 al from hS)).trans HSW.out.symm))
    clear e1
    rw [HUS.out] at hv2
    have HV2 := Lib.hid hv2
    have H5 := Lib.hid h5
    have hK2 := hK
    have c0 := hv1.cell
    clear hv1 hv2 h3 h4 h6 h5 hS
    gi_wp2_with (fail)
    refine ⟨by simp, .inl ⟨_, _, rfl, run_takeDeferred hK, ?_⟩⟩
    refine ⟨.tuple #[v, .int .i64 0], by simp [results, Tryz.f16, go_sem], v, rfl, ?_, H5.out.trans (belowK_b (w := w) (Nat.le_refl _) W D _ _ (by omega) hK2 rfl rfl)⟩
    exact World.ownsRow.kept HV2.out (grownBy_putObj' W D _) (owns_none HV2.out (fun r hr => by cases hr; exact ⟨_, hK2, rfl⟩))
  case stop =>
    rintro D c pre W _ _ h _
    exact h.elim
end Go.Proofs.YtjmebijckcimoaaGreatDoor
