import Derived.Test.YtjmebijckcimoaaGreatDoorRk24r
import Derived.Test.YtjmebijckcimoaaGreatDoorEq
import Derived.Test.YtjmebijckcimoaaGreatDoorSp




namespace Go.Proofs.YtjmebijckcimoaaGreatDoor
open Go.RowKit Go.Ap Go.Shelf Go.Proofs

attribute [local go_sem] Oper.semAt_some bs_toList empty_toList bs_size bs_extract
theorem AllS.setGo {al : List Vg.Arc} {l : List Int} (h : Vg.AllS al l) (hl : ∀ s ∈ l, 0 ≤ s ∧ s < 32) : Vg.setGo none l = 0 :=
  Vg.setGo_zero.2 ⟨fun x hx => by have := hl x hx; omega, h.asc, fun q hq => by cases hq⟩
end Go.Proofs.YtjmebijckcimoaaGreatDoor




namespace Go.Proofs.YtjmebijckcimoaaGreatDoor
open Go.RowKit Go.Ap Go.Shelf Go.Proofs

attribute [local go_sem] Oper.semAt_some bs_toList empty_toList bs_size bs_extract
set_option maxHeartbeats 1000000 in
theorem spellRBad (ws : List Str) (al : List Vg.Arc) (a1 : Option Addr) (n1 c1 : Nat) (a2 : Option Addr) (n2 c2 : Nat) (s : Int) (w : World) (h : GraphM w a1 n1 a2 n2 ws al) (hn1 : n1 ≤ 4096) (hn2 : n2 ≤ 65536) (hbad : Vg.chkG ws al ≠ 0) :
    Calls Tryz.prog 17 #[graphV a1 n1 c1 a2 n2 c2, .int .i64 s] w (SpellA w [] 1) := by
  have HC := Lib.hid (fun W (hb : Below w.heap.size w W) => checkR30 ws al a1 n1 c1 a2 n2 c2 W (h.mono (Nat.le_refl _) hb) hn1 hn2)
  have HB4 := Lib.hid (balloc w (.cells #[.slice a1 n1 c1, .slice a2 n2 c2] 31))
  have HBX := Lib.hid (BoxG.new w a1 n1 c1 a2 n2 c2)
  obtain ⟨q, hq⟩ : ∃ q, Vg.chkG ws al = q := ⟨_, rfl⟩
  rw [hq] at HC hbad
  have d0 : (q != 0) = true := by simpa using hbad
  clear h hq hbad
  unfold graphV at HC ⊢
  go_enter Tryz.func17, Tryz.ntmps17
  obtain ⟨k0, k1⟩ := HBX.out
  go_wp2_with (fail)
  refine (HC.out _ HB4.out).mono ?_
  rintro e w1 ⟨rfl, hb1⟩
  go_wp2_with (fail)
  go_ret2
  exact ⟨_, rfl, OwnS.nil _ _, bstep HB4.out hb1⟩
def spW24 (ws : List Str) (e : Int) (l : List Int) : List Str := (l.filter fun k => decide (k < e)).map fun k => ws.getD k.toNat []
theorem spW24_snoc (ws : List Str) (e : Int) (l : List Int) (t : Int) : spW24 ws e (l ++ [t]) = spW24 ws e l ++ if t < e then [ws.getD t.toNat []] else [] := by
  unfold spW24
  rw [List.filter_append, List.map_append]
  by_cases h : t < e
  · simp [h]
  · simp [h]
theorem spW24_len (ws : List Str) (e : Int) (l : List Int) : (spW24 ws e l).length ≤ l.length := by
  unfold spW24
  rw [List.length_map]
  exact List.length_filter_le _ _
set_option maxRecDepth 100000 in
set_option maxHeartbeats 4000000 in
theorem spellROk (ws : List Str) (al : List Vg.Arc) (a1 : Option Addr) (n1 c1 : Nat) (a2 : Option Addr) (n2 c2 : Nat) (s : Int) (w : World) (h : GraphM w a1 n1 a2 n2 ws al) (hn1 : n1 ≤ 4096) (hn2 : n2 ≤ 65536) (hok : Vg.chkG ws al = 0) :
    Calls Tryz.prog 17 #[graphV a1 n1 c1 a2 n2 c2, .int .i64 s] w fun e w' => (s ∈ srcC al → SpellA w (Vg.spellW ws al s) 0 e w') ∧ (s ∉ srcC al → SpellA w [] 6 e w') := by
  obtain ⟨g2, g3, g4, g5, V, g6⟩ := Vg.chkG_zero.1 hok
  have hl1 := h.words.len
  have HL1 := Lib.hid hl1
  have HL2 := Lib.hid h.arcs.len
  rw [hl1] at V g2
  have HV := Lib.hid V
  have HSW := Lib.hid (show Vg.spellW ws al s = spW24 ws ((n1 : Int) - 1) (Vg.walkA s 0 al) by unfold Vg.spellW spW24; rw [hl1])
  obtain ⟨sw, hsw⟩ : ∃ sw, Vg.spellW ws al s = sw := ⟨_, rfl⟩
  rw [hsw] at HSW ⊢
  have HIN := Lib.hid (show s ∈ srcC al ↔ Vg.walkA s 0 al ≠ [] by
    rw [(srcC_all al).all]
    constructor
    · intro hh e
      exact (V.last s).1 e hh
    · intro hh
      exact Classical.byContradiction fun g => hh ((V.last s).2 g))
  have HC := Lib.hid (fun W (hb : Below w.heap.size w W) => checkR30 ws al a1 n1 c1 a2 n2 c2 W (h.mono (Nat.le_refl _) hb) hn1 hn2)
  rw [hok] at HC
  obtain ⟨W4, hW4⟩ : ∃ W4, w.alloc (.cells #[.slice a1 n1 c1, .slice a2 n2 c2] 31) = W4 := ⟨_, rfl⟩
  have HB4 := Lib.hid (show Below w.heap.size w W4 by rw [← hW4]; exact balloc _ _)
  have HBX := Lib.hid (show BoxG W4 w.heap.size a1 n1 c1 a2 n2 c2 by rw [← hW4]; exact BoxG.new w a1 n1 c1 a2 n2 c2)
  have HG := Lib.hid (show GraphM W4 a1 n1 a2 n2 ws al from h.mono (Nat.le_refl _) HB4.out)
  have HS4 := Lib.hid (show w.heap.size < W4.heap.size by rw [← hW4]; simp)
  have d2 : 2 ≤ n1 := g2
  clear h hok g2 g3 g4 g5 V g6 hl1 hsw
  unfold graphV at HC ⊢
  go_enter Tryz.func17, Tryz.ntmps17
  obtain ⟨k0, k1⟩ := HBX.out
  go_wp2_with (fail)
  refine (HC.out _ HB4.out).mono ?_
  rintro e w1 ⟨rfl, hb1⟩
  have hbe := balloc w1 (.cells #[] 9)
  have HB1 := Lib.hid (bstep (bstep HB4.out hb1) hbe)
  have HX1 := Lib.hid ((HBX.out.below hb1).below hbe)
  have HG1 := Lib.hid ((HG.out.mono (Nat.le_refl _) hb1).mono (Nat.le_refl _) hbe)
  have HS1 := Lib.hid (show w.heap.size < w1.heap.size by have h1 := HS4.out; have h2 := hb1.size; omega)
  have HO1 := Lib.hid (show OwnS (w1.alloc (.cells #[] 9)) w1.heap.size (.slice (some ⟨w1.heap.size, 0, none⟩) 0 0) [] from OwnS.empty _ (Nat.le_refl _))
  have HBM := Lib.hid (show Below w1.heap.size w1 (w1.alloc (.cells #[] 9)) from hbe)
  have HXA := Lib.hid (HBX.out.below hb1)
  have HGA := Lib.hid (HG.out.mono (Nat.le_refl _) hb1)
  have HBA := Lib.hid (bstep HB4.out hb1)
  clear k0 k1 hb1 hbe
  go_wp2_with (fail)
  generalize w1.alloc (.cells #[] 9) = W5 at HB1 HX1 HG1 HO1 HBM ⊢
  go_loopw [6, 7, 8] (fun ov pv iv wr => ∃ (i : Nat) (p : Int) (pre : List Int), i ≤ n2 ∧ pv = .int .i64 p ∧ iv = .int .i64 i ∧ Vg.walkA s 0 al = pre ++ Vg.walkA s p (al.drop i) ∧ (pre = [] ∧ p = 0 ∨ pre ≠ [] ∧ 0 < p) ∧ pre.length ≤ i ∧ OwnS wr w1.heap.size ov (spW24 ws ((n1 : Int) - 1) pre) ∧ Below w1.heap.size w1 wr) (fun _ _ iv _ => n2 - (intOf iv).toNat)
  case atStart => exact ⟨0, 0, [], Nat.zero_le _, rfl, rfl, rfl, .inl ⟨rfl, rfl⟩, Nat.le_refl _, HO1.out, HBM.out⟩
  case round =>
    obtain ⟨wi, rfl⟩ : ∃ wi : World, wi = wr := ⟨_, rfl⟩
    obtain ⟨i, p, pre, hi, rfl, rfl, hwk, hpp, hpl, ho, hb⟩ := hrel
    obtain ⟨k0, k1⟩ := HXA.out.below hb
    have HBJ := Lib.hid hb
    have HO := Lib.hid ho
    have HPP := Lib.hid hpp
    have HPL := Lib.hid hpl
    have hsz := hb.size
    have hs1 := HS1.out
    by_cases hin : i < n2
    case pos =>
      obtain ⟨x, b, off, a5, k5, hx, rfl, p0, p1, p2, hsrc⟩ := (HGA.out.mono (Nat.le_refl _) hb).arcs.at hin
      have hmem := List.mem_of_getElem? hx
      obtain ⟨r1, r2, r3⟩ := HV.out.rng _ hmem
      have hdr : al.drop i = x :: al.drop (i + 1) := by
        obtain ⟨hx1, hx2⟩ := List.getElem?_eq_some_iff.1 hx
        rw [List.drop_eq_getElem_cons hx1, hx2]
      have hsi := hsrc.src
      rw [hdr, Vg.walkA_cons] at hwk
      obtain ⟨⟨f, t0⟩, src⟩ := x
      simp only at p0 p1 p2 hsi r1 r2 r3 hwk
      obtain ⟨t, rfl⟩ : ∃ t : Nat, t0 = t := ⟨t0.toNat, by omega⟩
      obtain ⟨m5, hm5⟩ : ∃ m, src.length = m := ⟨_, rfl⟩
      rw [hm5] at p2 hsi
      have i1 : (i : Int) < (n2 : Int) := by omega
      have HIN2 := Lib.hid hin
      by_cases hfp : f = p
      case neg =>
        have e1 : (f == p) = false := beq_eq_false_iff_ne.2 hfp
        rw [if_neg (fun h => hfp h.1)] at hwk
        have HWK := Lib.hid hwk
        clear hwk hpp hpl ho hb hx hmem r1 r2 r3 hdr hsrc hsi hm5 hi hin hfp hsz hs1
        go_wp2_with (fail)
        go_roundw
        case rel => exact ⟨i + 1, p, pre, by have := HIN2.out; omega, rfl, by simp, HWK.out, HPP.out, by have := HPL.out; omega, HO.out, HBJ.out⟩
        case measure => have := HIN2.out; simp [intOf]; omega
      have e1 : (f == p) = true := by rw [hfp]; exact beq_self_eq_true p
      have HHS := Lib.hid (hasS24 a5 m5 k5 src s wi hsi)
      by_cases hm : s ∈ src
      case neg =>
        have hh : hasI src s = false := by cases hq : hasI src s; rfl; exact absurd ((hasI_iff _ _).1 hq) hm
        rw [hh] at HHS
        rw [if_neg (fun h => hm h.2)] at hwk
        have HWK := Lib.hid hwk
        clear hwk hpp hpl ho hb hx hmem r1 r2 r3 hdr hsrc hsi hm5 hi hin hfp hsz hs1 hm hh
        go_wp2_with (fail)
        refine HHS.out.mono ?_
        rintro e w8 ⟨rfl, rfl⟩
        go_wp2_with (fail)
        go_roundw
        case rel => exact ⟨i + 1, p, pre, by have := HIN2.out; omega, rfl, by simp, HWK.out, HPP.out, by have := HPL.out; omega, HO.out, HBJ.out⟩
        case measure => have := HIN2.out; simp [intOf]; omega
      have hh : hasI src s = true := (hasI_iff _ _).2 hm
      rw [hh] at HHS
      rw [if_pos ⟨hfp, hm⟩, List.append_cons] at hwk
      have HWK := Lib.hid hwk
      have HT0 := Lib.hid (show (0 : Int) < (t : Int) by omega)
      have hsn := spW24_snoc ws ((n1 : Int) - 1) pre t
      by_cases hte : (t : Int) < (n1 : Int) - 1
      case neg =>
        rw [if_neg hte, List.append_nil] at hsn
        have HSN := Lib.hid hsn
        clear hwk hpp hpl ho hb hx hmem r1 r2 r3 hdr hsrc hsi hm5 hi hin hfp hsz hs1 hm hh hsn
        go_wp2_with (fail)
        refine HHS.out.mono ?_
        rintro e w8 ⟨rfl, rfl⟩
        go_wp2_with (fail)
        go_roundw
        case rel => exact ⟨i + 1, t, pre ++ [(t : Int)], by have := HIN2.out; omega, rfl, by simp, HWK.out, .inr ⟨by simp, HT0.out⟩, by have := HPL.out; simp; omega, by rw [HSN.out]; exact HO.out, HBJ.out⟩
        case measure => have := HIN2.out; simp [intOf]; omega
      have htn : t < n1 := by omega
      rw [if_pos hte] at hsn
      obtain ⟨u, b3, o3, v3, hu, rfl, hcw, rfl⟩ := Sl.at (HGA.out.mono (Nat.le_refl _) hb).words htn
      have hgd : ws.getD ((t : Int)).toNat [] = u := by rw [Int.toNat_natCast, List.getD_eq_getElem?_getD, hu]; rfl
      rw [hgd] at hsn
      have HSN := Lib.hid hsn
      have hcw' : wi.cell? ⟨b3, o3 + t, none⟩ = some (.string (bs u)) := hcw
      have i2 : (t : Int) < (n1 : Int) := by omega
      have HSL := Lib.hid (show (spW24 ws ((n1 : Int) - 1) pre).length ≤ 1000000 by have := spW24_len ws ((n1 : Int) - 1) pre; omega)
      have HSZ := Lib.hid hsz
      clear hwk hpp hpl ho hb hx hmem r1 r2 r3 hdr hsrc hsi hm5 hi hin hfp hsz hs1 hm hh hsn hu hcw hgd
      go_wp2_with (fail)
      refine HHS.out.mono ?_
      rintro e w8 ⟨rfl, rfl⟩
      go_wp2_with (at_builtin; refine push_str rfl _ _ rfl w1.heap.size _ _ rfl HO.out rfl HSL.out HSZ.out ?_; intro v' w' hv' hb' _; have HV' := Lib.hid hv'; have HB' := Lib.hid (HBJ.out.trans hb'); clear hv' hb')
      go_roundw
      case rel => exact ⟨i + 1, t, pre ++ [(t : Int)], by have := HIN2.out; omega, rfl, by simp, HWK.out, .inr ⟨by simp, HT0.out⟩, by have := HPL.out; simp; omega, by rw [HSN.out]; exact HV'.out, HB'.out⟩
      case measure => have := HIN2.out; simp [intOf]; omega
    case neg =>
      obtain rfl : n2 = i := by omega
      rw [List.drop_eq_nil_of_le (by rw [HL2.out]; exact Nat.le_refl _)] at hwk
      have hwk2 : Vg.walkA s 0 al = pre := by rw [hwk]; exact List.append_nil _
      have HWK := Lib.hid hwk2
      clear hwk hwk2 hpl ho hb hi hin hsz
      rcases hpp with ⟨rfl, rfl⟩ | ⟨hp1, hp2⟩
      · go_wp2_with (fail)
        go_ret2
        exact ⟨fun h => absurd HWK.out (HIN.out.1 h), fun _ => ⟨_, rfl, OwnS.nil _ _, bstep HBA.out HBJ.out⟩⟩
      · have e1 : (p == 0) = false := beq_eq_false_iff_ne.2 (by omega)
        have HP1 := Lib.hid hp1
        clear hp1 hp2
        go_wp2_with (fail)
        go_ret2
        exact ⟨fun _ => ⟨_, rfl, by rw [HSW.out, HWK.out]; exact HO.out.mono (Nat.le_of_lt hs1), bstep HBA.out HBJ.out⟩, fun h => absurd (HIN.out.2 (by rw [HWK.out]; exact HP1.out)) h⟩
end Go.Proofs.YtjmebijckcimoaaGreatDoor



namespace Go.Proofs.YtjmebijckcimoaaGreatDoor
open Go.RowKit Go.Ap Go.Shelf Go.Proofs

attribute [local go_sem] Oper.semAt_some bs_toList empty_toList bs_size bs_extract
theorem bwdC_le (c : Nat) : ∀ (l : List Vg.Ends) {u : Nat → Nat}, (∀ k, u k ≤ c) → ∀ k, Vg.bwdC c l u k ≤ c
 | [], _, h, k => h k
 | a :: r, u, h, k => by
  show Vg.upd (Vg.bwdC c r u) a.1 (min c (Vg.bwdC c r u a.1 + Vg.bwdC c r u a.2)) k ≤ c
  unfold Vg.upd
  split
  · exact Nat.min_le_left _ _
  · exact bwdC_le c r h k
theorem upd_upd (F : Nat → Nat) (k x y : Nat) : Vg.upd (Vg.upd F k x) k y = Vg.upd F k y := by
 funext j
 unfold Vg.upd
 split <;> rfl
set_option maxHeartbeats 1000000 in
theorem pathsRBad (ws : List Str) (al : List Vg.Arc) (a1 : Option Addr) (n1 c1 : Nat) (a2 : Option Addr) (n2 c2 : Nat) (w : World) (h : GraphM w a1 n1 a2 n2 ws al) (hn1 : n1 ≤ 4096) (hn2 : n2 ≤ 65536) (hbad : Vg.chkG ws al ≠ 0) :
 Calls Tryz.prog 19 #[graphV a1 n1 c1 a2 n2 c2] w fun e w' => e = .returned (.tuple #[.int .i64 0, .int .i64 1]) ∧ Below w.heap.size w w' := by
 have HC := Lib.hid (fun W (hb : Below w.heap.size w W) => checkR30 ws al a1 n1 c1 a2 n2 c2 W (h.mono (Nat.le_refl _) hb) hn1 hn2)
 have HB4 := Lib.hid (balloc w (.cells #[.slice a1 n1 c1, .slice a2 n2 c2] 31))
 have HBX := Lib.hid (BoxG.new w a1 n1 c1 a2 n2 c2)
 obtain ⟨q, hq⟩ : ∃ q, Vg.chkG ws al = q := ⟨_, rfl⟩
 rw [hq] at HC hbad
 have d0 : (q != 0) = true := by simpa using hbad
 clear h hq hbad
 unfold graphV at HC ⊢
 go_enter Tryz.func19, Tryz.ntmps19
 obtain ⟨k0, k1⟩ := HBX.out
 go_wp2_with (fail)
 refine (HC.out _ HB4.out).mono ?_
 rintro e w1 ⟨rfl, hb1⟩
 go_wp2_with (fail)
 go_ret2
 exact ⟨rfl, bstep HB4.out hb1⟩
set_option maxRecDepth 100000 in
set_option maxHeartbeats 4000000 in
theorem pathsROk (ws : List Str) (al : List Vg.Arc) (a1 : Option Addr) (n1 c1 : Nat) (a2 : Option Addr) (n2 c2 : Nat) (w : World) (h : GraphM w a1 n1 a2 n2 ws al) (hn1 : n1 ≤ 4096) (hn2 : n2 ≤ 65536) (hok : Vg.chkG ws al = 0) :
 Calls Tryz.prog 19 #[graphV a1 n1 c1 a2 n2 c2] w fun e w' => e = .returned (.tuple #[.int .i64 ((Vg.pathsN 1073741824 ((ws.length : Int) - 1) al : Nat) : Int), .int .i64 0]) ∧ Below w.heap.size w w' := by
 obtain ⟨g2, g3, g4, g5, V, g6⟩ := Vg.chkG_zero.1 hok
 have hl1 := h.words.len
 have HL2 := Lib.hid h.arcs.len
 rw [hl1] at V g2 ⊢
 have HV := Lib.hid V
 have HPA := Lib.hid (show Vg.bwdC 1073741824 (Vg.endsN al) (Vg.one (n1 - 1)) 0 = Vg.pathsN 1073741824 ((n1 : Int) - 1) al by
  have := (V.paths (c := 1073741824) (by omega)).2
  rw [show ((n1 : Int) - 1).toNat = n1 - 1 by omega] at this
  exact this)
 have HC := Lib.hid (fun W (hb : Below w.heap.size w W) => checkR30 ws al a1 n1 c1 a2 n2 c2 W (h.mono (Nat.le_refl _) hb) hn1 hn2)
 rw [hok] at HC
 obtain ⟨W4, hW4⟩ : ∃ W4, w.alloc (.cells #[.slice a1 n1 c1, .slice a2 n2 c2] 31) = W4 := ⟨_, rfl⟩
 have HB4 := Lib.hid (show Below w.heap.size w W4 by rw [← hW4]; exact balloc _ _)
 have HBX := Lib.hid (show BoxG W4 w.heap.size a1 n1 c1 a2 n2 c2 by rw [← hW4]; exact BoxG.new w a1 n1 c1 a2 n2 c2)
 have HG := Lib.hid (show GraphM W4 a1 n1 a2 n2 ws al from h.mono (Nat.le_refl _) HB4.out)
 have d2 : 2 ≤ n1 := g2
 clear h hok g2 g3 g4 g5 V g6 hl1
 unfold graphV at HC ⊢
 go_enter Tryz.func19, Tryz.ntmps19
 obtain ⟨k0, k1⟩ := HBX.out
 go_wp2_with (fail)
 refine (HC.out _ HB4.out).mono ?_
 rintro e w1 ⟨rfl, hb1⟩
 have hmk := make_nums n1 (by omega) w1
 have kb := balloc w1 (.cells (Array.replicate n1 (.int .i64 0)) 3)
 have hA : Arr (w1.alloc (.cells (Array.replicate n1 (.int .i64 0)) 3)) w1.heap.size 3 (arrN n1 fun _ => 0) := Arr.zero rfl
 have hX1 := HBX.out.below hb1
 have hX2 := hX1.below kb
 have hb2 := bstep hb1 kb
 obtain ⟨S, hS⟩ : ∃ S, w1.heap.size = S := ⟨_, rfl⟩
 obtain ⟨WN, hWN⟩ : ∃ W, w1.alloc (.cells (Array.replicate n1 (.int .i64 0)) 3) = W := ⟨_, rfl⟩
 have hSz : W4.heap.size ≤ S := by rw [← hS]; exact hb1.size
 rw [hWN] at hmk hA hX2 hb2
 rw [hS] at hmk hA
 have y0 := hA.getN (k := n1 - 1) (by omega)
 have y1 := hA.free (n1 - 1)
 have hwn : IntKind.i64.wrap ((n1 : Int) - 1) = ((n1 - 1 : Nat) : Int) := by rw [IntWalk.i64_in _ (by omega)]; omega
 have hlt : ((n1 - 1 : Nat) : Int) < (n1 : Int) := by omega
 have HA1 := Lib.hid (show Arr (WN.setCell ⟨S, n1 - 1, none⟩ (.int .i64 1)) S 3 (arrN n1 (Vg.bwdC 1073741824 ((Vg.endsN al).drop n2) (Vg.one (n1 - 1)))) by
  rw [List.drop_eq_nil_of_le (by unfold Vg.endsN; rw [List.length_map, HL2.out]; exact Nat.le_refl _)]
  have := hA.setN (n1 - 1) 1
  exact this)
 have HB5 := Lib.hid (hb2.setCell (p := ⟨S, n1 - 1, none⟩) (u := .int .i64 1) hSz)
 have HSZ := Lib.hid hSz
 have j0 := hX1.k0
 have j1 := hX1.k1
 have l0 := hX2.k0
 have l1 := hX2.k1
 have hw2 : IntKind.i64.wrap ((n2 : Int) - 1) = (n2 : Int) - 1 := IntWalk.i64_in _ (by omega)
 have m0 := (HBX.out.far HB5.out (by rw [← hW4]; simp)).k0
 have m1 := (HBX.out.far HB5.out (by rw [← hW4]; simp)).k1
 have HBL := Lib.hid (show w.heap.size < W4.heap.size by rw [← hW4]; simp)
 clear hb1 kb hA hX1 hX2 hb2 hW4 hS hWN hSz
 go_wp2_with (fail)
 clear k0 k1 y0 y1 hwn hlt j0 j1 l0 l1 hw2 m0 m1 hmk
 go_loopw [5] (fun iv wr => ∃ i : Nat, i ≤ n2 ∧ iv = .int .i64 ((i : Int) - 1) ∧ Arr wr S 3 (arrN n1 (Vg.bwdC 1073741824 ((Vg.endsN al).drop i) (Vg.one (n1 - 1)))) ∧ Below W4.heap.size W4 wr) (fun iv _ => (intOf iv + 1).toNat)
 case atStart => exact ⟨n2, Nat.le_refl _, rfl, HA1.out, HB5.out⟩
 case round =>
  obtain ⟨wi, rfl⟩ : ∃ wi : World, wi = wr := ⟨_, rfl⟩
  obtain ⟨i, hi, rfl, ha, hb⟩ := hrel
  have HB := Lib.hid hb
  obtain ⟨k0, k1⟩ := HBX.out.below hb
  by_cases hi0 : i = 0
  · subst hi0
    have q1 : ¬((0 : Int) ≤ ((0 : Nat) : Int) - 1) := by omega
    have y0 := ha.getN (k := 0) (by omega)
    rw [List.drop_zero, HPA.out] at y0
    have i0 : (0 : Int) < (n1 : Int) := by omega
    clear ha hb hi
    obtain ⟨v, hv⟩ : ∃ v, (((0 : Nat) : Int) - 1) = v := ⟨_, rfl⟩
    rw [hv] at q1 ⊢
    clear hv
    go_wp2_with (fail)
    go_ret2
    exact ⟨rfl, bstep HB4.out HB.out⟩
  · obtain ⟨j, rfl⟩ : ∃ j, i = j + 1 := ⟨i - 1, by omega⟩
    rw [show ((j + 1 : Nat) : Int) - 1 = (j : Int) by omega]
    have hj : j < n2 := by omega
    have HSI := Lib.hid (show S ≤ wi.heap.size by
     have h1 := Arr.lt ha
     omega)
    obtain ⟨x, b, off, a5, k5, hx, rfl, c0, c1', c2', _⟩ := (HG.out.arcs.mono (Nat.le_refl _) hb).at hj
    obtain ⟨r1, r2, r3⟩ := HV.out.rng _ (List.mem_of_getElem? hx)
    obtain ⟨⟨f0, t0⟩, src⟩ := x
    simp only at r1 r2 r3 c0 c1' c2'
    obtain ⟨f, rfl⟩ : ∃ f : Nat, f0 = f := ⟨f0.toNat, by omega⟩
    obtain ⟨t, rfl⟩ : ∃ t : Nat, t0 = t := ⟨t0.toNat, by omega⟩
    obtain ⟨F, hF⟩ : ∃ F, Vg.bwdC 1073741824 ((Vg.endsN al).drop (j + 1)) (Vg.one (n1 - 1)) = F := ⟨_, rfl⟩
    have HFL := Lib.hid (show ∀ k, F k ≤ 1073741824 from fun k => by rw [← hF]; exact bwdC_le _ _ (fun k => by unfold Vg.one; split <;> omega) k)
    rw [hF] at ha
    have HN := Lib.hid (show Vg.bwdC 1073741824 ((Vg.endsN al).drop j) (Vg.one (n1 - 1)) = Vg.upd F f (min 1073741824 (F f + F t)) by
     rw [Vg.bwdC_drop 1073741824 (Vg.endsN al) (Vg.one (n1 - 1)) (i := j) (a := (f, t)) (by unfold Vg.endsN; rw [List.getElem?_map, hx]; simp), hF])
    obtain ⟨p, hp⟩ : ∃ p, F f = p := ⟨_, rfl⟩
    obtain ⟨q, hq⟩ : ∃ q, F t = q := ⟨_, rfl⟩
    have hq1 := HFL.out t
    have hp1 := HFL.out f
    rw [hq] at hq1 HN
    rw [hp] at hp1 HN
    obtain ⟨z, hz⟩ : ∃ z, p + q = z := ⟨_, rfl⟩
    rw [hz] at HN
    have HZL := Lib.hid (show z ≤ 2147483648 by omega)
    have HSUM := Lib.hid (show IntKind.i64.wrap ((p : Int) + (q : Int)) = ((z : Nat) : Int) by rw [IntWalk.i64_in _ (by omega)]; omega)
    obtain ⟨X, hX⟩ : ∃ X, wi.heap.size = X := ⟨_, rfl⟩
    have hSX : S ≤ X := by have := HSI.out; omega
    have hXS : X ≠ S := fun e => by
     have h1 := Arr.lt ha
     omega
    have K := Lib.hid (show BlkK (wi.alloc (.cells #[.int .i64 (f : Int), .int .i64 (t : Int), .slice a5 src.length k5] 48)) X #[.int .i64 (f : Int), .int .i64 (t : Int), .slice a5 src.length k5] 48 by rw [← hX]; exact BlkK.new wi _ _)
    have HA2 := Lib.hid (ha.kept (balloc wi (.cells #[.int .i64 (f : Int), .int .i64 (t : Int), .slice a5 src.length k5] 48)))
    have HB2 := Lib.hid (bstep hb (balloc wi (.cells #[.int .i64 (f : Int), .int .i64 (t : Int), .slice a5 src.length k5] 48)))
    have HEA := Lib.hid hp
    have HEB := Lib.hid hq
    have q1 : (0 : Int) ≤ (j : Int) := by omega
    have i1 : (j : Int) < (n2 : Int) := by omega
    have hfn : f < n1 := by omega
    have htn : t < n1 := by omega
    have HFN := Lib.hid hfn
    have HTN := Lib.hid htn
    have i2 : (f : Int) < (n1 : Int) := by omega
    have i3 : (t : Int) < (n1 : Int) := by omega
    have HJN := Lib.hid hj
    obtain ⟨m5, hm5⟩ : ∃ m, src.length = m := ⟨_, rfl⟩
    rw [hm5] at c2' K HA2 HB2
    obtain ⟨WA, hWA⟩ : ∃ W, wi.alloc (.cells #[.int .i64 (f : Int), .int .i64 (t : Int), .slice a5 m5 k5] 48) = W := ⟨_, rfl⟩
    rw [hWA] at HA2 K HB2
    have hw3 : IntKind.i64.wrap ((j : Int) - 1) = (j : Int) - 1 := IntWalk.i64_in _ (by omega)
    clear hx ha hb hF hq hp hz r1 r2 r3 hq1 hp1 hm5 hfn htn hi hi0 hj
    go_wp2_with (fail)
    refine (wpIn_wide (n := 20)).1 ?_
    refine wpIn_region_planM (fun W' => Arr W' S 3 (arrN n1 F) ∧ BlkK W' X #[.int .i64 (f : Int), .int .i64 (t : Int), .slice a5 m5 k5] 48) 15 (.take 0 <| .take 1 <| .take 2 <| .take 3 <| .take 4 <| .take 5 <| .take 6 <| .take 7 <| .take 8 <| .take 9 <| .take 10 <| .take 11 <| .take 12 <| .take 13 <| .take 14 <| .one 15 <| .fin) (fun _ => trivial) (by kernel_rfl) (by kernel_rfl) (⟨HA2.out.drew, K.out.drew⟩) ?_
    iterate 2
     apply pm_take rfl rfl (by rfl)
     case hy =>
      rintro W' hb'
      clear hb'
      go_simp
      first | done | with_reducible rfl
     simp only [List.setIfInBounds_toArray, List.set_cons_zero, List.set_cons_succ]
    apply pm_take rfl rfl (by rfl)
    case hy =>
     rintro W' hb'
     have ea := hb'.1.getN HFN.out
     have eb := hb'.1.getN HTN.out
     rw [HEA.out] at ea
     rw [HEB.out] at eb
     have x0 : W'.cell? ⟨X, 0, none⟩ = some (.int .i64 (f : Int)) := hb'.2.cell (i := 0) rfl
     have x1 : W'.cell? ⟨X, 1, none⟩ = some (.int .i64 (t : Int)) := hb'.2.cell (i := 1) rfl
     clear hb'
     go_simp
     first | done | with_reducible rfl
    simp only [List.setIfInBounds_toArray, List.set_cons_zero, List.set_cons_succ]
    iterate 2
     apply pm_take rfl rfl (by rfl)
     case hy =>
      rintro W' hb'
      clear hb'
      go_simp
      first | done | with_reducible rfl
     simp only [List.setIfInBounds_toArray, List.set_cons_zero, List.set_cons_succ]
    apply pm_take rfl rfl (by rfl)
    case hy =>
     rintro W' hb'
     have ea := hb'.1.getN HFN.out
     have eb := hb'.1.getN HTN.out
     rw [HEA.out] at ea
     rw [HEB.out] at eb
     have x0 : W'.cell? ⟨X, 0, none⟩ = some (.int .i64 (f : Int)) := hb'.2.cell (i := 0) rfl
     have x1 : W'.cell? ⟨X, 1, none⟩ = some (.int .i64 (t : Int)) := hb'.2.cell (i := 1) rfl
     clear hb'
     go_simp
     first | done | with_reducible rfl
    simp only [List.setIfInBounds_toArray, List.set_cons_zero, List.set_cons_succ]
    apply pm_take rfl rfl (by rfl)
    case hy =>
     rintro W' hb'
     clear hb'
     go_simp
     first | done | with_reducible rfl
    simp only [List.setIfInBounds_toArray, List.set_cons_zero, List.set_cons_succ]
    apply pm_take rfl rfl (by rfl)
    case hy =>
     rintro W' hb'
     have ea := hb'.1.getN HFN.out
     have eb := hb'.1.getN HTN.out
     rw [HEA.out] at ea
     rw [HEB.out] at eb
     have x0 : W'.cell? ⟨X, 0, none⟩ = some (.int .i64 (f : Int)) := hb'.2.cell (i := 0) rfl
     have x1 : W'.cell? ⟨X, 1, none⟩ = some (.int .i64 (t : Int)) := hb'.2.cell (i := 1) rfl
     clear hb'
     go_simp
     first | done | with_reducible rfl
    simp only [List.setIfInBounds_toArray, List.set_cons_zero, List.set_cons_succ]
    iterate 2
     apply pm_take rfl rfl (by rfl)
     case hy =>
      rintro W' hb'
      clear hb'
      go_simp
      first | done | with_reducible rfl
     simp only [List.setIfInBounds_toArray, List.set_cons_zero, List.set_cons_succ]
    apply pm_take rfl rfl (by rfl)
    case hy =>
     rintro W' hb'
     have ea := hb'.1.getN HFN.out
     have eb := hb'.1.getN HTN.out
     rw [HEA.out] at ea
     rw [HEB.out] at eb
     have x0 : W'.cell? ⟨X, 0, none⟩ = some (.int .i64 (f : Int)) := hb'.2.cell (i := 0) rfl
     have x1 : W'.cell? ⟨X, 1, none⟩ = some (.int .i64 (t : Int)) := hb'.2.cell (i := 1) rfl
     clear hb'
     go_simp
     first | done | with_reducible rfl
    simp only [List.setIfInBounds_toArray, List.set_cons_zero, List.set_cons_succ]
    apply pm_take rfl rfl (by rfl)
    case hy =>
     rintro W' hb'
     clear hb'
     go_simp
     first | done | with_reducible rfl
    simp only [List.setIfInBounds_toArray, List.set_cons_zero, List.set_cons_succ]
    apply pm_take rfl rfl (by rfl)
    case hy =>
     rintro W' hb'
     have ea := hb'.1.getN HFN.out
     have eb := hb'.1.getN HTN.out
     rw [HEA.out] at ea
     rw [HEB.out] at eb
     have x0 : W'.cell? ⟨X, 0, none⟩ = some (.int .i64 (f : Int)) := hb'.2.cell (i := 0) rfl
     have x1 : W'.cell? ⟨X, 1, none⟩ = some (.int .i64 (t : Int)) := hb'.2.cell (i := 1) rfl
     clear hb'
     go_simp
     first | done | with_reducible rfl
    simp only [List.setIfInBounds_toArray, List.set_cons_zero, List.set_cons_succ]
    apply pm_take rfl rfl (by rfl)
    case hy =>
     rintro W' hb'
     have e1 := HSUM.out
     clear hb'
     go_simp
     first | done | with_reducible rfl
    simp only [List.setIfInBounds_toArray, List.set_cons_zero, List.set_cons_succ]
    apply pm_take rfl rfl (by rfl)
    case hy =>
     rintro W' hb'
     clear hb'
     go_simp
     first | done | with_reducible rfl
    simp only [List.setIfInBounds_toArray, List.set_cons_zero, List.set_cons_succ]
    refine pm_one rfl ?_
    have z0 := HA2.out.drew.getN HFN.out
    have z1 := HA2.out.drew.free f
    have HA3 := Lib.hid (HA2.out.setN f z).drew
    have HK3 := Lib.hid (show BlkK (WA.setCell ⟨S, f, none⟩ (.int .i64 (z : Int))).drew X #[.int .i64 (f : Int), .int .i64 (t : Int), .slice a5 m5 k5] 48 from (BlkK.other24 K.out hXS).drew)
    gi_wp2_with (fail)
    refine ⟨fun h => absurd h (by omega), ?_⟩
    refine pm_fin ?_
    gi_wp2_with (fail)
    have HB3 := Lib.hid (below_drew' (HB2.out.setCell (p := ⟨S, f, none⟩) (u := .int .i64 (z : Int)) HSZ.out))
    obtain ⟨W3, hW3⟩ : ∃ W, (WA.setCell ⟨S, f, none⟩ (.int .i64 (z : Int))).drew = W := ⟨_, rfl⟩
    rw [hW3] at HA3 HK3 HB3 ⊢
    have g0 : W3.cell? ⟨X, 0, none⟩ = some (.int .i64 (f : Int)) := HK3.out.cell (i := 0) rfl
    have g1 : W3.cell? ⟨S, f, none⟩ = some (.int .i64 (z : Int)) := by
     have := HA3.out.getN HFN.out
     unfold Vg.upd at this
     rwa [if_pos rfl] at this
    have g2 := HA3.out.free f
    by_cases hz : 1073741824 < z
    · have q2 : (1073741824 : Int) < (z : Int) := by omega
      have HA4 := Lib.hid (HA3.out.setN f 1073741824)
      have HMN := Lib.hid (show min 1073741824 z = 1073741824 by omega)
      clear hz hW3 hX
      go_wp2_with (fail)
      go_roundw
      case rel => exact ⟨j, by have := HJN.out; omega, rfl, by rw [HN.out, HMN.out, ← upd_upd F f z]; exact HA4.out, HB3.out.setCell (p := ⟨S, f, none⟩) HSZ.out _⟩
      case measure => simp [intOf]
    · have q2 : ¬((1073741824 : Int) < (z : Int)) := by omega
      have HMN := Lib.hid (show min 1073741824 z = z by omega)
      clear hz hW3 hX
      go_wp2_with (fail)
      go_roundw
      case rel => exact ⟨j, by have := HJN.out; omega, rfl, by rw [HN.out, HMN.out]; exact HA3.out, HB3.out⟩
      case measure => simp [intOf]
end Go.Proofs.YtjmebijckcimoaaGreatDoor
