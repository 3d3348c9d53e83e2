/-
  The law Finds: a word is found by each of its writings.
-/
import Derived.Test.YtngdmpkoedpgdaaGreatDoorU8
import Derived.Test.YtngdmpkoedpgdaaGreatDoorGr5
import Derived.Test.YtngdmpkoedpgdaaGreatDoorEf5
import Derived.Test.YtngdmpkoedpgdaaGreatDoorSa5
import Derived.Test.YtngdmpkoedpgdaaGreatDoorFd
import Derived.Test.YtngdmpkoedpgdaaGreatDoorAw5
import Derived.Test.YtngdmpkoedpgdaaGreatDoorFq
import Derived.Shelf.Strings.CaseAny
namespace Go.Ap
open Go Go.RowKit
theorem enc_len (r : Int) : (Lib.encodeRune r).length ≤ 4 := by
  unfold Lib.encodeRune Lib.encodeRuneZ
  rw [List.length_map]
  repeat' split
  all_goals simp
theorem mapGo_len (f : Int → Int) : ∀ n l, (Lib.mapGoD f n l).length ≤ n * 4
  | 0, _ => by simp [Lib.mapGoD]
  | n + 1, l => by
    unfold Lib.mapGoD
    split
    · simp
    · rw [List.length_append]
      have h1 := mapGo_len f n (l.drop (Lib.decodeL l).2)
      have h2 : (if 0 ≤ f (Lib.decodeL l).1 then Lib.encodeRune (f (Lib.decodeL l).1) else []).length ≤ 4 := by
        split
        · exact enc_len _
        · simp
      omega
theorem upper_len (s : Str) : (Lib.toUpperD s).length ≤ s.length * 4 := mapGo_len _ _ _
theorem posts_one {W : World} {B : Nat} {a : Option Addr} {n c : Nat} {l : List Post} (h : W.cell? ⟨B, 0, none⟩ = some (.slice a n c)) (p : Posts W a n l) : Posts2 W (some ⟨B, 0, none⟩) 1 [l] :=
  ⟨rfl, by omega, fun k x hk => by
    match k, hk with
    | 0, hk => cases hk; exact ⟨B, 0, _, rfl, h, a, n, c, rfl, p⟩⟩
end Go.Ap
namespace Go.Proofs.YtngdmpkoedpgdaaGreatDoor
open Go.RowKit Go.Ap Go.Shelf Go.Proofs

attribute [local go_sem] Oper.semAt_some bs_toList empty_toList bs_size bs_extract
abbrev CV (w : World) : Prop := Lib.CaseVar 2 Lib.caseA w
/-- what is kept from call to call -/
structure FdW (l : List Post) (a : Option Addr) (n : Nat) (w : World) : Prop where
  one : Posts w a n l
  tab : ET w
  ft : FT w
  ut : UT w
  cv : CV w
theorem CV.mono {w w' : World} {B : Nat} (h : CV w) (hB : w.heap.size ≤ B) (hb : Below B w w') : CV w' := by
  obtain ⟨R, o, c, h1, h2⟩ := h
  refine ⟨R, o, c, Go.Ap.cell_kept hB hb h1, fun i hi => ?_⟩
  obtain ⟨k0, k1, k2, k3, k4⟩ := h2 i hi
  exact ⟨Go.Ap.cell_kept hB hb k0, Go.Ap.cell_kept hB hb k1, Go.Ap.cell_kept hB hb k2, Go.Ap.cell_kept hB hb k3, Go.Ap.cell_kept hB hb k4⟩
theorem FdW.mono {l : List Post} {a : Option Addr} {n B : Nat} {w w' : World} (h : FdW l a n w) (hB : w.heap.size ≤ B) (hb : Below B w w') : FdW l a n w' :=
  ⟨h.one.mono hB hb, h.tab.mono hB hb, h.ft.mono hB hb, Utf8T.mono h.ut hB hb, CV.mono h.cv hB hb⟩
theorem FdW.below {l : List Post} {a : Option Addr} {n : Nat} {w w' : World} (h : FdW l a n w) (hb : Below w.heap.size w w') : FdW l a n w' := h.mono (Nat.le_refl _) hb
/-- EqualFold of two words without marks -/
theorem eqFoldB (wd s : Str) (w : World) (h1 : wd.length ≤ 70) (h2 : ∀ c ∈ wd, c.toNat < 128) (hs : s.length ≤ 70) (hf : FT w) (hu : UT w) :
    Calls Tryz.prog 33 #[.string (bs (plainM mkB wd)), .string (bs (plainM mkB s))] w fun e w' => (∃ b, e = .returned (.bool b) ∧ (asciiS s = true → b = decide (formS wd = formS s))) ∧ Below w.heap.size w w' := by
  have hp := ascii_plain h2
  have l1 := plainM_le mkB wd
  have l2 := plainM_le mkB s
  by_cases has : asciiS s = true
  · have hq := ascii_plain (asciiS_iff.1 has)
    refine (Tryz.strings_EqualFold (bs (plainM mkB wd)) (bs (plainM mkB s)) w (by rw [bs_size]; omega) (fun j b hb => hp b (List.mem_of_getElem? hb)) (fun j b hb => hq b (List.mem_of_getElem? hb))).mono ?_
    rintro e w' ⟨rfl, rfl⟩
    exact ⟨⟨_, rfl, fun _ => fold_form wd s⟩, Below.refl _ _⟩
  · refine (eqFoldAny _ _ w hp (by omega) (by omega) hf hu).mono ?_
    rintro e w' ⟨⟨b, rfl⟩, hb⟩
    exact ⟨⟨b, rfl, fun h => absurd h has⟩, hb⟩
theorem finds1 (x : UInt8) (w : World) : Calls Tryz.prog 36 (#[.int .u8 (x.toNat : Int)] ++ #[]) w fun e w' => e = .returned (.bool (decide (127 < x.toNat))) ∧ w = w' := by
  have hx := x.toNat_lt
  obtain ⟨R, hR⟩ : ∃ R, decide (127 < x.toNat) = R := ⟨_, rfl⟩
  have hd : decide ((127 : Int) < (x.toNat : Int)) = R := by rw [← hR]; exact decide_eq_decide.2 (by omega)
  rw [hR]
  clear hR
  show Calls _ _ #[.int .u8 (x.toNat : Int)] _ _
  go_enter Tryz.func36, Tryz.ntmps36
  go_wp2_with (fail)
  go_ret
  exact ⟨rfl, rfl⟩
set_option maxRecDepth 100000 in
set_option maxHeartbeats 16000000 in
theorem law7 (a : Option Addr) (n c : Nat) (l : List Post) (s : Str) (w : World) (h : Posts w a n l) (ht : ET w) (hft : FT w) (hut : UT w) (hcv : CV w) :
    Calls Tryz.prog 7 #[.slice a n c, .string (bs s)] w fun e w' => e = .returned (.bool true) ∧ Below w.heap.size w w' := by
  obtain ⟨i0, hi, hz0, hz1, hz2⟩ := info_parts infoPost
  have HT := Lib.hid (show FdW l a n w from ⟨h, ht, hft, hut, hcv⟩)
  have HA := Lib.hid (fun W (h : FdW l a n W) => awake13 W h.tab)
  have HGR := Lib.hid (great21 l a n c w h)
  have HPL := Lib.hid (fun (t : Str) (h : t.length ≤ 65536) W => plainR t W h)
  have hsm := h.small
  have HLN := Lib.hid h.len
  have HBX := Lib.hid (Below.refl w.heap.size w)
  clear h ht hft hut hcv
  go_enter Tryz.func7, Tryz.ntmps7
  go_wp2_with (fail)
  refine HGR.out.mono ?_
  rintro e W0 ⟨⟨gb, rfl, hgb⟩, rfl⟩
  have HF := Lib.hid hgb
  clear HGR hgb
  cases gb
  rotate_left
  · go_wp2_with (fail)
    refine (HA.out _ HT.out).mono ?_
    rintro e W9 ⟨rfl, hb9⟩
    have HBX := Lib.hid (bstep HBX.out hb9)
    clear hb9
    go_wp2_with (fail)
    go_ret
    exact ⟨rfl, HBX.out⟩
  have HFF := Lib.hid (HF.out rfl)
  clear HF
  by_cases g3 : 70 < s.length
  · have d3 : decide ((70 : Int) < (s.length : Int)) = true := decide_eq_true (by omega)
    go_wp2_with (fail)
    refine (HA.out _ HT.out).mono ?_
    rintro e W9 ⟨rfl, hb9⟩
    have HBX := Lib.hid (bstep HBX.out hb9)
    clear hb9
    go_wp2_with (fail)
    go_ret
    exact ⟨rfl, HBX.out⟩
  have d3 : decide ((70 : Int) < (s.length : Int)) = false := decide_eq_false (by omega)
  have HSL := Lib.hid (show s.length ≤ 70 by omega)
  have hn12 := HFF.out.1
  obtain ⟨W1, hW1⟩ : ∃ W, w.alloc (.cells #[.slice a n c] 27) = W := ⟨_, rfl⟩
  have hb1 : Below w.heap.size w W1 := by rw [← hW1]; exact balloc _ _
  obtain ⟨mc, hmc⟩ : ∃ x, mergeC [l] = x := ⟨_, rfl⟩
  obtain ⟨mi, hmi⟩ : ∃ x, shownP (mergeC [l]) (mergeI [l]) = x := ⟨_, rfl⟩
  obtain ⟨mn, hmn⟩ : ∃ x, mi.length = x := ⟨_, rfl⟩
  have HT := Lib.hid (HT.out.below hb1)
  have HBX := Lib.hid hb1
  have HM := Lib.hid (show Calls Tryz.prog 27 #[.slice (some ⟨w.heap.size, 0, none⟩) 1 1] W1 fun e w' => ShowsP e W1 w' mc mn mi from
    (mergeP [l] (some ⟨w.heap.size, 0, none⟩) 1 1 W1 (posts_one (by rw [← hW1]; exact (BlkK.new w #[.slice a n c] 27).cell (i := 0) rfl) HT.out.one) (by simp; have := HLN.out; omega) (by
      have := sum_le_mul (l := l) (k := 12) fun p hp => (HFF.out.2 p hp).2.2
      have h3 := HLN.out
      have h2 : l.length * 12 ≤ 12 * 12 := Nat.mul_le_mul_right _ (by omega)
      simp
      omega)).mono fun e w' h => WordsA.shows h hmc hmi hmn)
  have HMC := Lib.hid (show mc = if indexB l = true then 0 else 1 by
    rw [← hmc]
    unfold mergeC
    rw [if_neg (by simp)]
    simp only [List.any_cons, List.any_nil, Bool.or_false]
    cases indexB l <;> rfl)
  rw [← hW1] at HM
  have HW1 := Lib.hid hW1
  clear hmc hmi hmn hW1 hb1
  go_wp2_with (fail)
  refine HM.out.mono ?_
  rw [HW1.out]
  rintro e W2 ⟨a2, k2, rfl, -, hb2⟩
  have HT := Lib.hid (HT.out.below hb2)
  have HBX := Lib.hid (bstep HBX.out hb2)
  clear hb2 HM HW1
  cases hx : indexB l
  · obtain rfl : mc = 1 := by rw [HMC.out, hx]; rfl
    clear hx HMC
    go_wp2_with (fail)
    refine (HA.out _ HT.out).mono ?_
    rintro e W9 ⟨rfl, hb9⟩
    have HBX := Lib.hid (bstep HBX.out hb9)
    clear hb9
    go_wp2_with (fail)
    go_ret
    exact ⟨rfl, HBX.out⟩
  have HIX := Lib.hid hx
  obtain rfl : mc = 0 := by rw [HMC.out, hx]; rfl
  have HWD := Lib.hid (show ∀ p ∈ l, p.1.1.length ≤ 70 ∧ ∀ c ∈ p.1.1, c.toNat < 128 from fun p hp => ⟨(HFF.out.2 p hp).1, word_ascii (validB_parts ((indexB_valid hx).2 p hp)).1⟩)
  have HEF := Lib.hid (fun (wd : Str) (h : wd.length ≤ 70 ∧ ∀ c ∈ wd, c.toNat < 128) W (hW : FdW l a n W) => eqFoldB wd s W h.1 h.2 HSL.out hW.ft hW.ut)
  obtain ⟨U, hU⟩ : ∃ x, Lib.toUpperD s = x := ⟨_, rfl⟩
  have HUL := Lib.hid (show U.length ≤ 70 * 4 + 4096 by rw [← hU]; have := upper_len s; have := HSL.out; omega)
  have HUA := Lib.hid (fun (h : asciiS s = true) => show findS l U = findS l s by rw [← hU, Lib.toUpperD_ascii s (asciiS_iff.1 h)]; exact find_up l s)
  have HUP := Lib.hid (fun W (h : FdW l a n W) => show Calls Tryz.prog 31 #[.string (bs s)] W fun e w' => e = .returned (.string (bs U)) ∧ Below W.heap.size W w' by
    rw [← hU]
    exact Any.strings_ToUpper_any Tryz.lays158 Tryz.Builder_Extra_158 (bs s) W (by rw [bs_size]; have := HSL.out; omega) h.cv h.ut)
  have HCB := Lib.hid (fun (h : asciiS s = false) (W0 W : World) (_ : W = Lib.bytesWorld W0 5 (bs s)) => fun (cc : Nat) => ((contBytes (fun c : UInt8 => decide (127 < c.toNat)) (some ⟨W0.heap.size, 0, none⟩) s.length cc s 36 #[] (Lib.bytesWorld W0 5 (bs s)) (bytes_sl W0 5 s (by have := HSL.out; omega)) (enters_of Tryz.func36 (by kernel_rfl) rfl) (fun x v _ hr => by rw [hr]; exact finds1 x _)).mono (fun e w' ⟨he, hw⟩ => ⟨by rw [he, not_ascii.1 h], by rw [← hw]; exact bytes_below W0 5 (bs s)⟩) : Calls Tryz.prog 35 #[.slice (some ⟨W0.heap.size, 0, none⟩) s.length cc, .func (.func 36) #[] #[]] (Lib.bytesWorld W0 5 (bs s)) fun e w' => e = .returned (.bool true) ∧ Below W0.heap.size W0 w'))
  clear hU hx HMC HFF g3
  go_wp2_with (fail)
  refine (HUP.out _ HT.out).mono ?_
  rintro e W3 ⟨rfl, hb3⟩
  have HT := Lib.hid (HT.out.below hb3)
  have HBX := Lib.hid (bstep HBX.out hb3)
  clear hb3
  obtain ⟨X0, hX0⟩ : ∃ x, W3.heap.size = x := ⟨_, rfl⟩
  obtain ⟨Z0, hZ0⟩ : ∃ W, W3.alloc (.cells #[.string (bs s), .string (bs U)] 9) = W := ⟨_, rfl⟩
  have hbz : Below W3.heap.size W3 Z0 := by rw [← hZ0]; exact balloc _ _
  have HBLK := Lib.hid (show BlkK Z0 X0 #[.string (bs s), .string (bs U)] 9 by rw [← hZ0, ← hX0]; exact BlkK.new _ _ _)
  have HT0 := Lib.hid (HT.out.below hbz)
  have HB0 := Lib.hid (bstep HBX.out hbz)
  have HZ0 := Lib.hid hZ0
  have HX0 := Lib.hid hX0
  clear hbz hZ0 hX0 HT HBX
  go_wp2_with (fail)
  rw [HZ0.out, HX0.out]
  go_loopw [36] (fun iv wr => ∃ k : Nat, k ≤ 2 ∧ iv = .int .i64 k ∧ Below Z0.heap.size Z0 wr) (fun iv _ => 2 - (intOf iv).toNat)
  case atStart => exact ⟨0, Nat.zero_le _, rfl, Below.refl _ _⟩
  case round =>
    obtain ⟨W4, rfl⟩ : ∃ W4 : World, W4 = wr := ⟨_, rfl⟩
    obtain ⟨k, hk2, rfl, hbk⟩ := hrel
    have HTK := Lib.hid (HT0.out.below hbk)
    have HBK := Lib.hid hbk
    have HKB := Lib.hid (HBLK.out.below hbk)
    by_cases hk : k < 2
    · have k1 : (k : Int) < 2 := by omega
      obtain ⟨v, hv⟩ : ∃ v : Str, v = if k = 0 then s else U := ⟨_, rfl⟩
      have hvl : v.length ≤ 70 * 4 + 4096 := by
        rw [hv]
        split
        · have := HSL.out; omega
        · exact HUL.out
      have HVC := Lib.hid (show W4.cell? ⟨X0, k, none⟩ = some (.string (bs v)) by
        rcases (show k = 0 ∨ k = 1 by omega) with rfl | rfl
        · rw [hv]; exact HKB.out.cell (i := 0) rfl
        · rw [hv]; exact HKB.out.cell (i := 1) rfl)
      have HFV := Lib.hid (fun (h : asciiS s = true) => show findS l v = findS l s by
        rw [hv]
        split
        · rfl
        · exact HUA.out h)
      obtain ⟨fc, hfc⟩ : ∃ x, findC l v = x := ⟨_, rfl⟩
      obtain ⟨G, hG⟩ : ∃ x, shownP (findC l v) (findS l v) = x := ⟨_, rfl⟩
      obtain ⟨gn, hgn⟩ : ∃ x, G.length = x := ⟨_, rfl⟩
      have HFD := Lib.hid (((findP l v a n c W4 HTK.out.one (by omega)).mono fun e w' h => WordsA.shows h hfc hG hgn : Calls Tryz.prog _ _ W4 fun e w' => ShowsP e W4 w' fc gn G))
      have HFC := Lib.hid (show (if findS l v = [] then (6 : Int) else 0) = fc by
        rw [← hfc]
        unfold findC
        simp only [HIX.out, Bool.true_eq_false, if_false])
      have HGA := Lib.hid (show shownP fc (findS l v) = G by rw [← hG, hfc])
      have hv0 := HVC.out
      clear hv hfc hG hgn hbk
      go_wp2_with (fail)
      refine HFD.out.mono ?_
      rintro e W5 ⟨aG, kG, rfl, hG5, hb5⟩
      have HGS := Lib.hid hG5
      have HT5 := Lib.hid (HTK.out.below hb5)
      have HX5 := Lib.hid HT5.out.one
      have HK5 := Lib.hid (HBK.out.trans (hb5.mono HBK.out.size))
      obtain ⟨base, hbase⟩ : ∃ b, W5.heap.size = b := ⟨_, rfl⟩
      have HB5 := Lib.hid hbase
      clear hb5 hG5 hbase hv0 HFD HVC
      go_wp2_with (fail)
      go_loopw [48, 11] (fun iv ov wr => ∃ (i : Nat) (L : List Post), i ≤ n ∧ iv = .int .i64 i ∧ (OwnPs 37 W5 wr base ov L ∧ Below base W5 wr) ∧ L.length ≤ i ∧ (asciiS s = true → L = findS (l.take i) s)) (fun iv _ _ => n - (intOf iv).toNat)
      case atStart => exact ⟨0, [], Nat.zero_le _, rfl, ⟨OwnPs.nil _ _ _ _, by rw [← HB5.out]; exact Below.refl _ _⟩, Nat.le_refl _, fun _ => by simp [findS]⟩
      case round =>
        obtain ⟨wi, rfl⟩ : ∃ wi : World, wi = wr := ⟨_, rfl⟩
        obtain ⟨i, L, hile, rfl, ho, hLi, hasc⟩ := hrel
        by_cases hin : i < n
        · have HB := Lib.hid ho.2
          have HO := Lib.hid ho.1
          have HSZ := Lib.hid (show base ≤ wi.heap.size by have := ho.2.size; have := HB5.out; omega)
          obtain ⟨p, bb, off, hp, rfl, a1, k1, c0, c1, c2, hps⟩ := HX5.out.at hin
          have HTW := Lib.hid (HT5.out.mono (Nat.le_of_eq HB5.out) ho.2)
          obtain ⟨⟨wd, sc⟩, ls⟩ := p
          have HPS := Lib.hid hps
          have HWA := Lib.hid (HWD.out _ (List.mem_of_getElem? hp))
          have HASC := Lib.hid hasc
          have HTS := Lib.hid (take_snoc hp)
          simp only at c0 c1 c2 HWA
          replace c0 := Go.Ap.cell_kept (Nat.le_of_eq HB5.out) ho.2 c0
          replace c1 := Go.Ap.cell_kept (Nat.le_of_eq HB5.out) ho.2 c1
          replace c2 := Go.Ap.cell_kept (Nat.le_of_eq HB5.out) ho.2 c2
          obtain ⟨m, hm⟩ : ∃ m, ls.length = m := ⟨_, rfl⟩
          rw [hm] at c2
          have HM := Lib.hid hm
          obtain ⟨X, hX⟩ : ∃ X, wi.heap.size = X := ⟨_, rfl⟩
          obtain ⟨W1, hW1⟩ : ∃ W, wi.alloc (.cells #[.string (bs wd), .string (bs sc), .slice a1 m k1] 37) = W := ⟨_, rfl⟩
          have hb1 : Below wi.heap.size wi W1 := by rw [← hW1]; exact balloc _ _
          have HK := Lib.hid (show BlkK W1 X #[.string (bs wd), .string (bs sc), .slice a1 m k1] 37 by rw [← hW1, ← hX]; exact BlkK.new _ _ _)
          have HO1 := Lib.hid (ho.1.below hb1)
          have HB1 := Lib.hid (ho.2.trans (hb1.mono HSZ.out))
          have HTW := Lib.hid (HTW.out.below hb1)
          have HSZ1 := Lib.hid (show base ≤ W1.heap.size by have := hb1.size; have := HSZ.out; omega)
          have HC1 := Lib.hid (HPL.out wd (by have := HWA.out.1; omega) W1)
          have hc0 := HK.out.cell (i := 0) (u := .string (bs wd)) rfl
          have i1 : (i : Int) < (n : Int) := by omega
          have HPLS := Lib.hid (fun W => HPL.out s (by have := HSL.out; omega) W)
          have HEQ := Lib.hid (fun W (h : FdW l _ n W) => HEF.out wd HWA.out W h)
          obtain ⟨f1, hf1⟩ : ∃ f, plainM mkB wd = f := ⟨_, rfl⟩
          obtain ⟨f2, hf2⟩ : ∃ f, plainM mkB s = f := ⟨_, rfl⟩
          rw [hf1] at HC1
          rw [hf2] at HPLS
          rw [hf1, hf2] at HEQ
          clear hp hps hm hf1 hf2 ho hb1 hasc
          go_wp2_with (fail)
          refine HC1.out.mono ?_
          rintro e W2 ⟨rfl, hb2⟩
          have HK2 := Lib.hid (HK.out.below hb2)
          have HO2 := Lib.hid (HO1.out.below hb2)
          have HB2 := Lib.hid (HB1.out.trans (hb2.mono HSZ1.out))
          have HTW := Lib.hid (HTW.out.below hb2)
          have HSZ2 := Lib.hid (show base ≤ W2.heap.size by have := hb2.size; have := HSZ1.out; omega)
          clear hb2 hc0
          go_wp2_with (fail)
          refine (HPLS.out W2).mono ?_
          rintro e W3 ⟨rfl, hb3⟩
          have HK3 := Lib.hid (HK2.out.below hb3)
          have HO3 := Lib.hid (HO2.out.below hb3)
          have HB3 := Lib.hid (HB2.out.trans (hb3.mono HSZ2.out))
          have HTW := Lib.hid (HTW.out.below hb3)
          have HSZ3 := Lib.hid (show base ≤ W3.heap.size by have := hb3.size; have := HSZ2.out; omega)
          have HEQ3 := Lib.hid (HEQ.out W3 HTW.out)
          clear hb3
          go_wp2_with (fail)
          refine HEQ3.out.mono ?_
          rintro e W4 ⟨⟨be, rfl, hbe⟩, hb4⟩
          have HK4 := Lib.hid (HK3.out.below hb4)
          have HO4 := Lib.hid (HO3.out.below hb4)
          have HB4 := Lib.hid (HB3.out.trans (hb4.mono HSZ3.out))
          have HSZ4 := Lib.hid (show base ≤ W4.heap.size by have := hb4.size; have := HSZ3.out; omega)
          have HBE := Lib.hid hbe
          clear hb4 hbe HEQ HEQ3 HC1 HPLS
          cases be
          · have HNX := Lib.hid (fun (h : asciiS s = true) => show L = findS (l.take (i + 1)) s by
              rw [HASC.out h, HTS.out]
              unfold findS
              rw [List.filter_append]
              simp [show ¬ formS wd = formS s by have := HBE.out h; simpa using this])
            go_wp2_with (fail)
            exact ⟨⟨i + 1, L, by omega, by simp, ⟨HO4.out, HB4.out⟩, by omega, HNX.out⟩, by simp [intOf]; omega⟩
          · have HNX := Lib.hid (fun (h : asciiS s = true) => show L ++ [((wd, sc), ls)] = findS (l.take (i + 1)) s by
              rw [HASC.out h, HTS.out]
              unfold findS
              rw [List.filter_append]
              simp [show formS wd = formS s by have := HBE.out h; simpa using this])
            have k0 := HK4.out.cell (i := 0) (u := .string (bs wd)) rfl
            have k1' := HK4.out.cell (i := 1) (u := .string (bs sc)) rfl
            have k2 := HK4.out.cell (i := 2) (u := .slice a1 m k1) rfl
            obtain ⟨xs, hrow, hpush⟩ := HO4.out.ready
            have HROW := Lib.hid hrow
            have HPU := Lib.hid hpush
            have HNW := Lib.hid (show ∀ (j : Nat) (u : Value), [.string (bs wd), .string (bs sc), .slice a1 m k1][j]? = some u → (W4.alloc (.cells #[.string (bs wd), .string (bs sc), .slice a1 m k1] 37)).cell? ((⟨W4.heap.size, 0, none⟩ : Addr).add j) = some u from World.news_of_block (cs := #[.string (bs wd), .string (bs sc), .slice a1 m k1]) (heap_fresh rfl))
            have hL12 : L.length ≤ 12 := by omega
            clear hrow hpush
            go_wp2_with (at_builtin; refine wpList_append_own _ rfl _ _ 27 rfl base 37 i0 (.agg #[.string { data := #[] }, .string { data := #[] }, .slice none 0 0]) 3 56 Tryz.underlying27 hi hz0 hz1 hz2 rfl (by decide) _ _ _ rfl (HROW.out.alloc _) ⟨W4.heap.size, 0, none⟩ 1 1 [.string (bs wd), .string (bs sc), .slice a1 m k1] rfl rfl HNW.out (by simp [Value.oneCell']) (by unfold maxLen; omega) (by omega) (by have := HSZ4.out; simp; omega) ?_)
            intro v' w9 hown' hgr' _
            have HO9 := Lib.hid (show OwnPs 37 W5 w9 base v' (L ++ [((wd, sc), ls)]) from
              HPU.out w9 v' [(((wd, sc), ls), .slice a1 m k1)] _ (by simpa [piC] using hown') (by simp) (fun p hp => by
                rw [List.mem_singleton] at hp
                subst hp
                exact ⟨a1, k1, by simp only [HM.out], HPS.out⟩))
            have HB9 := Lib.hid ((HB4.out.alloc HSZ4.out _).grown hgr' (by have := HSZ4.out; simp; omega) (fun k hk => (HROW.out.lt k hk).1))
            clear hown' hgr'
            go_wp2_with (fail)
            go_roundw
            case rel => exact ⟨i + 1, L ++ [((wd, sc), ls)], by omega, by simp, ⟨HO9.out, HB9.out⟩, by rw [List.length_append, List.length_singleton]; omega, HNX.out⟩
            case measure => simp [intOf]; omega
        · have hie : i = n := by omega
          obtain ⟨a9, c9, rfl, hp9, -⟩ := OwnPs.gives (w0 := W5) ho.1 (by omega) (by rw [HB5.out]; exact ho.2)
          have HP9 := Lib.hid hp9
          have HG9 := Lib.hid (HGS.out.mono (Nat.le_of_eq HB5.out) ho.2)
          have HKX := Lib.hid (HK5.out.trans ((show Below W5.heap.size W5 wi by rw [HB5.out]; exact ho.2).mono HK5.out.size))
          have HLA := Lib.hid (fun (h : asciiS s = true) => show L = findS l s by have := hasc h; rw [hie, List.take_of_length_le (by rw [HLN.out]; exact Nat.le_refl _)] at this; exact this)
          obtain ⟨ln, hln⟩ : ∃ x, L.length = x := ⟨_, rfl⟩
          have HLE := Lib.hid hln
          rw [hln] at HP9 ⊢
          have HSM := Lib.hid (sameAny G L aG kG a9 c9 gn ln wi HG9.out HP9.out)
          have hln12 : ln ≤ 12 := by omega
          clear hp9 ho hasc hln
          by_cases has : asciiS s = true
          · have hL := HLA.out has
            have hG := HGA.out
            rw [HFV.out has, ← hL] at hG
            have hfc := HFC.out
            rw [HFV.out has, ← hL] at hfc
            have hGL : G = L := by
              rw [← hG, ← hfc]
              unfold shownP
              by_cases h0 : L = []
              · rw [if_pos h0, if_neg (by decide), h0]
              · rw [if_neg h0, if_pos rfl]
            rw [decide_eq_true hGL] at HSM
            by_cases h0 : L = []
            · rw [if_pos h0] at hfc
              have hl0 : ln = 0 := by rw [← HLE.out, h0]; rfl
              subst hl0
              subst hfc
              clear has hL hG hGL h0 HLA HFV HGA HFC HLE
              go_wp2_with (fail)
              refine HSM.out.mono ?_
              rintro e W17 ⟨rfl, hb17⟩
              have HKX := Lib.hid (HKX.out.trans (hb17.mono HKX.out.size))
              clear hb17
              go_wp2_with (fail)
              exact ⟨⟨k + 1, by omega, by simp, HKX.out⟩, by simp [intOf]; omega⟩
            · rw [if_neg h0] at hfc
              have hl0 : 0 < ln := by rw [← HLE.out]; exact List.length_pos_iff.2 h0
              have dl : decide ((0 : Int) < (ln : Int)) = true := decide_eq_true (by omega)
              subst hfc
              clear has hL hG hGL h0 HLA HFV HGA HFC HLE
              go_wp2_with (fail)
              refine HSM.out.mono ?_
              rintro e W17 ⟨rfl, hb17⟩
              have HKX := Lib.hid (HKX.out.trans (hb17.mono HKX.out.size))
              clear hb17
              go_wp2_with (fail)
              exact ⟨⟨k + 1, by omega, by simp, HKX.out⟩, by simp [intOf]; omega⟩
          · have HAS := Lib.hid (show asciiS s = false by simpa using has)
            obtain ⟨bq, hbq⟩ : ∃ x, decide (G = L) = x := ⟨_, rfl⟩
            rw [hbq] at HSM
            clear has hbq HLA HFV HGA HFC HLE
            cases bq
            · go_wp2_with (fail)
              refine HSM.out.mono ?_
              rintro e W17 ⟨rfl, hb17⟩
              have HKX := Lib.hid (HKX.out.trans (hb17.mono HKX.out.size))
              clear hb17
              have kc := fun (W : World) => Lib.run_convert_string_bytes (P := Tryz.prog) W 9 23 5 (bs s) Tryz.underlying9 Tryz.underlying23 Tryz.underlying5
              have HCV := Lib.hid (HCB.out HAS.out W17 (Lib.bytesWorld W17 5 (bs s)) rfl)
              clear HCB
              go_wp2_with (fail)
              refine (HCV.out _).mono ?_
              rintro e W18 ⟨rfl, hb18⟩
              have HKX := Lib.hid (HKX.out.trans (hb18.mono HKX.out.size))
              clear hb18
              go_wp2_with (fail)
              exact ⟨⟨k + 1, by omega, by simp, HKX.out⟩, by simp [intOf]; omega⟩
            · by_cases f0 : fc = 0
              · subst f0
                by_cases l0 : ln = 0
                · subst l0
                  go_wp2_with (fail)
                  refine HSM.out.mono ?_
                  rintro e W17 ⟨rfl, hb17⟩
                  have HKX := Lib.hid (HKX.out.trans (hb17.mono HKX.out.size))
                  clear hb17
                  have kc := fun (W : World) => Lib.run_convert_string_bytes (P := Tryz.prog) W 9 23 5 (bs s) Tryz.underlying9 Tryz.underlying23 Tryz.underlying5
                  have HCV := Lib.hid (HCB.out HAS.out W17 (Lib.bytesWorld W17 5 (bs s)) rfl)
                  clear HCB
                  go_wp2_with (fail)
                  refine (HCV.out _).mono ?_
                  rintro e W18 ⟨rfl, hb18⟩
                  have HKX := Lib.hid (HKX.out.trans (hb18.mono HKX.out.size))
                  clear hb18
                  go_wp2_with (fail)
                  exact ⟨⟨k + 1, by omega, by simp, HKX.out⟩, by simp [intOf]; omega⟩
                · have dl : decide ((0 : Int) < (ln : Int)) = true := decide_eq_true (by omega)
                  have hl0 : 0 < ln := by omega
                  go_wp2_with (fail)
                  refine HSM.out.mono ?_
                  rintro e W17 ⟨rfl, hb17⟩
                  have HKX := Lib.hid (HKX.out.trans (hb17.mono HKX.out.size))
                  clear hb17
                  go_wp2_with (fail)
                  exact ⟨⟨k + 1, by omega, by simp, HKX.out⟩, by simp [intOf]; omega⟩
              · have df : (fc == 0) = false := by rw [beq_eq_false_iff_ne]; exact f0
                by_cases l0 : ln = 0
                · subst l0
                  clear f0
                  go_wp2_with (fail)
                  refine HSM.out.mono ?_
                  rintro e W17 ⟨rfl, hb17⟩
                  have HKX := Lib.hid (HKX.out.trans (hb17.mono HKX.out.size))
                  clear hb17
                  go_wp2_with (fail)
                  exact ⟨⟨k + 1, by omega, by simp, HKX.out⟩, by simp [intOf]; omega⟩
                · have dl : decide ((0 : Int) < (ln : Int)) = true := decide_eq_true (by omega)
                  clear f0
                  go_wp2_with (fail)
                  refine HSM.out.mono ?_
                  rintro e W17 ⟨rfl, hb17⟩
                  have HKX := Lib.hid (HKX.out.trans (hb17.mono HKX.out.size))
                  clear hb17
                  have kc := fun (W : World) => Lib.run_convert_string_bytes (P := Tryz.prog) W 9 23 5 (bs s) Tryz.underlying9 Tryz.underlying23 Tryz.underlying5
                  have HCV := Lib.hid (HCB.out HAS.out W17 (Lib.bytesWorld W17 5 (bs s)) rfl)
                  clear HCB
                  go_wp2_with (fail)
                  refine (HCV.out _).mono ?_
                  rintro e W18 ⟨rfl, hb18⟩
                  have HKX := Lib.hid (HKX.out.trans (hb18.mono HKX.out.size))
                  clear hb18
                  go_wp2_with (fail)
                  exact ⟨⟨k + 1, by omega, by simp, HKX.out⟩, by simp [intOf]; omega⟩
    · have hke : k = 2 := by omega
      subst hke
      have HT := Lib.hid HTK.out
      have HBX := Lib.hid (HB0.out.trans (HBK.out.mono HB0.out.size))
      clear hbk
      go_wp2_with (fail)
      refine (HA.out _ HT.out).mono ?_
      rintro e W9 ⟨rfl, hb9⟩
      have HBX := Lib.hid (bstep HBX.out hb9)
      clear hb9
      go_wp2_with (fail)
      go_ret
      exact ⟨rfl, HBX.out⟩
theorem law7r (a : Option Addr) (n c : Nat) (l : List Post) (s : Str) (w : World) (h : Posts w a n l ∧ n ≤ c) (_ : s.length ≤ 281474976710656) (ht : ET w) (hft : FT w) (hut : UT w) (hcv : CV w) :
    Calls Tryz.prog 7 #[.slice a n c, .string (bs s)] w fun e w' => e = .returned (.bool true) ∧ Below w.heap.size w w' := law7 a n c l s w h.1 ht hft hut hcv
end Go.Proofs.YtngdmpkoedpgdaaGreatDoor
