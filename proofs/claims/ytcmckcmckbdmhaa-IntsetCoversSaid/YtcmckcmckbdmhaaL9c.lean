import Derived.Test.YtcmckcmckbdmhaaL9b
namespace Go.Proofs.Ytcmckcmckbdmhaa
open Go.RowKit Go.Ap Go.Shelf

theorem fine_one (a : Option Addr) (n c : Nat) (xs : List Int) (w : World) (hx : Ints w a n xs) :
    Calls Try.prog 11 #[.slice (some ⟨w.heap.size, 0, none⟩) 1 1] (w.alloc (.cells #[.slice a n c] 22)) fun e w' => e = .returned (.bool (!bad1 xs)) ∧ Below w.heap.size w w' := by
  refine (fine11 _ 1 1 [xs] _ (rows_new (w := w) (c := #[.slice a n c]) (t := 22) [xs] rfl ⟨⟨_, _, _, rfl, hx⟩, trivial⟩ rfl (by omega))).mono ?_
  rintro e w' ⟨rfl, q, rfl⟩
  exact ⟨by simp, bstep (balloc _ _) (bdrewN _ _)⟩

/-- what the program's cover comes to in the law's round -/
def roundOK (t : List Int) (xss : List (List Int)) (o : Option (List Int)) (L : List Int) : Prop :=
  covF t xss L [] = true → ∃ l, o = some l ∧ l.length ≤ L.length ∧ (l.length = L.length → lessL L l = false)

theorem round_ok {t : List Int} {xss : List (List Int)} {o : Option (List Int)} (h : Least t xss o) (L : List Int) (hL : IdxL xss.length L) : roundOK t xss o L := by
  intro hc
  have hc := (covF_cov t xss L).1 hc
  cases o with
  | none => exact absurd hc (h L hL)
  | some l =>
    refine ⟨l, rfl, ?_⟩
    rcases h.2.2 L hL hc with h1 | ⟨h1, h2⟩
    · exact ⟨by omega, fun h => by omega⟩
    · refine ⟨by omega, fun _ => ?_⟩
      rcases h2 with rfl | h2
      · exact lessL_irr l
      · cases hh : lessL L l
        · rfl
        · have := lessL_trans l L l h2 hh
          rw [lessL_irr] at this; cases this

set_option maxRecDepth 100000 in
set_option maxHeartbeats 4000000 in
theorem law9_some (a b : Option Addr) (n m c d : Nat) (t : List Int) (xss : List (List Int)) (z : Int) (w : World) (ht : Ints w a n t) (hx : Rows2 w b m xss) (hz : 0 ≤ z ∧ z ≤ 255)
    (hm : m ≤ 7) (hg : greatL xss = false) (h1 : bad1 t = false) (h2 : xss.any bad1 = false) (l : List Int) (ho : coverO t xss = some l) :
    Calls Try.prog 9 #[.slice a n c, .slice b m d, .int .u8 z] w fun e w' => e = .returned (.bool true) ∧ Below w.heap.size w w' := by
  obtain ⟨i0, hi, hz0, hz1, hz2⟩ := info_parts info3
  have HT := Lib.hid ht
  have HX := Lib.hid hx
  have HXL := Lib.hid hx.len
  have st : SetL t := (bad1_no h1).2
  have sx : ∀ xs ∈ xss, SetL xs := fun xs hxs => (bad1_no (by have := List.any_eq_false.1 h2 xs hxs; simpa using this)).2
  have s12 : ∀ xs ∈ xss, xs.length ≤ 12 := fun xs hxs => (bad1_no (by have := List.any_eq_false.1 h2 xs hxs; simpa using this)).1
  have S12 := Lib.hid s12
  have LS := Lib.hid (ho ▸ cover_least st sx (by rw [hx.len]; omega) : Least t xss (some l))
  have hcb : coverB t xss = false := by
    rw [coverB, chk_setL st]
    simp only [bne_self_eq_false, Bool.false_or]
    rw [List.any_eq_false]
    intro xs hxs
    simpa using chk_setL (sx xs hxs)
  have hR : coverR t xss = l := by rw [coverR, if_neg (by rw [hx.len]; omega), hcb, if_neg (by simp), ho]; rfl
  have hE : coverE t xss = 0 := by rw [coverE, if_neg (by rw [hx.len]; omega), hcb, if_neg (by simp), ho]; rfl
  have HRE := Lib.hid (And.intro hR hE)
  have HG := Lib.hid hg
  have HB1 := Lib.hid h1
  have HB2 := Lib.hid h2
  have hz0' := hz.1
  have hz1' := hz.2
  have d7 : decide (7 < (m : Int)) = false := by simp; omega
  clear ht hx st sx s12 hcb hR hE hg h1 h2 ho hz
  have hba := (balloc w (.cells #[.slice a n c] 22)).trans ((balloc (w.alloc (.cells #[.slice a n c] 22)) (.cells #[.slice b m d] 34)).mono (by simp))
  have k1 : ((w.alloc (.cells #[.slice a n c] 22)).alloc (.cells #[.slice b m d] 34)).cell? ⟨w.heap.size, 0, none⟩ = some (.slice a n c) := ((balloc (w.alloc (.cells #[.slice a n c] 22)) (.cells #[.slice b m d] 34)).cell (p := ⟨w.heap.size, 0, none⟩) (by simp)).trans (cell_fresh rfl rfl)
  have k2 : ((w.alloc (.cells #[.slice a n c] 22)).alloc (.cells #[.slice b m d] 34)).cell? ⟨w.heap.size + 1, 0, none⟩ = some (.slice b m d) := cell_fresh (by simp) rfl
  have K1 := Lib.hid k1
  have K2 := Lib.hid k2
  have HBA := Lib.hid hba
  have hsB : w.heap.size + 1 < ((w.alloc (.cells #[.slice a n c] 22)).alloc (.cells #[.slice b m d] 34)).heap.size := by simp
  clear k1 k2 hba
  go_enter Try.func9, Try.ntmps9
  go_wp2_with (fail)
  generalize (w.alloc (.cells #[.slice a n c] 22)).alloc (.cells #[.slice b m d] 34) = W0 at *
  have H21 := great21 b m d xss W0 (HX.out.mono (Nat.le_refl _) HBA.out)
  rw [HG.out] at H21
  have c1 := K1.out
  have c2 := K2.out
  refine H21.mono ?_
  clear H21
  rintro e w' ⟨rfl, rfl⟩
  go_wp2_with (fail)
  have H11 := fine_one a n c t W0 (HT.out.mono (Nat.le_refl _) HBA.out)
  rw [HB1.out] at H11
  refine H11.mono ?_
  clear H11
  rintro e w1 ⟨rfl, k1⟩
  have c1' := (k1.cell (p := ⟨w.heap.size, 0, none⟩) (show w.heap.size < W0.heap.size by omega)).trans c1
  have c2' := (k1.cell (p := ⟨w.heap.size + 1, 0, none⟩) hsB).trans c2
  have HBA1 := Lib.hid (HBA.out.trans (k1.mono HBA.out.size))
  have hsB1 : w.heap.size + 1 < w1.heap.size := Nat.lt_of_lt_of_le hsB k1.size
  clear k1 K1 K2 hsB c1 c2
  go_wp2_with (fail)
  have H11 := fine11 b m d xss w1 (HX.out.mono (Nat.le_refl _) HBA1.out)
  rw [HB2.out] at H11
  refine H11.mono ?_
  clear H11
  rintro e w' ⟨rfl, q, rfl⟩
  have HBA2 := Lib.hid (HBA1.out.trans ((bdrewN w1 q).mono HBA1.out.size))
  go_wp2_with (fail)
  have H26 := cover26 a b n m c d t xss (w1.drewN q) (HT.out.mono (Nat.le_refl _) HBA2.out) (HX.out.mono (Nat.le_refl _) HBA2.out)
  rw [HRE.out.1, HRE.out.2] at H26
  refine H26.mono ?_
  clear H26
  rintro e w2 ⟨al, nl, cl, rfl, hil, k2⟩
  have c1 := (k2.cell (p := ⟨w.heap.size, 0, none⟩) (show w.heap.size < w1.heap.size by omega)).trans c1'
  have c2 := (k2.cell (p := ⟨w.heap.size + 1, 0, none⟩) hsB1).trans c2'
  have HBA3 := Lib.hid (HBA2.out.trans (k2.mono HBA2.out.size))
  have hsB2 : w.heap.size + 1 < w2.heap.size := Nat.lt_of_lt_of_le hsB1 k2.size
  have HIL := Lib.hid hil
  have HLN := Lib.hid hil.len
  have hlm : nl ≤ m := by rw [← hil.len, ← HXL.out]; exact idx_len (by rw [HXL.out]; omega) LS.out.2.1
  clear c1' c2' hsB1 hil k2
  go_wp2_with (fail)
  have H32 := contf32 (fun x => decide (x < 0) || decide ((m : Int) ≤ x)) al nl cl l 35 #[.pointer (some ⟨w.heap.size + 1, 0, none⟩)] w2 HIL.out (enters_of Try.func35 (by kernel_rfl) rfl) (by
    rintro q x v hx ⟨rfl, _⟩
    exact (out35 (w.heap.size + 1) b m d x (w2.drewN q) c2).mono (by rintro e w' ⟨rfl, rfl⟩; exact ⟨rfl, 0, rfl⟩))
  rw [show (l.any fun x => decide (x < 0) || decide ((m : Int) ≤ x)) = false by
    rw [List.any_eq_false]
    intro x hx
    have := LS.out.2.1.2 x hx
    rw [HXL.out] at this
    simp; omega] at H32
  refine H32.mono ?_
  clear H32
  rintro e w' ⟨rfl, q2, rfl⟩
  go_wp2_with (fail)
  have IDX := Lib.hid (show IdxL m l by have := LS.out.2.1; rwa [HXL.out] at this)
  have HBA4 := Lib.hid (HBA3.out.trans ((bdrewN w2 q2).mono HBA3.out.size))
  have H31 := covers31 a b al n m nl c d cl (w.heap.size + 1) w.heap.size t xss l (w2.drewN q2) c1 c2 (HT.out.mono (Nat.le_refl _) HBA4.out) (HX.out.mono (Nat.le_refl _) HBA4.out) HIL.out.drewN IDX.out (by omega) S12.out
  rw [(covF_cov t xss l).2 LS.out.1] at H31
  refine H31.mono ?_
  clear H31
  rintro e w3 ⟨rfl, k3⟩
  have HIL3 := Lib.hid (HIL.out.drewN.mono (Nat.le_refl _) k3)
  have c1' := (k3.cell (p := ⟨w.heap.size, 0, none⟩) (show w.heap.size < w2.heap.size by omega)).trans c1
  have c2' := (k3.cell (p := ⟨w.heap.size + 1, 0, none⟩) hsB2).trans c2
  have HBA5 := Lib.hid (HBA4.out.trans (k3.mono HBA4.out.size))
  have hsB3 : w.heap.size + 1 < w3.heap.size := Nat.lt_of_lt_of_le hsB2 k3.size
  clear c1 c2 hsB2 k3 HIL
  go_wp2_with (fail)
  have H28 := check_any al nl cl l w3 HIL3.out
  rw [chk_setL (idx_setL (by omega) IDX.out)] at H28
  refine H28.mono ?_
  clear H28
  rintro e w6 ⟨rfl, rfl⟩
  go_wp2_with (fail)
  obtain ⟨w6, rfl⟩ : ∃ w6, w6 = w3 := ⟨_, rfl⟩
  have C1 := Lib.hid c1'
  have C2 := Lib.hid c2'
  have HBA6 := HBA5
  have HIL6 := HIL3
  have hsB6 := hsB3
  clear c1' c2' hsB3 HIL3 HBA5
  have hsmB := HIL6.out.small
  have c2 := C2.out
  obtain ⟨M, hM⟩ : ∃ M : Nat, 2 ^ m = M := ⟨_, rfl⟩
  have hM2 : M ≤ 128 := by rw [← hM]; exact Nat.pow_le_pow_right (by omega) hm
  have hM1 : 0 < M := by rw [← hM]; exact Nat.two_pow_pos m
  have hsh : wrap64 (2 ^ m) = (M : Int) := by
    have hp : ((2 : Int) ^ m) = ((2 ^ m : Nat) : Int) := by simp
    rw [hp, hM]
    exact IntWalk.wrap64_in _ ⟨by omega, by omega⟩
  obtain ⟨R, hR⟩ : ∃ R : Nat, z % (M : Int) = R := ⟨(z % (M : Int)).toNat, by have := Int.emod_nonneg z (show (M : Int) ≠ 0 by omega); omega⟩
  clear hM
  go_loopw [69] (fun iv wr => ∃ ch : Nat, ch ≤ M ∧ iv = .int .i64 ch ∧ Below w6.heap.size w6 wr) (fun iv _ => M - (intOf iv).toNat)
  case atStart => exact ⟨0, by omega, rfl, Below.refl _ _⟩
  case round =>
    obtain ⟨ch, hch, rfl, hb⟩ := hrel
    have HB := Lib.hid hb
    have hs6 := hb.size
    have hcr := (hb.cell (p := ⟨w.heap.size + 1, 0, none⟩) hsB6).trans c2
    clear hb
    by_cases hlt : ch < M
    · by_cases hq : ch = R
      · subst hq
        go_wp2_with (fail)
        clear hsh hR
        obtain ⟨wo, rfl⟩ : ∃ wo, wo = wr := ⟨_, rfl⟩
        go_loopw [11, 87] (fun v iv wi => ∃ j : Nat, j ≤ m ∧ iv = .int .i64 j ∧ Own wi wo.heap.size v (memb (fun i => ch.testBit i.toNat) j) ∧ Below wo.heap.size wo wi) (fun _ iv _ => m - (intOf iv).toNat)
        case atStart => exact ⟨0, by omega, rfl, World.ownsRow_nil _ _ _ _, Below.refl _ _⟩
        case round =>
          obtain ⟨j, hj, rfl, ho, hbi⟩ := hrel
          have HO := Lib.hid ho
          have HBI := Lib.hid hbi
          clear ho hbi
          have hsz := HBI.out.size
          have hml := memb_len (fun i => ch.testBit i.toNat) j
          by_cases hjm : j < m
          · have hbit := bit_i64 ch j (by omega)
            cases hbv : ch.testBit j
            · rw [hbv] at hbit
              have HMB := Lib.hid (memb_no (p := fun i => ch.testBit i.toNat) (k := j) (by simpa using hbv))
              clear hbv
              go_wp2_with (fail)
              exact ⟨⟨j + 1, by omega, by go_num, by rw [HMB.out]; exact HO.out, HBI.out⟩, by simp [intOf]; omega⟩
            · rw [hbv] at hbit
              have HMB := Lib.hid (memb_yes (p := fun i => ch.testBit i.toNat) (k := j) (by simpa using hbv))
              clear hbv
              go_wp2_with (at_builtin; refine wpList_append_own _ rfl _ _ 22 rfl wo.heap.size 3 i0 (.int .i64 0) 1 8 Try.underlying22 hi hz0 hz1 hz2 rfl (by decide) _ _ _ rfl (HO.out.alloc _) ⟨wr.heap.size, 0, none⟩ 1 1 [.int .i64 j] rfl rfl (cell_one_new _ _ _) (by simp [Value.oneCell']) (by unfold maxLen; omega) (by omega) (by simp; omega) ?_; intro v1 w1 hown1 hgrow1 _; have HO2 := Lib.hid hown1; have HG := Lib.hid hgrow1; clear hown1 hgrow1)
              exact ⟨⟨j + 1, by omega, by go_num, by rw [HMB.out]; exact own_snoc HO2.out, own_grown HBI.out hsz HO.out HG.out⟩, by simp [intOf]; omega⟩
          · have hjm2 : j = m := by omega
            rw [hjm2] at HO hml
            have f1 := memb_i64 (fun i => ch.testBit i.toNat) m (by omega)
            have f3 := memb_idx (fun i => ch.testBit i.toNat) m
            generalize memb (fun i => ch.testBit i.toNat) m = L at HO f1 f3 hml
            obtain ⟨aL, cL, rfl, hI⟩ := ints_of_owns HO.out f1 (by omega)
            generalize hLl : L.length = nL at hI hml
            have IL := Lib.hid hI
            have IDL := Lib.hid f3
            have HLL := Lib.hid hLl
            have HB1 := Lib.hid (HB.out.trans (HBI.out.mono HB.out.size))
            have HBW := Lib.hid (HBA6.out.trans (HB1.out.mono HBA6.out.size))
            have D1 := (HB1.out.cell (p := ⟨w.heap.size, 0, none⟩) (show w.heap.size < w6.heap.size by omega)).trans C1.out
            have D2 := (HB1.out.cell (p := ⟨w.heap.size + 1, 0, none⟩) hsB6).trans C2.out
            have HIL1 := Lib.hid (HIL6.out.mono (Nat.le_refl _) HB1.out)
            have H31 := covers31 a b aL n m nL c d cL (w.heap.size + 1) w.heap.size t xss L wr D1 D2 (HT.out.mono (Nat.le_refl _) HBW.out) (HX.out.mono (Nat.le_refl _) HBW.out) hI f3 (by omega) S12.out
            have ROK := Lib.hid (round_ok LS.out L (by rw [HXL.out]; exact f3))
            clear hI f1 f3 hLl HBI HO D1 D2 hcr hjm2 c2
            cases hr : covF t xss L []
            · rw [hr] at H31
              clear hr
              have H31 := Lib.hid H31
              go_wp2_with (fail)
              refine (H31.out).mono ?_
              rintro e w7 ⟨rfl, k7⟩
              have K7 := Lib.hid (HB1.out.trans (k7.mono HB1.out.size))
              clear k7
              go_wp2_with (fail)
              exact ⟨⟨ch + 1, by omega, by go_num, K7.out⟩, by simp [intOf]; omega⟩
            · rw [hr] at H31
              have H31 := Lib.hid H31
              obtain ⟨l0, hl0, hle, hleq⟩ := ROK.out hr
              cases hl0
              rw [HLN.out, HLL.out] at hle hleq
              clear hr
              by_cases hll : nl = nL
              · have hcm := cmpL_neg L l
                rw [hleq hll] at hcm
                have CM := Lib.hid hcm
                subst hll
                clear hcm hleq
                go_wp2_with (fail)
                refine (H31.out).mono ?_
                rintro e w7 ⟨rfl, k7⟩
                have K7 := Lib.hid (HB1.out.trans (k7.mono HB1.out.size))
                have H36 := Lib.hid (compare36 aL al nl cL cl L l w7 (IL.out.mono (Nat.le_refl _) k7) (HIL1.out.mono (Nat.le_refl _) k7))
                clear k7
                have hcm := CM.out
                generalize cmpL L l = cv at hcm H36
                go_wp2_with (fail)
                refine (H36.out).mono ?_
                rintro e w' ⟨rfl, rfl⟩
                go_wp2_with (fail)
                exact ⟨⟨ch + 1, by omega, by go_num, K7.out⟩, by simp [intOf]; omega⟩
              · have e1 : decide (nL < nl) = false := by simp; omega
                have e1' : decide ((nL : Int) < (nl : Int)) = false := by simp; omega
                have e2 : (nL == nl) = false := by simpa using Ne.symm hll
                have e2' : ((nL : Int) == (nl : Int)) = false := by rw [beq_eq_false_iff_ne]; omega
                clear hleq
                go_wp2_with (fail)
                refine (H31.out).mono ?_
                rintro e w7 ⟨rfl, k7⟩
                have K7 := Lib.hid (HB1.out.trans (k7.mono HB1.out.size))
                clear k7
                go_wp2_with (fail)
                exact ⟨⟨ch + 1, by omega, by go_num, K7.out⟩, by simp [intOf]; omega⟩
      · have e5 : ((ch : Int) == (R : Int)) = false := by rw [beq_eq_false_iff_ne]; omega
        have e6 : (ch == R) = false := by simpa using hq
        have e7 : ((ch : Int) != (R : Int)) = true := by rw [bne, e5]; rfl
        by_cases h4 : 4 < m
        · have d4 : decide (4 < m) = true := by simpa using h4
          go_wp2_with (fail)
          first
            | exact ⟨⟨ch + 1, by omega, by go_num, HB.out⟩, by simp [intOf]; omega⟩
            | (go_roundw
               case rel => exact ⟨ch + 1, by omega, by go_num, HB.out⟩
               case measure => simp [intOf]; omega)
        · have d4 : decide (4 < m) = false := by simpa using h4
          go_wp2_with (fail)
          clear e5 e6 e7 d4
          clear hsh hR
          obtain ⟨wo, rfl⟩ : ∃ wo, wo = wr := ⟨_, rfl⟩
          go_loopw [11, 87] (fun v iv wi => ∃ j : Nat, j ≤ m ∧ iv = .int .i64 j ∧ Own wi wo.heap.size v (memb (fun i => ch.testBit i.toNat) j) ∧ Below wo.heap.size wo wi) (fun _ iv _ => m - (intOf iv).toNat)
          case atStart => exact ⟨0, by omega, rfl, World.ownsRow_nil _ _ _ _, Below.refl _ _⟩
          case round =>
            obtain ⟨j, hj, rfl, ho, hbi⟩ := hrel
            have HO := Lib.hid ho
            have HBI := Lib.hid hbi
            clear ho hbi
            have hsz := HBI.out.size
            have hml := memb_len (fun i => ch.testBit i.toNat) j
            by_cases hjm : j < m
            · have hbit := bit_i64 ch j (by omega)
              cases hbv : ch.testBit j
              · rw [hbv] at hbit
                have HMB := Lib.hid (memb_no (p := fun i => ch.testBit i.toNat) (k := j) (by simpa using hbv))
                clear hbv
                go_wp2_with (fail)
                exact ⟨⟨j + 1, by omega, by go_num, by rw [HMB.out]; exact HO.out, HBI.out⟩, by simp [intOf]; omega⟩
              · rw [hbv] at hbit
                have HMB := Lib.hid (memb_yes (p := fun i => ch.testBit i.toNat) (k := j) (by simpa using hbv))
                clear hbv
                go_wp2_with (at_builtin; refine wpList_append_own _ rfl _ _ 22 rfl wo.heap.size 3 i0 (.int .i64 0) 1 8 Try.underlying22 hi hz0 hz1 hz2 rfl (by decide) _ _ _ rfl (HO.out.alloc _) ⟨wr.heap.size, 0, none⟩ 1 1 [.int .i64 j] rfl rfl (cell_one_new _ _ _) (by simp [Value.oneCell']) (by unfold maxLen; omega) (by omega) (by simp; omega) ?_; intro v1 w1 hown1 hgrow1 _; have HO2 := Lib.hid hown1; have HG := Lib.hid hgrow1; clear hown1 hgrow1)
                exact ⟨⟨j + 1, by omega, by go_num, by rw [HMB.out]; exact own_snoc HO2.out, own_grown HBI.out hsz HO.out HG.out⟩, by simp [intOf]; omega⟩
            · have hjm2 : j = m := by omega
              rw [hjm2] at HO hml
              have f1 := memb_i64 (fun i => ch.testBit i.toNat) m (by omega)
              have f3 := memb_idx (fun i => ch.testBit i.toNat) m
              generalize memb (fun i => ch.testBit i.toNat) m = L at HO f1 f3 hml
              obtain ⟨aL, cL, rfl, hI⟩ := ints_of_owns HO.out f1 (by omega)
              generalize hLl : L.length = nL at hI hml
              have IL := Lib.hid hI
              have IDL := Lib.hid f3
              have HLL := Lib.hid hLl
              have HB1 := Lib.hid (HB.out.trans (HBI.out.mono HB.out.size))
              have HBW := Lib.hid (HBA6.out.trans (HB1.out.mono HBA6.out.size))
              have D1 := (HB1.out.cell (p := ⟨w.heap.size, 0, none⟩) (show w.heap.size < w6.heap.size by omega)).trans C1.out
              have D2 := (HB1.out.cell (p := ⟨w.heap.size + 1, 0, none⟩) hsB6).trans C2.out
              have HIL1 := Lib.hid (HIL6.out.mono (Nat.le_refl _) HB1.out)
              have H31 := covers31 a b aL n m nL c d cL (w.heap.size + 1) w.heap.size t xss L wr D1 D2 (HT.out.mono (Nat.le_refl _) HBW.out) (HX.out.mono (Nat.le_refl _) HBW.out) hI f3 (by omega) S12.out
              have ROK := Lib.hid (round_ok LS.out L (by rw [HXL.out]; exact f3))
              clear hI f1 f3 hLl HBI HO D1 D2 hcr hjm2 c2
              cases hr : covF t xss L []
              · rw [hr] at H31
                clear hr
                have H31 := Lib.hid H31
                go_wp2_with (fail)
                refine (H31.out).mono ?_
                rintro e w7 ⟨rfl, k7⟩
                have K7 := Lib.hid (HB1.out.trans (k7.mono HB1.out.size))
                clear k7
                go_wp2_with (fail)
                exact ⟨⟨ch + 1, by omega, by go_num, K7.out⟩, by simp [intOf]; omega⟩
              · rw [hr] at H31
                have H31 := Lib.hid H31
                obtain ⟨l0, hl0, hle, hleq⟩ := ROK.out hr
                cases hl0
                rw [HLN.out, HLL.out] at hle hleq
                clear hr
                by_cases hll : nl = nL
                · have hcm := cmpL_neg L l
                  rw [hleq hll] at hcm
                  have CM := Lib.hid hcm
                  subst hll
                  clear hcm hleq
                  go_wp2_with (fail)
                  refine (H31.out).mono ?_
                  rintro e w7 ⟨rfl, k7⟩
                  have K7 := Lib.hid (HB1.out.trans (k7.mono HB1.out.size))
                  have H36 := Lib.hid (compare36 aL al nl cL cl L l w7 (IL.out.mono (Nat.le_refl _) k7) (HIL1.out.mono (Nat.le_refl _) k7))
                  clear k7
                  have hcm := CM.out
                  generalize cmpL L l = cv at hcm H36
                  go_wp2_with (fail)
                  refine (H36.out).mono ?_
                  rintro e w' ⟨rfl, rfl⟩
                  go_wp2_with (fail)
                  exact ⟨⟨ch + 1, by omega, by go_num, K7.out⟩, by simp [intOf]; omega⟩
                · have e1 : decide (nL < nl) = false := by simp; omega
                  have e1' : decide ((nL : Int) < (nl : Int)) = false := by simp; omega
                  have e2 : (nL == nl) = false := by simpa using Ne.symm hll
                  have e2' : ((nL : Int) == (nl : Int)) = false := by rw [beq_eq_false_iff_ne]; omega
                  clear hleq
                  go_wp2_with (fail)
                  refine (H31.out).mono ?_
                  rintro e w7 ⟨rfl, k7⟩
                  have K7 := Lib.hid (HB1.out.trans (k7.mono HB1.out.size))
                  clear k7
                  go_wp2_with (fail)
                  exact ⟨⟨ch + 1, by omega, by go_num, K7.out⟩, by simp [intOf]; omega⟩
    · obtain rfl : ch = M := by omega
      go_wp2_with (fail)
      refine (awake12 _).mono ?_
      rintro e w8 ⟨rfl, k8⟩
      go_wp2_with (fail)
      go_ret
      exact ⟨rfl, HBA6.out.trans ((bstep HB.out k8).mono HBA6.out.size)⟩

set_option maxRecDepth 100000 in
set_option maxHeartbeats 4000000 in
theorem law9_none (a b : Option Addr) (n m c d : Nat) (t : List Int) (xss : List (List Int)) (z : Int) (w : World) (ht : Ints w a n t) (hx : Rows2 w b m xss) (hz : 0 ≤ z ∧ z ≤ 255)
    (hm : m ≤ 7) (hg : greatL xss = false) (h1 : bad1 t = false) (h2 : xss.any bad1 = false) (ho : coverO t xss = none) :
    Calls Try.prog 9 #[.slice a n c, .slice b m d, .int .u8 z] w fun e w' => e = .returned (.bool true) ∧ Below w.heap.size w w' := by
  obtain ⟨i0, hi, hz0, hz1, hz2⟩ := info_parts info3
  have HT := Lib.hid ht
  have HX := Lib.hid hx
  have HXL := Lib.hid hx.len
  have st : SetL t := (bad1_no h1).2
  have sx : ∀ xs ∈ xss, SetL xs := fun xs hxs => (bad1_no (by have := List.any_eq_false.1 h2 xs hxs; simpa using this)).2
  have s12 : ∀ xs ∈ xss, xs.length ≤ 12 := fun xs hxs => (bad1_no (by have := List.any_eq_false.1 h2 xs hxs; simpa using this)).1
  have S12 := Lib.hid s12
  have LS := Lib.hid (ho ▸ cover_least st sx (by rw [hx.len]; omega) : Least t xss none)
  have hcb : coverB t xss = false := by
    rw [coverB, chk_setL st]
    simp only [bne_self_eq_false, Bool.false_or]
    rw [List.any_eq_false]
    intro xs hxs
    simpa using chk_setL (sx xs hxs)
  have hR : coverR t xss = [] := by rw [coverR, if_neg (by rw [hx.len]; omega), hcb, if_neg (by simp), ho]; rfl
  have hE : coverE t xss = 6 := by rw [coverE, if_neg (by rw [hx.len]; omega), hcb, if_neg (by simp), ho]; rfl
  have HRE := Lib.hid (And.intro hR hE)
  have HG := Lib.hid hg
  have HB1 := Lib.hid h1
  have HB2 := Lib.hid h2
  have hz0' := hz.1
  have hz1' := hz.2
  have d7 : decide (7 < (m : Int)) = false := by simp; omega
  clear ht hx st sx s12 hcb hR hE hg h1 h2 ho hz
  have hba := (balloc w (.cells #[.slice a n c] 22)).trans ((balloc (w.alloc (.cells #[.slice a n c] 22)) (.cells #[.slice b m d] 34)).mono (by simp))
  have k1 : ((w.alloc (.cells #[.slice a n c] 22)).alloc (.cells #[.slice b m d] 34)).cell? ⟨w.heap.size, 0, none⟩ = some (.slice a n c) := ((balloc (w.alloc (.cells #[.slice a n c] 22)) (.cells #[.slice b m d] 34)).cell (p := ⟨w.heap.size, 0, none⟩) (by simp)).trans (cell_fresh rfl rfl)
  have k2 : ((w.alloc (.cells #[.slice a n c] 22)).alloc (.cells #[.slice b m d] 34)).cell? ⟨w.heap.size + 1, 0, none⟩ = some (.slice b m d) := cell_fresh (by simp) rfl
  have K1 := Lib.hid k1
  have K2 := Lib.hid k2
  have HBA := Lib.hid hba
  have hsB : w.heap.size + 1 < ((w.alloc (.cells #[.slice a n c] 22)).alloc (.cells #[.slice b m d] 34)).heap.size := by simp
  clear k1 k2 hba
  go_enter Try.func9, Try.ntmps9
  go_wp2_with (fail)
  generalize (w.alloc (.cells #[.slice a n c] 22)).alloc (.cells #[.slice b m d] 34) = W0 at *
  have H21 := great21 b m d xss W0 (HX.out.mono (Nat.le_refl _) HBA.out)
  rw [HG.out] at H21
  have c1 := K1.out
  have c2 := K2.out
  refine H21.mono ?_
  clear H21
  rintro e w' ⟨rfl, rfl⟩
  go_wp2_with (fail)
  have H11 := fine_one a n c t W0 (HT.out.mono (Nat.le_refl _) HBA.out)
  rw [HB1.out] at H11
  refine H11.mono ?_
  clear H11
  rintro e w1 ⟨rfl, k1⟩
  have c1' := (k1.cell (p := ⟨w.heap.size, 0, none⟩) (show w.heap.size < W0.heap.size by omega)).trans c1
  have c2' := (k1.cell (p := ⟨w.heap.size + 1, 0, none⟩) hsB).trans c2
  have HBA1 := Lib.hid (HBA.out.trans (k1.mono HBA.out.size))
  have hsB1 : w.heap.size + 1 < w1.heap.size := Nat.lt_of_lt_of_le hsB k1.size
  clear k1 K1 K2 hsB c1 c2
  go_wp2_with (fail)
  have H11 := fine11 b m d xss w1 (HX.out.mono (Nat.le_refl _) HBA1.out)
  rw [HB2.out] at H11
  refine H11.mono ?_
  clear H11
  rintro e w' ⟨rfl, q, rfl⟩
  have HBA2 := Lib.hid (HBA1.out.trans ((bdrewN w1 q).mono HBA1.out.size))
  go_wp2_with (fail)
  have H26 := cover26 a b n m c d t xss (w1.drewN q) (HT.out.mono (Nat.le_refl _) HBA2.out) (HX.out.mono (Nat.le_refl _) HBA2.out)
  rw [HRE.out.1, HRE.out.2] at H26
  refine H26.mono ?_
  clear H26
  rintro e w2 ⟨al, nl, cl, rfl, hil, k2⟩
  have c1 := (k2.cell (p := ⟨w.heap.size, 0, none⟩) (show w.heap.size < w1.heap.size by omega)).trans c1'
  have c2 := (k2.cell (p := ⟨w.heap.size + 1, 0, none⟩) hsB1).trans c2'
  have HBA3 := Lib.hid (HBA2.out.trans (k2.mono HBA2.out.size))
  have hsB2 : w.heap.size + 1 < w2.heap.size := Nat.lt_of_lt_of_le hsB1 k2.size
  have HIL := Lib.hid hil
  have HLN := Lib.hid hil.len
  obtain rfl : nl = 0 := by simpa using HLN.out.symm
  clear c1' c2' hsB1 hil k2
  go_wp2_with (fail)
  have H32 := contf32 (fun x => decide (x < 0) || decide ((m : Int) ≤ x)) al 0 cl [] 35 #[.pointer (some ⟨w.heap.size + 1, 0, none⟩)] w2 HIL.out (enters_of Try.func35 (by kernel_rfl) rfl) (by
    rintro q x v hx ⟨rfl, _⟩
    exact (out35 (w.heap.size + 1) b m d x (w2.drewN q) c2).mono (by rintro e w' ⟨rfl, rfl⟩; exact ⟨rfl, 0, rfl⟩))
  rw [List.any_nil] at H32
  refine H32.mono ?_
  clear H32
  rintro e w' ⟨rfl, q2, rfl⟩
  go_wp2_with (fail)
  have HBA6 := Lib.hid (HBA3.out.trans ((bdrewN w2 q2).mono HBA3.out.size))
  have HIL6 := Lib.hid (HIL.out.drewN (q := q2))
  have C1 := Lib.hid (show (w2.drewN q2).cell? ⟨w.heap.size, 0, none⟩ = some (.slice a n c) from c1)
  have C2 := Lib.hid (show (w2.drewN q2).cell? ⟨w.heap.size + 1, 0, none⟩ = some (.slice b m d) from c2)
  have hsB6 : w.heap.size + 1 < (w2.drewN q2).heap.size := hsB2
  generalize w2.drewN q2 = w6 at *
  clear c1 c2 hsB2 HIL HBA3
  have hsmB := HIL6.out.small
  have c2 := C2.out
  obtain ⟨M, hM⟩ : ∃ M : Nat, 2 ^ m = M := ⟨_, rfl⟩
  have hM2 : M ≤ 128 := by rw [← hM]; exact Nat.pow_le_pow_right (by omega) hm
  have hM1 : 0 < M := by rw [← hM]; exact Nat.two_pow_pos m
  have hsh : wrap64 (2 ^ m) = (M : Int) := by
    have hp : ((2 : Int) ^ m) = ((2 ^ m : Nat) : Int) := by simp
    rw [hp, hM]
    exact IntWalk.wrap64_in _ ⟨by omega, by omega⟩
  obtain ⟨R, hR⟩ : ∃ R : Nat, z % (M : Int) = R := ⟨(z % (M : Int)).toNat, by have := Int.emod_nonneg z (show (M : Int) ≠ 0 by omega); omega⟩
  clear hM
  go_loopw [69] (fun iv wr => ∃ ch : Nat, ch ≤ M ∧ iv = .int .i64 ch ∧ Below w6.heap.size w6 wr) (fun iv _ => M - (intOf iv).toNat)
  case atStart => exact ⟨0, by omega, rfl, Below.refl _ _⟩
  case round =>
    obtain ⟨ch, hch, rfl, hb⟩ := hrel
    have HB := Lib.hid hb
    have hs6 := hb.size
    have hcr := (hb.cell (p := ⟨w.heap.size + 1, 0, none⟩) hsB6).trans c2
    clear hb
    by_cases hlt : ch < M
    · by_cases hq : ch = R
      · subst hq
        go_wp2_with (fail)
        clear hsh hR
        obtain ⟨wo, rfl⟩ : ∃ wo, wo = wr := ⟨_, rfl⟩
        go_loopw [11, 87] (fun v iv wi => ∃ j : Nat, j ≤ m ∧ iv = .int .i64 j ∧ Own wi wo.heap.size v (memb (fun i => ch.testBit i.toNat) j) ∧ Below wo.heap.size wo wi) (fun _ iv _ => m - (intOf iv).toNat)
        case atStart => exact ⟨0, by omega, rfl, World.ownsRow_nil _ _ _ _, Below.refl _ _⟩
        case round =>
          obtain ⟨j, hj, rfl, ho, hbi⟩ := hrel
          have HO := Lib.hid ho
          have HBI := Lib.hid hbi
          clear ho hbi
          have hsz := HBI.out.size
          have hml := memb_len (fun i => ch.testBit i.toNat) j
          by_cases hjm : j < m
          · have hbit := bit_i64 ch j (by omega)
            cases hbv : ch.testBit j
            · rw [hbv] at hbit
              have HMB := Lib.hid (memb_no (p := fun i => ch.testBit i.toNat) (k := j) (by simpa using hbv))
              clear hbv
              go_wp2_with (fail)
              exact ⟨⟨j + 1, by omega, by go_num, by rw [HMB.out]; exact HO.out, HBI.out⟩, by simp [intOf]; omega⟩
            · rw [hbv] at hbit
              have HMB := Lib.hid (memb_yes (p := fun i => ch.testBit i.toNat) (k := j) (by simpa using hbv))
              clear hbv
              go_wp2_with (at_builtin; refine wpList_append_own _ rfl _ _ 22 rfl wo.heap.size 3 i0 (.int .i64 0) 1 8 Try.underlying22 hi hz0 hz1 hz2 rfl (by decide) _ _ _ rfl (HO.out.alloc _) ⟨wr.heap.size, 0, none⟩ 1 1 [.int .i64 j] rfl rfl (cell_one_new _ _ _) (by simp [Value.oneCell']) (by unfold maxLen; omega) (by omega) (by simp; omega) ?_; intro v1 w1 hown1 hgrow1 _; have HO2 := Lib.hid hown1; have HG := Lib.hid hgrow1; clear hown1 hgrow1)
              exact ⟨⟨j + 1, by omega, by go_num, by rw [HMB.out]; exact own_snoc HO2.out, own_grown HBI.out hsz HO.out HG.out⟩, by simp [intOf]; omega⟩
          · have hjm2 : j = m := by omega
            rw [hjm2] at HO hml
            have f1 := memb_i64 (fun i => ch.testBit i.toNat) m (by omega)
            have f3 := memb_idx (fun i => ch.testBit i.toNat) m
            generalize memb (fun i => ch.testBit i.toNat) m = L at HO f1 f3 hml
            obtain ⟨aL, cL, rfl, hI⟩ := ints_of_owns HO.out f1 (by omega)
            generalize hLl : L.length = nL at hI hml
            have IL := Lib.hid hI
            have IDL := Lib.hid f3
            have HLL := Lib.hid hLl
            have HB1 := Lib.hid (HB.out.trans (HBI.out.mono HB.out.size))
            have HBW := Lib.hid (HBA6.out.trans (HB1.out.mono HBA6.out.size))
            have D1 := (HB1.out.cell (p := ⟨w.heap.size, 0, none⟩) (show w.heap.size < w6.heap.size by omega)).trans C1.out
            have D2 := (HB1.out.cell (p := ⟨w.heap.size + 1, 0, none⟩) hsB6).trans C2.out
            have HIL1 := Lib.hid (HIL6.out.mono (Nat.le_refl _) HB1.out)
            have H31 := covers31 a b aL n m nL c d cL (w.heap.size + 1) w.heap.size t xss L wr D1 D2 (HT.out.mono (Nat.le_refl _) HBW.out) (HX.out.mono (Nat.le_refl _) HBW.out) hI f3 (by omega) S12.out
            have ROK := Lib.hid (round_ok LS.out L (by rw [HXL.out]; exact f3))
            clear hI f1 f3 hLl HBI HO D1 D2 hcr hjm2 c2
            cases hr : covF t xss L []
            · rw [hr] at H31
              clear hr
              have H31 := Lib.hid H31
              go_wp2_with (fail)
              refine (H31.out).mono ?_
              rintro e w7 ⟨rfl, k7⟩
              have K7 := Lib.hid (HB1.out.trans (k7.mono HB1.out.size))
              clear k7
              go_wp2_with (fail)
              exact ⟨⟨ch + 1, by omega, by go_num, K7.out⟩, by simp [intOf]; omega⟩
            · rw [hr] at H31
              have H31 := Lib.hid H31
              obtain ⟨l0, hl0, _, _⟩ := ROK.out hr
              cases hl0
      · have e5 : ((ch : Int) == (R : Int)) = false := by rw [beq_eq_false_iff_ne]; omega
        have e6 : (ch == R) = false := by simpa using hq
        have e7 : ((ch : Int) != (R : Int)) = true := by rw [bne, e5]; rfl
        by_cases h4 : 4 < m
        · have d4 : decide (4 < m) = true := by simpa using h4
          go_wp2_with (fail)
          first
            | exact ⟨⟨ch + 1, by omega, by go_num, HB.out⟩, by simp [intOf]; omega⟩
            | (go_roundw
               case rel => exact ⟨ch + 1, by omega, by go_num, HB.out⟩
               case measure => simp [intOf]; omega)
        · have d4 : decide (4 < m) = false := by simpa using h4
          go_wp2_with (fail)
          clear e5 e6 e7 d4
          clear hsh hR
          obtain ⟨wo, rfl⟩ : ∃ wo, wo = wr := ⟨_, rfl⟩
          go_loopw [11, 87] (fun v iv wi => ∃ j : Nat, j ≤ m ∧ iv = .int .i64 j ∧ Own wi wo.heap.size v (memb (fun i => ch.testBit i.toNat) j) ∧ Below wo.heap.size wo wi) (fun _ iv _ => m - (intOf iv).toNat)
          case atStart => exact ⟨0, by omega, rfl, World.ownsRow_nil _ _ _ _, Below.refl _ _⟩
          case round =>
            obtain ⟨j, hj, rfl, ho, hbi⟩ := hrel
            have HO := Lib.hid ho
            have HBI := Lib.hid hbi
            clear ho hbi
            have hsz := HBI.out.size
            have hml := memb_len (fun i => ch.testBit i.toNat) j
            by_cases hjm : j < m
            · have hbit := bit_i64 ch j (by omega)
              cases hbv : ch.testBit j
              · rw [hbv] at hbit
                have HMB := Lib.hid (memb_no (p := fun i => ch.testBit i.toNat) (k := j) (by simpa using hbv))
                clear hbv
                go_wp2_with (fail)
                exact ⟨⟨j + 1, by omega, by go_num, by rw [HMB.out]; exact HO.out, HBI.out⟩, by simp [intOf]; omega⟩
              · rw [hbv] at hbit
                have HMB := Lib.hid (memb_yes (p := fun i => ch.testBit i.toNat) (k := j) (by simpa using hbv))
                clear hbv
                go_wp2_with (at_builtin; refine wpList_append_own _ rfl _ _ 22 rfl wo.heap.size 3 i0 (.int .i64 0) 1 8 Try.underlying22 hi hz0 hz1 hz2 rfl (by decide) _ _ _ rfl (HO.out.alloc _) ⟨wr.heap.size, 0, none⟩ 1 1 [.int .i64 j] rfl rfl (cell_one_new _ _ _) (by simp [Value.oneCell']) (by unfold maxLen; omega) (by omega) (by simp; omega) ?_; intro v1 w1 hown1 hgrow1 _; have HO2 := Lib.hid hown1; have HG := Lib.hid hgrow1; clear hown1 hgrow1)
                exact ⟨⟨j + 1, by omega, by go_num, by rw [HMB.out]; exact own_snoc HO2.out, own_grown HBI.out hsz HO.out HG.out⟩, by simp [intOf]; omega⟩
            · have hjm2 : j = m := by omega
              rw [hjm2] at HO hml
              have f1 := memb_i64 (fun i => ch.testBit i.toNat) m (by omega)
              have f3 := memb_idx (fun i => ch.testBit i.toNat) m
              generalize memb (fun i => ch.testBit i.toNat) m = L at HO f1 f3 hml
              obtain ⟨aL, cL, rfl, hI⟩ := ints_of_owns HO.out f1 (by omega)
              generalize hLl : L.length = nL at hI hml
              have IL := Lib.hid hI
              have IDL := Lib.hid f3
              have HLL := Lib.hid hLl
              have HB1 := Lib.hid (HB.out.trans (HBI.out.mono HB.out.size))
              have HBW := Lib.hid (HBA6.out.trans (HB1.out.mono HBA6.out.size))
              have D1 := (HB1.out.cell (p := ⟨w.heap.size, 0, none⟩) (show w.heap.size < w6.heap.size by omega)).trans C1.out
              have D2 := (HB1.out.cell (p := ⟨w.heap.size + 1, 0, none⟩) hsB6).trans C2.out
              have HIL1 := Lib.hid (HIL6.out.mono (Nat.le_refl _) HB1.out)
              have H31 := covers31 a b aL n m nL c d cL (w.heap.size + 1) w.heap.size t xss L wr D1 D2 (HT.out.mono (Nat.le_refl _) HBW.out) (HX.out.mono (Nat.le_refl _) HBW.out) hI f3 (by omega) S12.out
              have ROK := Lib.hid (round_ok LS.out L (by rw [HXL.out]; exact f3))
              clear hI f1 f3 hLl HBI HO D1 D2 hcr hjm2 c2
              cases hr : covF t xss L []
              · rw [hr] at H31
                clear hr
                have H31 := Lib.hid H31
                go_wp2_with (fail)
                refine (H31.out).mono ?_
                rintro e w7 ⟨rfl, k7⟩
                have K7 := Lib.hid (HB1.out.trans (k7.mono HB1.out.size))
                clear k7
                go_wp2_with (fail)
                exact ⟨⟨ch + 1, by omega, by go_num, K7.out⟩, by simp [intOf]; omega⟩
              · rw [hr] at H31
                have H31 := Lib.hid H31
                obtain ⟨l0, hl0, _, _⟩ := ROK.out hr
                cases hl0
    · obtain rfl : ch = M := by omega
      go_wp2_with (fail)
      refine (awake12 _).mono ?_
      rintro e w8 ⟨rfl, k8⟩
      go_wp2_with (fail)
      go_ret
      exact ⟨rfl, HBA6.out.trans ((bstep HB.out k8).mono HBA6.out.size)⟩

end Go.Proofs.Ytcmckcmckbdmhaa
