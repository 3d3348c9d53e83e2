import Derived.Test.YtcmckcmckbdmhaaW23
namespace Go.Proofs.Ytcmckcmckbdmhaa
open Go.RowKit Go.Ap Go.Shelf

/-- the indices whose bits a number has -/
def choiceL (m ch : Nat) : List Int := memb (fun i => ch.testBit i.toNat) m
/-- one choice of the reference's Cover -/
def stepC (t : List Int) (xss : List (List Int)) (best : List Int) (found : Bool) (l : List Int) : List Int × Bool :=
  if (found && decide (best.length < l.length)) = true then (best, found)
  else if (rcov t xss l [] && (!found || decide (l.length < best.length) || lessL l best)) = true then (l, true) else (best, found)
def foldC (t : List Int) (xss : List (List Int)) : Nat → Nat → List Int → Bool → List Int × Bool
  | 0, _, best, found => (best, found)
  | f + 1, ch, best, found => foldC t xss f (ch + 1) (stepC t xss best found (choiceL xss.length ch)).1 (stepC t xss best found (choiceL xss.length ch)).2

def rcoverO (t : List Int) (xss : List (List Int)) : List Int × Bool := foldC t xss (2 ^ xss.length) 0 [] false

theorem foldC_keep {t : List Int} {xss : List (List Int)} {f ch : Nat} {best L : List Int} {found : Bool} (hl : choiceL xss.length ch = L) (h : stepC t xss best found L = (best, found)) : foldC t xss (f + 1) ch best found = foldC t xss f (ch + 1) best found := by
  rw [foldC, hl, h]
theorem foldC_take {t : List Int} {xss : List (List Int)} {f ch : Nat} {best L : List Int} {found : Bool} (hl : choiceL xss.length ch = L) (h : stepC t xss best found L = (L, true)) : foldC t xss (f + 1) ch best found = foldC t xss f (ch + 1) L true := by
  rw [foldC, hl, h]
theorem memb_idx (p : Int → Bool) (m : Nat) : IdxL m (memb p m) := by
  constructor
  · unfold memb
    apply List.Pairwise.filter
    rw [List.pairwise_map]
    exact List.pairwise_lt_range.imp (fun h => by omega)
  · intro x hx
    have := memb_contains p m x
    rw [List.contains_iff_mem.2 hx] at this
    have := Bool.and_eq_true_iff.1 this.symm
    simpa using this.1

theorem bit_i64 (ch j : Nat) (hc : ch < 9223372036854775808) : (bits .and .i64 ((ch : Int) / 2 ^ j) 1 == 1) = ch.testBit j := by
  have e0 : ((ch : Int) / 2 ^ j) = ((ch / 2 ^ j : Nat) : Int) := by
    rw [show ((2 : Int) ^ j) = ((2 ^ j : Nat) : Int) by simp]; rfl
  have hlt : ch / 2 ^ j < 9223372036854775808 := Nat.lt_of_le_of_lt (Nat.div_le_self _ _) hc
  have h1 : (BitVec.ofInt 64 ((ch / 2 ^ j : Nat) : Int)).toNat = ch / 2 ^ j := by
    rw [BitVec.ofInt_natCast, BitVec.toNat_ofNat]; exact Nat.mod_eq_of_lt (by omega)
  have h2 : (BitVec.ofInt 64 (1 : Int)).toNat = 1 := by decide
  have key : bits .and .i64 ((ch / 2 ^ j : Nat) : Int) 1 = ((ch / 2 ^ j % 2 : Nat) : Int) := by
    show IntKind.i64.wrap ((BitVec.ofInt 64 ((ch / 2 ^ j : Nat) : Int) &&& BitVec.ofInt 64 1).toNat : Int) = _
    rw [BitVec.toNat_and, h1, h2, Nat.and_one_is_mod, IntKind.wrap_i64]
    omega
  rw [e0, key, Nat.testBit_eq_decide_div_mod_eq, Bool.eq_iff_iff, beq_iff_eq, decide_eq_true_eq]
  omega

set_option maxRecDepth 100000 in
set_option maxHeartbeats 2000000 in
theorem refcover27_ok (a b : Option Addr) (n m c d : Nat) (t : List Int) (xss : List (List Int)) (w : World) (ht : Ints w a n t) (hx : Rows2 w b m xss)
    (st : SetL t) (sx : ∀ xs ∈ xss, SetL xs) (hm : m ≤ 16) (R : List Int × Bool) (hR : rcoverO t xss = R) :
    Calls Try.prog 27 #[.slice a n c, .slice b m d] w (GivesE w (if R.2 then R.1 else []) (if R.2 then 0 else 6)) := by
  obtain ⟨i0, hi, hz0, hz1, hz2⟩ := info_parts info3
  have HT := Lib.hid ht
  have HX := Lib.hid hx
  have HXL := Lib.hid hx.len
  have ST := Lib.hid st
  have SX := Lib.hid sx
  have HR := Lib.hid hR
  have hd16 : decide (16 < (m : Int)) = false := by simp; omega
  have h1 : (chk t != 0) = false := by simpa using chk_setL st
  have H1 := Lib.hid (refcheck_any a n c t w ht)
  generalize hG1 : (if R.2 then R.1 else []) = G1
  generalize hG2 : (if R.2 then (0 : Int) else 6) = G2
  have HG1 := Lib.hid hG1
  have HG2 := Lib.hid hG2
  clear ht hx st sx hR hG1 hG2
  go_enter Try.func27, Try.ntmps27
  go_wp2_with (fail)
  refine (H1.out).mono ?_
  rintro e w' ⟨rfl, q, rfl⟩
  go_wp2_with (fail)
  go_loopw [6] (fun i wr => ∃ k q : Nat, k ≤ m ∧ i = .int .i64 k ∧ wr = w.drewN q) (fun i _ => m - (intOf i).toNat)
  case atStart => exact ⟨0, q, by omega, rfl, rfl⟩
  case round =>
    obtain ⟨k, q, hk, rfl, rfl⟩ := hrel
    by_cases hlt : k < m
    · have hx1 := HX.out
      obtain ⟨xs, b2, o2, v2, hxs, rfl, hc2, a3, n3, c3, rfl, hI3⟩ := Sl.at hx1 hlt
      have h2 : (chk xs != 0) = false := by simpa using chk_setL (SX.out xs (List.mem_of_getElem? hxs))
      have H2 := Lib.hid (refcheck_any a3 n3 c3 xs (w.drewN q) hI3.drewN)
      clear hxs hI3 hx1
      go_wp2_with (fail)
      refine (H2.out).mono ?_
      rintro e w' ⟨rfl, r, rfl⟩
      go_wp2_with (fail)
      exact ⟨⟨k + 1, _, by omega, by go_num, rfl⟩, by simp [intOf]; omega⟩
    · go_wp2_with (fail)
      obtain ⟨M, hM⟩ : ∃ M : Nat, 2 ^ m = M := ⟨_, rfl⟩
      have hM2 : M ≤ 65536 := by rw [← hM]; exact Nat.pow_le_pow_right (by omega) hm
      have hsh : wrap64 (2 ^ m) = (M : Int) := by
        have hp : ((2 : Int) ^ m) = ((2 ^ m : Nat) : Int) := by simp
        rw [hp, hM]
        exact IntWalk.wrap64_in _ ⟨by omega, by omega⟩
      have HM := Lib.hid hM
      clear hM
      go_loopw [7, 8, 9] (fun bv fv iv wr => ∃ (ch f : Nat) (ab : Option Addr) (nb cb : Nat) (best : List Int) (found : Bool), ch + f = M ∧ iv = .int .i64 ch ∧ bv = .slice ab nb cb ∧ fv = .bool found ∧ Ints wr ab nb best ∧ foldC t xss f ch best found = R ∧ Below w.heap.size w wr) (fun _ _ iv _ => M - (intOf iv).toNat)
      case atStart => exact ⟨0, M, _, _, _, [], false, by omega, rfl, rfl, rfl, Sl.nil _ _, by rw [← HR.out, rcoverO, HXL.out, HM.out], bstep (bdrewN w q) (balloc _ _)⟩
      case round =>
        obtain ⟨ch, f, ab, nb, cb, best, found, hcf, rfl, rfl, rfl, ib, hfo, hb⟩ := hrel
        have HFO := Lib.hid hfo
        have IB := Lib.hid ib
        have HB := Lib.hid hb
        have HCF := Lib.hid hcf
        have hchM : ch ≤ M := by omega
        clear hfo ib hb hcf
        by_cases hlt : ch < M
        · go_wp2_with (fail)
          clear hsh
          obtain ⟨wo, rfl⟩ : ∃ wo, wo = wr := ⟨_, rfl⟩
          go_loopw [10, 11] (fun v iv wi => ∃ j : Nat, j ≤ m ∧ iv = .int .i64 j ∧ Own wi wo.heap.size v (memb (fun i => ch.testBit i.toNat) j) ∧ Below wo.heap.size wo wi) (fun _ iv _ => m - (intOf iv).toNat)
          case atStart => exact ⟨0, by omega, rfl, own_empty wo wo (Nat.le_refl _), balloc _ _⟩
          case round =>
            obtain ⟨j, hj, rfl, ho, hbi⟩ := hrel
            have HO := Lib.hid ho
            have HBI := Lib.hid hbi
            clear ho hbi
            have hsz := HBI.out.size
            have hml := memb_len (fun i => ch.testBit i.toNat) j
            by_cases hjm : j < m
            · have hbit := bit_i64 ch j (by omega)
              cases hbv : ch.testBit j
              · rw [hbv] at hbit
                have HMB := Lib.hid (memb_no (p := fun i => ch.testBit i.toNat) (k := j) (by simpa using hbv))
                clear hbv
                go_wp2_with (fail)
                exact ⟨⟨j + 1, by omega, by go_num, by rw [HMB.out]; exact HO.out, HBI.out⟩, by simp [intOf]; omega⟩
              · rw [hbv] at hbit
                have HMB := Lib.hid (memb_yes (p := fun i => ch.testBit i.toNat) (k := j) (by simpa using hbv))
                clear hbv
                go_wp2_with (at_builtin; refine wpList_append_own _ rfl _ _ 22 rfl wo.heap.size 3 i0 (.int .i64 0) 1 8 Try.underlying22 hi hz0 hz1 hz2 rfl (by decide) _ _ _ rfl (HO.out.alloc _) ⟨wr.heap.size, 0, none⟩ 1 1 [.int .i64 j] rfl rfl (cell_one_new _ _ _) (by simp [Value.oneCell']) (by unfold maxLen; omega) (by omega) (by simp; omega) ?_; intro v1 w1 hown1 hgrow1 _; have HO2 := Lib.hid hown1; have HG := Lib.hid hgrow1; clear hown1 hgrow1)
                exact ⟨⟨j + 1, by omega, by go_num, by rw [HMB.out]; exact own_snoc HO2.out, own_grown HBI.out hsz HO.out HG.out⟩, by simp [intOf]; omega⟩
            · obtain rfl : j = m := by omega
              have f1 := memb_i64 (fun i => ch.testBit i.toNat) j (by omega)
              have f3 := memb_idx (fun i => ch.testBit i.toNat) j
              have hLe : choiceL j ch = memb (fun i => ch.testBit i.toNat) j := rfl
              generalize memb (fun i => ch.testBit i.toNat) j = L at HO f1 f3 hml hLe
              obtain ⟨al, cl, rfl, hI⟩ := ints_of_owns HO.out f1 (by omega)
              generalize hLl : L.length = nl at hI hml
              have IL := Lib.hid hI
              have IDX := Lib.hid f3
              have HLL := Lib.hid hLl
              have HLE := Lib.hid (show choiceL xss.length ch = L by rw [HXL.out]; exact hLe)
              have IB1 := Lib.hid (IB.out.mono (Nat.le_refl _) HBI.out)
              have HNB := Lib.hid IB.out.len
              have HT1 := Lib.hid (HT.out.mono (Nat.le_refl _) (HB.out.trans (HBI.out.mono HB.out.size)))
              have HX1 := Lib.hid (HX.out.mono (Nat.le_refl _) (HB.out.trans (HBI.out.mono HB.out.size)))
              have HB1 := Lib.hid (HB.out.trans (HBI.out.mono HB.out.size))
              have H57 := Lib.hid (refcovers57 a b al n j nl c d cl t xss L wr HT1.out HX1.out hI ST.out SX.out f3 (by omega))
              obtain ⟨f, rfl⟩ : ∃ g, f = g + 1 := ⟨f - 1, by have := HCF.out; omega⟩
              clear hI f1 f3 hLe hLl HBI HO IB
              cases found with
              | true =>
                by_cases hgt : nb < nl
                · have hs : stepC t xss best true L = (best, true) := by rw [stepC, if_pos]; rw [HNB.out, HLL.out]; simpa using hgt
                  have HS := Lib.hid hs
                  clear hs
                  go_wp2_with (fail)
                  exact ⟨⟨ch + 1, f, ab, nb, cb, best, true, by have := HCF.out; omega, by go_num, rfl, rfl, IB1.out, by rw [← HFO.out, foldC_keep HLE.out HS.out], HB1.out⟩, by simp [intOf]; omega⟩
                · have hng : ¬ (true && decide (best.length < L.length)) = true := by rw [HNB.out, HLL.out]; simpa using hgt
                  have HNG := Lib.hid hng
                  clear hng
                  go_wp2_with (fail)
                  refine (H57.out).mono ?_
                  cases hr : rcov t xss L []
                  · have hs : stepC t xss best true L = (best, true) := by rw [stepC, if_neg HNG.out, hr]; rfl
                    have HS := Lib.hid hs
                    clear hs hr
                    rintro e w2 ⟨rfl, k2⟩
                    go_wp2_with (fail)
                    exact ⟨⟨ch + 1, f, ab, nb, cb, best, true, by have := HCF.out; omega, by go_num, rfl, rfl, IB1.out.mono (Nat.le_refl _) k2, by rw [← HFO.out, foldC_keep HLE.out HS.out], HB1.out.trans (k2.mono HB1.out.size)⟩, by simp [intOf]; omega⟩
                  · by_cases hl : nl < nb
                    · have hs : stepC t xss best true L = (L, true) := by
                        rw [stepC, if_neg HNG.out, hr, if_pos]; rw [HNB.out, HLL.out]; simp [hl]
                      have HS := Lib.hid hs
                      clear hs hr
                      rintro e w2 ⟨rfl, k2⟩
                      go_wp2_with (fail)
                      exact ⟨⟨ch + 1, f, al, nl, cl, L, true, by have := HCF.out; omega, by go_num, rfl, rfl, IL.out.mono (Nat.le_refl _) k2, by rw [← HFO.out, foldC_take HLE.out HS.out], HB1.out.trans (k2.mono HB1.out.size)⟩, by simp [intOf]; omega⟩
                    · obtain rfl : nl = nb := by omega
                      have hs : stepC t xss best true L = if lessL L best = true then (L, true) else (best, true) := by
                        rw [stepC, if_neg HNG.out, hr, HNB.out, HLL.out]; simp
                      have HS := Lib.hid hs
                      clear hs hr
                      rintro e w2 ⟨rfl, k2⟩
                      have H58 := Lib.hid (less58 al ab nl cl cb L best w2 (IL.out.mono (Nat.le_refl _) k2) (IB1.out.mono (Nat.le_refl _) k2))
                      go_wp2_with (fail)
                      refine (H58.out).mono ?_
                      cases hll : lessL L best
                      · have HS2 := Lib.hid (show stepC t xss best true L = (best, true) by rw [HS.out, hll]; rfl)
                        clear hll
                        rintro e w3 ⟨rfl, q3, rfl⟩
                        go_wp2_with (fail)
                        exact ⟨⟨ch + 1, f, ab, nl, cb, best, true, by have := HCF.out; omega, by go_num, rfl, rfl, (IB1.out.mono (Nat.le_refl _) k2).drewN, by rw [← HFO.out, foldC_keep HLE.out HS2.out], HB1.out.trans ((bstep k2 (bdrewN _ _)).mono HB1.out.size)⟩, by simp [intOf]; omega⟩
                      · have HS2 := Lib.hid (show stepC t xss best true L = (L, true) by rw [HS.out, hll]; rfl)
                        clear hll
                        rintro e w3 ⟨rfl, q3, rfl⟩
                        go_wp2_with (fail)
                        exact ⟨⟨ch + 1, f, al, nl, cl, L, true, by have := HCF.out; omega, by go_num, rfl, rfl, (IL.out.mono (Nat.le_refl _) k2).drewN, by rw [← HFO.out, foldC_take HLE.out HS2.out], HB1.out.trans ((bstep k2 (bdrewN _ _)).mono HB1.out.size)⟩, by simp [intOf]; omega⟩
              | false =>
                go_wp2_with (fail)
                refine (H57.out).mono ?_
                cases hr : rcov t xss L []
                · have hs : stepC t xss best false L = (best, false) := by rw [stepC, hr]; rfl
                  have HS := Lib.hid hs
                  clear hs hr
                  rintro e w2 ⟨rfl, k2⟩
                  go_wp2_with (fail)
                  exact ⟨⟨ch + 1, f, ab, nb, cb, best, false, by have := HCF.out; omega, by go_num, rfl, rfl, IB1.out.mono (Nat.le_refl _) k2, by rw [← HFO.out, foldC_keep HLE.out HS.out], HB1.out.trans (k2.mono HB1.out.size)⟩, by simp [intOf]; omega⟩
                · have hs : stepC t xss best false L = (L, true) := by rw [stepC, hr]; rfl
                  have HS := Lib.hid hs
                  clear hs hr
                  rintro e w2 ⟨rfl, k2⟩
                  go_wp2_with (fail)
                  exact ⟨⟨ch + 1, f, al, nl, cl, L, true, by have := HCF.out; omega, by go_num, rfl, rfl, IL.out.mono (Nat.le_refl _) k2, by rw [← HFO.out, foldC_take HLE.out HS.out], HB1.out.trans (k2.mono HB1.out.size)⟩, by simp [intOf]; omega⟩
        · have hRe : (best, found) = R := by
            have hf0 : f = 0 := by have := HCF.out; omega
            rw [← HFO.out, hf0]; rfl
          have e1 := HG1.out
          have e2 := HG2.out
          rw [← hRe] at e1 e2
          cases found with
          | true =>
            have E1 := Lib.hid (show best = G1 from e1)
            have E2 := Lib.hid (show (0 : Int) = G2 from e2)
            clear e1 e2 hRe
            go_wp2_with (fail)
            go_ret2
            rw [← E1.out, ← E2.out]
            exact ⟨ab, nb, cb, rfl, IB.out, HB.out⟩
          | false =>
            have E1 := Lib.hid (show [] = G1 from e1)
            have E2 := Lib.hid (show (6 : Int) = G2 from e2)
            clear e1 e2 hRe
            go_wp2_with (fail)
            go_ret2
            rw [← E1.out, ← E2.out]
            exact ⟨none, 0, 0, rfl, Sl.nil _ _, HB.out⟩

theorem refcover27_great (a b : Option Addr) (n m c d : Nat) (w : World) (hm : m ≤ 4611686018427387903) (hgt : 16 < m) :
    Calls Try.prog 27 #[.slice a n c, .slice b m d] w (GivesE w [] 4) := by
  go_enter Try.func27, Try.ntmps27
  go_wp2_with (fail)
  go_ret2
  exact ⟨none, 0, 0, rfl, Sl.nil _ _, Below.refl _ w⟩

set_option maxHeartbeats 1000000 in
theorem refcover27_bad (a b : Option Addr) (n m c d : Nat) (t : List Int) (xss : List (List Int)) (w : World) (ht : Ints w a n t) (hx : Rows2 w b m xss) (hle : m ≤ 16) (hbad : coverB t xss = true) :
    Calls Try.prog 27 #[.slice a n c, .slice b m d] w (GivesE w [] 1) := by
  have H1 := Lib.hid (refcheck_any a n c t w ht)
  have HX := Lib.hid hx
  have HXL := Lib.hid hx.len
  have hd16 : decide (16 < (m : Int)) = false := by simp; omega
  by_cases h1 : chk t = 0
  · have h1' : (chk t != 0) = false := by simpa using h1
    have h2 : (xss.any fun xs => chk xs != 0) = true := by unfold coverB at hbad; rw [h1', Bool.false_or] at hbad; exact hbad
    have H2 := Lib.hid h2
    clear h2 hbad h1 ht hx
    go_enter Try.func27, Try.ntmps27
    go_wp2_with (fail)
    refine (H1.out).mono ?_
    rintro e w' ⟨rfl, q, rfl⟩
    go_wp2_with (fail)
    go_loopw [6] (fun i wr => ∃ k q : Nat, k ≤ m ∧ i = .int .i64 k ∧ wr = w.drewN q ∧ ((xss.drop k).any fun xs => chk xs != 0) = true) (fun i _ => m - (intOf i).toNat)
    case atStart => exact ⟨0, q, by omega, rfl, rfl, H2.out⟩
    case round =>
      obtain ⟨k, q, hk, rfl, rfl, hany⟩ := hrel
      have HA := Lib.hid hany
      clear hany
      have hlt : k < m := by
        rcases Nat.lt_or_ge k m with h | h
        · exact h
        · have := HA.out
          rw [List.drop_eq_nil_of_le (by rw [HXL.out]; exact h)] at this
          simp at this
      have hx1 := HX.out
      obtain ⟨xs, b2, o2, v2, hxs, rfl, hc2, a3, n3, c3, rfl, hI3⟩ := Sl.at hx1 hlt
      have hdr : xss.drop k = xs :: xss.drop (k + 1) := by
        have hkl : k < xss.length := by rw [HXL.out]; exact hlt
        rw [List.drop_eq_getElem_cons hkl]
        rw [List.getElem?_eq_getElem hkl] at hxs
        cases hxs
        rfl
      have HD := Lib.hid hdr
      have H3 := Lib.hid (refcheck_any a3 n3 c3 xs (w.drewN q) hI3.drewN)
      clear hxs hI3 hx1 hdr
      cases hc : (chk xs != 0)
      · have HN := Lib.hid (show ((xss.drop (k + 1)).any fun xs => chk xs != 0) = true by
          have := HA.out
          rw [HD.out, List.any_cons, hc, Bool.false_or] at this
          exact this)
        go_wp2_with (fail)
        refine (H3.out).mono ?_
        rintro e w' ⟨rfl, r, rfl⟩
        go_wp2_with (fail)
        exact ⟨⟨k + 1, _, by omega, by go_num, rfl, HN.out⟩, by simp [intOf]; omega⟩
      · go_wp2_with (fail)
        refine (H3.out).mono ?_
        rintro e w' ⟨rfl, r, rfl⟩
        go_wp2_with (fail)
        go_ret2
        exact ⟨none, 0, 0, rfl, Sl.nil _ _, bdrewN _ _⟩
  · have h1' : (chk t != 0) = true := by simpa using h1
    clear h1 hbad ht hx
    go_enter Try.func27, Try.ntmps27
    go_wp2_with (fail)
    refine (H1.out).mono ?_
    rintro e w' ⟨rfl, q, rfl⟩
    go_wp2_with (fail)
    go_ret2
    exact ⟨none, 0, 0, rfl, Sl.nil _ _, bdrewN _ _⟩

end Go.Proofs.Ytcmckcmckbdmhaa
