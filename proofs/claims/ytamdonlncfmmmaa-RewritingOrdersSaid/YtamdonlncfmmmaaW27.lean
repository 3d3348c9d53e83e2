/-
  The reference's Confluent.
-/
import Derived.Test.YtamdonlncfmmmaaW26
namespace Go.Proofs.Ytamdonlncfmmmaa
open Go.RowKit Go.Ap Go.Shelf Go.Proofs

attribute [local go_sem] Oper.semAt_some bs_toList empty_toList bs_size ext_drop ext_take bs_append

set_option maxRecDepth 100000 in
set_option maxHeartbeats 2000000 in
theorem refconfluent19 (a : Option Addr) (n c : Nat) (rs : List Rule) (w : World) (h : Rls w a n rs) :
    Calls Try.prog 19 #[.slice a n c] w fun e W' => e = .returned (.tuple #[.bool (CoE rs).1, .int .i64 (CoE rs).2]) ∧ Below w.heap.size w W' := by
  have H1 := Lib.hid (refcritical17 a n c rs w h)
  have HH := Lib.hid h
  have HOK := Lib.hid (@crE_ok rs)
  have HD := Lib.hid (show CoE rs = if (CrE rs).1 = 0 then conL rs (CrE rs).2 true else (false, (CrE rs).1) from rfl)
  clear h
  generalize CrE rs = p at *
  obtain ⟨q, L⟩ := p
  simp only at HOK HD H1
  go_enter Try.func19, Try.ntmps19
  go_wp2_with (fail)
  refine H1.out.mono ?_
  rintro e w1 ⟨v, rfl, ho, hb⟩
  have HO := Lib.hid ho
  have HB := Lib.hid hb
  clear ho hb H1
  by_cases h0 : q = 0
  · subst h0
    obtain ⟨hchk, rfl, hlen⟩ := HOK.out rfl
    have HC := Lib.hid (show CoE rs = conL rs (critL rs) true from HD.out.trans (if_pos rfl))
    have HS := Lib.hid (fun z hz => crit_short (short_chk hchk) (z := z) hz)
    have HN64 : n ≤ 64 := by rw [← HH.out.len]; exact chkR_len hchk
    have HV := Lib.hid (val_of hchk)
    clear HD HOK hchk
    obtain ⟨av, ac, rfl⟩ := HO.out.shape
    rw [List.length_map]
    generalize critL rs = L at *
    generalize hm : L.length = m at *
    have HM := Lib.hid hm
    clear hm
    go_wp2_with (fail)
    go_loopw [6, 7] (fun iv kv wr => ∃ (k : Nat) (is : Bool), k ≤ m ∧ iv = .bool is ∧ kv = .int .i64 k ∧ CoE rs = conL rs (L.drop k) is ∧ Below w1.heap.size w1 wr) (fun _ kv _ => m - (intOf kv).toNat)
    case atStart => exact ⟨0, true, Nat.zero_le _, rfl, rfl, HC.out, Below.refl _ _⟩
    case round =>
      obtain ⟨k, is, hk, rfl, rfl, hco, hbel⟩ := hrel
      have HCO := Lib.hid hco
      have HBE := Lib.hid hbel
      clear hco hbel HC
      by_cases hkm : k < m
      · obtain ⟨x, hx⟩ : ∃ x, L[k]? = some x := ⟨_, List.getElem?_eq_getElem (by rw [HM.out]; exact hkm)⟩
        obtain ⟨b, bc, u, hav, c1, hu⟩ := (HO.out.below HBE.out).at (k := k) (xs := tripS x) (by simp [hx])
        injection hav with hav hlq hcap
        subst hav hcap
        clear hlq
        obtain ⟨g, gc, rfl, _, hcell⟩ := hu.addr (by simp [tripS])
        have c2 := hcell 0 x.1 rfl
        have HXX := Lib.hid hx
        have hxl := HS.out x (List.mem_of_getElem? hx)
        have H37 := Lib.hid (normals39 a n c rs x.1 wr (HH.out.mono (Nat.le_refl _) (bstep HB.out HBE.out)) HV.out (by omega) HN64)
        have HNR := Lib.hid (nr_all rs x.1)
        have HOKx := Lib.hid (fun is => conL_ok (rs := rs) (is := is) hx)
        have HBADx := Lib.hid (fun is => conL_bad (rs := rs) (is := is) hx)
        generalize allE rs x.1 = r at *
        obtain ⟨q, M⟩ := r
        generalize nrE rs x.1 = nr at *
        obtain ⟨ok, N⟩ := nr
        simp only at HOKx HBADx HNR
        simp only [tripS, List.length_cons, List.length_nil] at c1
        clear hx hu hcell hxl
        go_wp2_with (fail)
        refine H37.out.mono ?_
        rintro e w2 ⟨v, rfl, ho2, hb2⟩
        simp only at ho2
        obtain ⟨mv, mc, rfl⟩ := ownS_shape ho2
        have HB2 := Lib.hid (bstep (HBE.out.mono (Nat.le_refl _)) hb2)
        clear ho2 hb2 H37
        cases ok
        case' true =>
          have hnr := HNR.out.2 rfl
          injection hnr with hq hM
          subst hq
          subst hM
          clear HNR HBADx
          have HN := Lib.hid (HCO.out.trans (HOKx.out is rfl))
          generalize M.length = ml at *
          cases is
          · go_wp2_with (fail)
            go_roundw
            case rel => exact ⟨k + 1, false, by omega, by simp, by simp, by rw [HN.out]; simp, HB2.out⟩
            case measure => simp [intOf]; omega
          · by_cases h1 : ml = 1
            · subst h1
              go_wp2_with (fail)
              go_roundw
              case rel => exact ⟨k + 1, true, by omega, by simp, by simp, by rw [HN.out]; simp, HB2.out⟩
              case measure => simp [intOf]; omega
            · have e2 : ((ml : Int) == 1) = false := by rw [beq_eq_false_iff_ne]; omega
              have HN2 := Lib.hid (show CoE rs = conL rs (L.drop (k + 1)) false by rw [HN.out]; simp [h1])
              clear h1
              go_wp2_with (fail)
              go_roundw
              case rel => exact ⟨k + 1, false, by omega, by simp, by simp, HN2.out, HB2.out⟩
              case measure => simp [intOf]; omega
        case' false =>
          have hnr := HNR.out.1 rfl
          injection hnr with hq hM
          subst hq
          have HE := Lib.hid (show CoE rs = (false, 4) from HCO.out.trans (HBADx.out is (by decide)))
          go_wp2_with (fail)
          go_ret2
          exact ⟨ret_be HE.out rfl rfl, bstep HB.out HB2.out⟩
      · obtain rfl : m = k := by omega
        have HE := Lib.hid (show CoE rs = (is, 0) by rw [HCO.out, List.drop_of_length_le (by rw [HM.out]; exact Nat.le_refl _)]; rfl)
        go_wp2_with (fail)
        go_ret2
        exact ⟨ret_be HE.out rfl rfl, bstep HB.out HBE.out⟩
  · have e1 : (q != 0) = true := by simpa using h0
    have HE := Lib.hid (show CoE rs = (false, q) from HD.out.trans (if_neg h0))
    clear h0
    go_wp2_with (fail)
    go_ret2
    exact ⟨ret_be HE.out rfl rfl, HB.out⟩
end Go.Proofs.Ytamdonlncfmmmaa
