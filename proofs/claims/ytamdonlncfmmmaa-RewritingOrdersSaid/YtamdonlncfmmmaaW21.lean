/-
  Confluent.
-/
import Derived.Test.YtamdonlncfmmmaaW20
import Derived.Test.YtamdonlncfmmmaaPCon
namespace Go.Proofs.Ytamdonlncfmmmaa
open Go.RowKit Go.Ap Go.Shelf Go.Proofs

attribute [local go_sem] Oper.semAt_some bs_toList empty_toList bs_size ext_drop ext_take bs_append

/-- the pairs of a list, each word's normal strings counted -/
def conL (rs : List Rule) : List Trip → Bool → Bool × Int
  | [], is => (is, 0)
  | x :: l, is => if (allE rs x.1).1 = 0 then conL rs l (is && decide ((allE rs x.1).2.length = 1)) else (false, (allE rs x.1).1)
def CoE (rs : List Rule) : Bool × Int := if (CrE rs).1 = 0 then conL rs (CrE rs).2 true else (false, (CrE rs).1)
theorem crE_ok {rs : List Rule} (h : (CrE rs).1 = 0) : chkR rs = 0 ∧ (CrE rs).2 = critL rs ∧ (critL rs).length ≤ 4096 := by
  unfold CrE at h ⊢
  split at h
  · rename_i h1
    split at h
    · rename_i h2
      exact ⟨h1, by rw [if_pos h1, if_pos h2], h2⟩
    · cases h
  · cases h
theorem conL_ok {rs : List Rule} {l : List Trip} {k : Nat} {x : Trip} {is : Bool} (hx : l[k]? = some x) (h : (allE rs x.1).1 = 0) : conL rs (l.drop k) is = conL rs (l.drop (k + 1)) (is && decide ((allE rs x.1).2.length = 1)) := by
  obtain ⟨hk, rfl⟩ := List.getElem?_eq_some_iff.1 hx
  rw [List.drop_eq_getElem_cons hk, conL, if_pos h]
theorem conL_bad {rs : List Rule} {l : List Trip} {k : Nat} {x : Trip} {is : Bool} (hx : l[k]? = some x) (h : (allE rs x.1).1 ≠ 0) : conL rs (l.drop k) is = (false, (allE rs x.1).1) := by
  obtain ⟨hk, rfl⟩ := List.getElem?_eq_some_iff.1 hx
  rw [List.drop_eq_getElem_cons hk, conL, if_neg h]
theorem ret_be {b b' : Bool} {e e' : Int} {p : Bool × Int} (h : p = (b, e)) (hb : b = b') (he : e = e') : Ending.returned (.tuple #[.bool b', .int .i64 e']) = .returned (.tuple #[.bool p.1, .int .i64 p.2]) := by rw [h, hb, he]

theorem ownS_shape {w : World} {base : Nat} {v : Value} {xs : List Str} (h : OwnS w base v xs) : ∃ a c, v = .slice a xs.length c := by
  rcases h.2 with ⟨rfl, h0⟩ | ⟨g, cap, cur, rfl, _⟩
  · exact ⟨none, 0, by rw [h0]⟩
  · exact ⟨_, cap, rfl⟩

set_option maxRecDepth 100000 in
set_option maxHeartbeats 2000000 in
theorem confluent18 (a : Option Addr) (n c : Nat) (rs : List Rule) (w : World) (h : Rls w a n rs) :
    Calls Try.prog 18 #[.slice a n c] w fun e W' => e = .returned (.tuple #[.bool (CoE rs).1, .int .i64 (CoE rs).2]) ∧ Below w.heap.size w W' := by
  have H1 := Lib.hid (callsIn_wide.1 (critical16 a n c rs w h))
  have HH := Lib.hid h
  have HOK := Lib.hid (@crE_ok rs)
  have HD := Lib.hid (show CoE rs = if (CrE rs).1 = 0 then conL rs (CrE rs).2 true else (false, (CrE rs).1) from rfl)
  clear h
  generalize CrE rs = p at *
  obtain ⟨q, L⟩ := p
  simp only at HOK HD H1
  go_enter Try.func18, Try.ntmps18
  go_wp2_with (fail)
  refine H1.out.mono ?_
  rintro e w1 ⟨v, rfl, ho, hb⟩
  have HO := Lib.hid ho
  have HB := Lib.hid hb
  clear ho hb H1
  by_cases h0 : q = 0
  · subst h0
    obtain ⟨hchk, rfl, hlen⟩ := HOK.out rfl
    have HC := Lib.hid (show CoE rs = conL rs (critL rs) true from HD.out.trans (if_pos rfl))
    have HS := Lib.hid (fun z hz => crit_short (short_chk hchk) (z := z) hz)
    have HV := Lib.hid (val_of hchk)
    clear HD HOK hchk
    obtain ⟨av, ac, rfl⟩ := HO.out.shape
    rw [List.length_map]
    generalize critL rs = L at *
    generalize hm : L.length = m at *
    have HM := Lib.hid hm
    clear hm
    go_wp2_with (fail)
    go_loopw [6, 21] (fun iv kv wr => ∃ (k : Nat) (is : Bool), k ≤ m ∧ iv = .bool is ∧ kv = .int .i64 k ∧ CoE rs = conL rs (L.drop k) is ∧ Below w1.heap.size w1 wr) (fun _ kv _ => m - (intOf kv).toNat)
    case atStart => exact ⟨0, true, Nat.zero_le _, rfl, rfl, HC.out, Below.refl _ _⟩
    case round =>
      obtain ⟨k, is, hk, rfl, rfl, hco, hbel⟩ := hrel
      have HCO := Lib.hid hco
      have HBE := Lib.hid hbel
      clear hco hbel HC
      by_cases hkm : k < m
      · obtain ⟨x, hx⟩ : ∃ x, L[k]? = some x := ⟨_, List.getElem?_eq_getElem (by rw [HM.out]; exact hkm)⟩
        obtain ⟨b, bc, u, hav, c1, hu⟩ := (HO.out.below HBE.out).at (k := k) (xs := tripS x) (by simp [hx])
        injection hav with hav hlq hcap
        subst hav hcap
        clear hlq
        obtain ⟨g, gc, rfl, _, hcell⟩ := hu.addr (by simp [tripS])
        have c2 := hcell 0 x.1 rfl
        have HXX := Lib.hid hx
        have hxl := HS.out x (List.mem_of_getElem? hx)
        have H37 := Lib.hid (callsIn_wide.1 (all37 a n c rs x.1 wr (HH.out.mono (Nat.le_refl _) (bstep HB.out HBE.out)) HV.out (by omega)))
        have HOKx := Lib.hid (fun is => conL_ok (rs := rs) (is := is) hx)
        have HBADx := Lib.hid (fun is => conL_bad (rs := rs) (is := is) hx)
        generalize allE rs x.1 = r at *
        obtain ⟨q, M⟩ := r
        simp only at HOKx HBADx H37
        simp only [tripS, List.length_cons, List.length_nil] at c1
        clear hx hu hcell hxl
        go_wp2_with (fail)
        refine H37.out.mono ?_
        rintro e w2 ⟨v, rfl, ho2, hb2⟩
        obtain ⟨mv, mc, rfl⟩ := ownS_shape ho2
        have HB2 := Lib.hid (bstep (HBE.out.mono (Nat.le_refl _)) hb2)
        clear ho2 hb2 H37
        by_cases hq : q = 0
        · subst hq
          have HN := Lib.hid (HCO.out.trans (HOKx.out is rfl))
          generalize M.length = ml at *
          cases is
          · go_wp2_with (fail)
            go_roundw
            case rel => exact ⟨k + 1, false, by omega, by simp, by simp, by rw [HN.out]; simp, HB2.out⟩
            case measure => simp [intOf]; omega
          · by_cases h1 : ml = 1
            · subst h1
              go_wp2_with (fail)
              go_roundw
              case rel => exact ⟨k + 1, true, by omega, by simp, by simp, by rw [HN.out]; simp, HB2.out⟩
              case measure => simp [intOf]; omega
            · have e2 : ((ml : Int) == 1) = false := by rw [beq_eq_false_iff_ne]; omega
              have HN2 := Lib.hid (show CoE rs = conL rs (L.drop (k + 1)) false by rw [HN.out]; simp [h1])
              clear h1
              go_wp2_with (fail)
              go_roundw
              case rel => exact ⟨k + 1, false, by omega, by simp, by simp, HN2.out, HB2.out⟩
              case measure => simp [intOf]; omega
        · have e1 : (q != 0) = true := by simpa using hq
          have HE := Lib.hid (show CoE rs = (false, q) from HCO.out.trans (HBADx.out is hq))
          clear hq
          go_wp2_with (fail)
          go_ret2
          exact ⟨ret_be HE.out rfl rfl, bstep HB.out HB2.out⟩
      · obtain rfl : m = k := by omega
        have HE := Lib.hid (show CoE rs = (is, 0) by rw [HCO.out, List.drop_of_length_le (by rw [HM.out]; exact Nat.le_refl _)]; rfl)
        go_wp2_with (fail)
        go_ret2
        exact ⟨ret_be HE.out rfl rfl, bstep HB.out HBE.out⟩
  · have e1 : (q != 0) = true := by simpa using h0
    have HE := Lib.hid (show CoE rs = (false, q) from HD.out.trans (if_neg h0))
    clear h0
    go_wp2_with (fail)
    go_ret2
    exact ⟨ret_be HE.out rfl rfl, HB.out⟩
end Go.Proofs.Ytamdonlncfmmmaa
