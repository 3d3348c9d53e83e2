/-
  RewritingShrinks.
-/
import Derived.Test.YtamdonlncfmmmaaL5
namespace Go.Proofs.Ytamdonlncfmmmaa
open Go.RowKit Go.Ap Go.Shelf Go.Proofs

attribute [local go_sem] Oper.semAt_some bs_toList empty_toList bs_size ext_drop ext_take bs_append

/-- what a step of a trace is: to the next string, which is less; or the last one -/
def LessS (y x : Str) : Prop := y.length < x.length ∨ (y.length = x.length ∧ y < x)
theorem shrink_law {rs : List Rule} {s : Str} (hf : fineB rs [s] = true) : (TrE rs s).1 = 4 ∨ ∃ l, TrE rs s = (0, l) ∧ 0 < l.length ∧ l.length ≤ 4096 ∧ l[0]? = some s ∧
    (∀ (i : Nat) (x : Str), l[i]? = some x → x.length ≤ 10 ∧ (∀ y, l[i + 1]? = some y → StE rs x = (y, true, 0) ∧ LessS y x ∧ y.length ≤ 10) ∧ (i + 1 = l.length → StE rs x = (x, false, 0))) ∧
    ∃ z, l[l.length - 1]? = some z ∧ NfE rs s = (0, z) := by
  obtain ⟨h1, h2, _⟩ := fine_ok hf
  obtain ⟨ls, cs⟩ := h2 s (by simp)
  rcases trE_rng cs with h0 | h0
  · right
    have ht := trE_is cs h0
    obtain ⟨t1, t2, ⟨z, hz, nz, rz⟩, t4⟩ := trace_is ht
    have hlen : 0 < (TrE rs s).2.length := (List.getElem?_eq_some_iff.1 t1).1
    have hred : ∀ (i : Nat) (x : Str), (TrE rs s).2[i]? = some x → Red rs s x := by
      intro i
      induction i with
      | zero => intro x hx; rw [t1] at hx; injection hx with hx; subst hx; exact .refl _
      | succ i ih =>
        intro y hy
        have hi : i < (TrE rs s).2.length := by have := (List.getElem?_eq_some_iff.1 hy).1; omega
        have hx := List.getElem?_eq_getElem hi
        have hst := t2 i _ y hx hy
        have := stepL_mem (rs := rs) (s := (TrE rs s).2[i]) (by rw [hst])
        rw [hst] at this
        exact (ih _ hx).trans (.one this)
    have hl10 : ∀ (i : Nat) (x : Str), (TrE rs s).2[i]? = some x → x.length ≤ 10 := fun i x hx => by
      have := (word_red h1 (hred i x hx) (chkW_ok cs).2.2).1
      omega
    have hlast : (TrE rs s).2[(TrE rs s).2.length - 1]? = some z := by rw [← List.getLast?_eq_getElem?]; exact hz
    refine ⟨(TrE rs s).2, Prod.ext h0 rfl, hlen, TrE_len, t1, fun i x hx => ⟨hl10 i x hx, fun y hy => ?_, fun hi => ?_⟩, z, hlast, ?_⟩
    · have hst := t2 i x y hx hy
      have hm := stepL_mem (rs := rs) (s := x) (by rw [hst])
      rw [hst] at hm
      exact ⟨by rw [StE, if_pos (red_chkW cs (hred i x hx)), hst], step_less (dec_chk h1) hm, hl10 _ y hy⟩
    · have hxz : x = z := by
        rw [show (TrE rs s).2.length - 1 = i by omega, hx] at hlast
        injection hlast
      subst hxz
      rw [StE, if_pos (red_chkW cs (hred i x hx)), stepL_of nz]
    · unfold NfE
      rw [if_pos h0, List.getLastD_eq_getLast?, hz]; rfl
  · exact .inl h0
set_option maxRecDepth 100000 in
set_option maxHeartbeats 4000000 in
theorem law8 (a : Option Addr) (n c : Nat) (rs : List Rule) (s : Str) (w : World) (h : Rls w a n rs) (hs : s.length ≤ 4611686018427387903) :
    Calls Try.prog 8 #[.slice a n c, .string (bs s)] w fun e w' => e = .returned (.bool true) ∧ Below w.heap.size w w' := by
  have B0 := Lib.hid ((Below.refl _ w).alloc (Nat.le_refl _) (.cells #[.string (bs s)] 9))
  have HX := fun W (hb : Below w.heap.size w W) => h.mono (Nat.le_refl _) hb
  have H32 := Lib.hid (fine32 a (some ⟨w.heap.size, 0, none⟩) n 1 c 1 rs [s] _ (HX _ B0.out) (StrsL.lit1 w s) (by intro u hu; simp at hu; subst hu; exact hs))
  have H13 := Lib.hid awake13
  have HT := Lib.hid (fun W hb => trace26 a n c rs s W (HX W hb) hs)
  cases hf : fineB rs [s]
  · rw [hf] at H32
    clear hf HX h
    go_enter Try.func8, Try.ntmps8
    go_wp2_with (fail)
    refine H32.out.mono ?_
    rintro e w1 ⟨rfl, hb⟩
    have B1 := Lib.hid (B0.out.trans (hb.mono (by simp)))
    clear hb
    go_wp2_with (fail)
    refine (H13.out _).mono ?_
    rintro e w2 ⟨rfl, hb⟩
    go_wp2_with (fail)
    go_ret
    exact ⟨rfl, bstep B1.out hb⟩
  · rw [hf] at H32
    rcases shrink_law hf with e4 | ⟨l, el, l0, lm, ls, hall, z, hz, ez⟩
    · rw [e4] at HT
      clear hf e4 HX h hs
      go_enter Try.func8, Try.ntmps8
      go_wp2_with (fail)
      refine H32.out.mono ?_
      rintro e w1 ⟨rfl, hb⟩
      have B1 := Lib.hid (B0.out.trans (hb.mono (by simp)))
      clear hb
      go_wp2_with (fail)
      refine (HT.out _ B1.out).mono ?_
      rintro e w2 ⟨v, rfl, ho, hb⟩
      have B2 := Lib.hid (bstep B1.out hb)
      clear hb B1 ho
      go_wp2_with (fail)
      refine (H13.out _).mono ?_
      rintro e w6 ⟨rfl, hb⟩
      go_wp2_with (fail)
      go_ret
      exact ⟨rfl, bstep B2.out hb⟩
    · rw [el] at HT
      have HN := Lib.hid (fun W hb => ez ▸ normalize24 a n c rs s W (HX W hb) hs)
      have HS := Lib.hid (fun x W hb hx => step22 a n c rs x W (HX W hb) hx)
      have HALL := Lib.hid hall
      have HL0 := Lib.hid ls
      have HZ := Lib.hid hz
      have HLM := Lib.hid lm
      have HLP := Lib.hid l0
      clear hf el HX h hs hall ls hz ez lm l0
      go_enter Try.func8, Try.ntmps8
      go_wp2_with (fail)
      refine H32.out.mono ?_
      rintro e w1 ⟨rfl, hb⟩
      have B1 := Lib.hid (B0.out.trans (hb.mono (by simp)))
      clear hb
      go_wp2_with (fail)
      refine (HT.out _ B1.out).mono ?_
      rintro e w2 ⟨v, rfl, ho, hb⟩
      have B2 := Lib.hid (bstep B1.out hb)
      obtain ⟨g, gc, rfl, _, hcell⟩ := OwnS.addr ho HLP.out
      have HC := Lib.hid hcell
      clear hb B1 ho hcell HT H32 B0
      have HM := Lib.hid (show l.length = l.length from rfl)
      have k0 := HLP.out
      have k1 := HLM.out
      have c0 := HC.out 0 s HL0.out
      have e0 : ((l.length : Int) == 0) = false := by rw [beq_eq_false_iff_ne]; omega
      generalize hm : l.length = m at *
      have HMM := Lib.hid hm
      clear hm HM
      go_wp2_with (fail)
      go_loopw [45] (fun kv wr => ∃ k : Nat, k ≤ m ∧ kv = .int .i64 k ∧ Below w2.heap.size w2 wr) (fun kv _ => m - (intOf kv).toNat)
      case atStart => exact ⟨0, Nat.zero_le _, rfl, Below.refl _ _⟩
      case round =>
        obtain ⟨k, hk, rfl, hbel⟩ := hrel
        have HBE := Lib.hid hbel
        clear hbel c0
        by_cases hkm : k < m
        · obtain ⟨x, hx⟩ : ∃ x, l[k]? = some x := ⟨_, List.getElem?_eq_getElem (by rw [HMM.out]; exact hkm)⟩
          obtain ⟨lx, hy, hlast⟩ := HALL.out k x hx
          have c1 := cell_keep HBE.out (HC.out k x hx)
          have H22 := Lib.hid (HS.out x wr (bstep B2.out HBE.out) (by omega))
          by_cases hk1 : k + 1 < m
          · obtain ⟨y, hyl⟩ : ∃ y, l[k + 1]? = some y := ⟨_, List.getElem?_eq_getElem (by rw [HMM.out]; exact hk1)⟩
            obtain ⟨es, hless, ly⟩ := hy y hyl
            have HC2 := Lib.hid (cell_keep HBE.out (HC.out (k + 1) y hyl))
            rw [es] at H22
            have d1 : decide ((k : Int) < (m : Int) - 1) = true := by simp; omega
            have d2 : (0 : Int) ≤ (k : Int) + 1 := by omega
            have d3 : (k : Int) + 1 < (m : Int) := by omega
            have HLS := Lib.hid hless
            clear hx hy hlast hyl es hless
            go_wp2_with (fail)
            refine H22.out.mono ?_
            rintro e w3 ⟨rfl, hb⟩
            have c2 := cell_keep hb HC2.out
            have HB3 := Lib.hid (bstep HBE.out hb)
            clear hb c1
            rcases HLS.out with hl | ⟨hl, hlt⟩
            · have d4 : decide ((x.length : Int) < (y.length : Int)) = false := by simp; omega
              have d5 : ((y.length : Int) == (x.length : Int)) = false := by rw [beq_eq_false_iff_ne]; omega
              have d6 : decide (x.length < y.length) = false := by simp; omega
              clear hl
              go_wp2_with (fail)
              go_roundw
              case rel => exact ⟨k + 1, by omega, by go_num, HB3.out⟩
              case measure => simp [intOf]; omega
            · have d4 : decide ((x.length : Int) < (y.length : Int)) = false := by simp; omega
              have d5 : ((y.length : Int) == (x.length : Int)) = true := by rw [beq_iff_eq]; omega
              have d6 : decide (x.length < y.length) = false := by simp; omega
              have d7 : Op.bytesLess y x = true := by rw [less_eq]; simpa using hlt
              clear hl hlt
              go_wp2_with (fail)
              go_roundw
              case rel => exact ⟨k + 1, by omega, by go_num, HB3.out⟩
              case measure => simp [intOf]; omega
          · have es := hlast (by omega)
            rw [es] at H22
            have d1 : decide ((k : Int) < (m : Int) - 1) = false := by simp; omega
            clear hx hy hlast es
            go_wp2_with (fail)
            refine H22.out.mono ?_
            rintro e w3 ⟨rfl, hb⟩
            have HB3 := Lib.hid (bstep HBE.out hb)
            clear hb c1
            go_wp2_with (fail)
            go_roundw
            case rel => exact ⟨k + 1, by omega, by go_num, HB3.out⟩
            case measure => simp [intOf]; omega
        · obtain rfl : m = k := by omega
          have HN2 := Lib.hid (HN.out wr (bstep B2.out HBE.out))
          have HCZ := Lib.hid (cell_keep HBE.out (HC.out (m - 1) z HZ.out))
          have d1 : (0 : Int) ≤ (m : Int) - 1 := by omega
          have d2 : (m : Int) - 1 < (m : Int) := by omega
          have d3 : ((m : Int) - 1).toNat = m - 1 := by omega
          go_wp2_with (fail)
          refine HN2.out.mono ?_
          rintro e w3 ⟨rfl, hb⟩
          have c2 := cell_keep hb HCZ.out
          have HB3 := Lib.hid (bstep HBE.out hb)
          clear hb
          go_wp2_with (fail)
          refine (H13.out _).mono ?_
          rintro e w6 ⟨rfl, hb⟩
          go_wp2_with (fail)
          go_ret
          exact ⟨rfl, bstep (bstep B2.out HB3.out) hb⟩
end Go.Proofs.Ytamdonlncfmmmaa
