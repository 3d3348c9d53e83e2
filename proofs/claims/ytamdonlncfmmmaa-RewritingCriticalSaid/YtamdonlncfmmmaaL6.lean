/-
  RewritingContradicts.
-/
import Derived.Test.YtamdonlncfmmmaaPForm
namespace Go.Proofs.Ytamdonlncfmmmaa
open Go.RowKit Go.Ap Go.Shelf Go.Proofs

attribute [local go_sem] Oper.semAt_some bs_toList empty_toList bs_size ext_drop ext_take bs_append

theorem word_take {s : Str} (h : wordB s = true) (k : Nat) : wordB (s.take k) = true := by
  unfold wordB at h ⊢
  rw [List.all_eq_true] at h ⊢
  exact fun c hc => h c (List.mem_of_mem_take hc)
theorem crit_word {rs : List Rule} (h : chkR rs = 0) (hg : greatB rs = false) {z : Trip} (hz : z ∈ critL rs) : z.1.length ≤ 10 ∧ wordB z.1 = true := by
  obtain ⟨x, y, b, hx, hy, hz⟩ := crit_mem hz
  have h1 := (great_short hg h x hx).1
  have h2 := (great_short hg h y hy).1
  have w1 := (right_ok (chk_all h x hx)).2.2.2.2.1
  have w2 := (right_ok (chk_all h y hy)).2.2.2.2.1
  rcases List.mem_append.1 hz with hz | hz
  · obtain ⟨t, _, ht⟩ := List.mem_filterMap.1 hz
    unfold ovl at ht
    split at ht
    · injection ht with ht
      subst ht
      simp only [List.length_append, List.length_take, word_append, word_take w1, w2, Bool.and_self, and_true]
      omega
    · cases ht
  · unfold incs at hz
    split at hz
    · cases hz
    · obtain ⟨t, _, ht⟩ := List.mem_filterMap.1 hz
      unfold inc at ht
      split at ht
      · injection ht with ht
        subst ht
        exact ⟨by simp only; omega, w1⟩
      · cases ht
theorem conL_zero {rs : List Rule} : ∀ {l : List Trip} {is : Bool}, (conL rs l is).2 = 0 → ∀ z ∈ l, (allE rs z.1).1 = 0
  | [], _, _ => fun z hz => by cases hz
  | z :: l, is, h => by
    rw [conL] at h
    split at h
    · rename_i h0
      intro y hy
      rcases List.mem_cons.1 hy with rfl | hy
      · exact h0
      · exact conL_zero h y hy
    · rename_i h0; exact absurd h h0
theorem contra_law {rs : List Rule} (hf : fineB rs [] = true) : ((CoE rs).2 = 0 ∨ (CoE rs).2 = 4) ∧ (((CrE rs).1 = 0 ∧ (CrE rs).2 = critL rs ∧ (critL rs).length ≤ 4096) ∨ (CrE rs).1 = 4) ∧
    ((CoE rs).2 = 0 → (CrE rs).1 = 0 → CoE rs = conL rs (critL rs) true ∧ ∀ z ∈ critL rs, z.1.length ≤ 10 ∧ AllE rs z.1 = allE rs z.1 ∧ (allE rs z.1).1 = 0) := by
  obtain ⟨h1, _, hg⟩ := fine_ok hf
  refine ⟨coE_rng h1, crE_rng h1, fun h2 h3 => ?_⟩
  rcases crE_rng h1 with ⟨_, h4, _⟩ | h4
  · have h5 : CoE rs = conL rs (critL rs) true := by unfold CoE; rw [if_pos h3, h4]
    refine ⟨h5, fun z hz => ?_⟩
    obtain ⟨l1, l2⟩ := crit_word h1 hg hz
    exact ⟨l1, allE_of (chkW_of h1 (by omega) l2), conL_zero (by rw [← h5]; exact h2) z hz⟩
  · omega
set_option maxRecDepth 100000 in
set_option maxHeartbeats 4000000 in
theorem law6 (a : Option Addr) (n c : Nat) (rs : List Rule) (w : World) (h : Rls w a n rs) :
    Calls Try.prog 6 #[.slice a n c] w fun e w' => e = .returned (.bool true) ∧ Below w.heap.size w w' := by
  have HX := Lib.hid (fun W (hb : Below w.heap.size w W) => h.mono (Nat.le_refl _) hb)
  have H32 := Lib.hid (fine32 a none n 0 c 0 rs [] w h (Sl.nil _ _) (by intro s hs; cases hs))
  have H13 := Lib.hid awake13
  cases hf : fineB rs []
  · rw [hf] at H32
    clear hf HX h
    go_enter Try.func6, Try.ntmps6
    go_wp2_with (fail)
    refine H32.out.mono ?_
    rintro e w1 ⟨rfl, hb⟩
    have B1 := Lib.hid hb
    clear hb
    go_wp2_with (fail)
    refine (H13.out _).mono ?_
    rintro e w2 ⟨rfl, hb⟩
    go_wp2_with (fail)
    go_ret
    exact ⟨rfl, bstep B1.out hb⟩
  · rw [hf] at H32
    obtain ⟨r1, r2, hall⟩ := contra_law hf
    have HC := Lib.hid (fun W hb => confluent18 a n c rs W (HX.out W hb))
    have HR := Lib.hid (fun W hb => callsIn_wide.1 (critical16 a n c rs W (HX.out W hb)))
    have HA := Lib.hid (fun z W hb hz => all14 a n c rs z W (HX.out W hb) hz)
    have HD := Lib.hid hall
    have R1 := Lib.hid r1
    have R2 := Lib.hid r2
    have HOKx := Lib.hid (fun (k : Nat) (x : Trip) (is : Bool) => conL_ok (rs := rs) (l := critL rs) (k := k) (x := x) (is := is))
    clear hf h hall r1 r2
    generalize critL rs = L at *
    generalize CoE rs = co at *
    generalize CrE rs = cr at *
    obtain ⟨is, e⟩ := co
    obtain ⟨f, M⟩ := cr
    simp only at HD R1 R2 HC HR
    go_enter Try.func6, Try.ntmps6
    go_wp2_with (fail)
    refine H32.out.mono ?_
    rintro e w1 ⟨rfl, hb⟩
    have B1 := Lib.hid hb
    clear hb
    go_wp2_with (fail)
    refine (HC.out _ B1.out).mono ?_
    rintro e w2 ⟨rfl, hb⟩
    have B2 := Lib.hid (bstep B1.out hb)
    clear hb B1
    go_wp2_with (fail)
    refine (HR.out _ B2.out).mono ?_
    rintro e w3 ⟨v, rfl, ho, hb⟩
    have B3 := Lib.hid (bstep B2.out hb)
    have HO := Lib.hid ho
    clear hb B2 HC HR H32 ho
    rcases R2.out with ⟨rfl, hM, hlen⟩ | rfl
    · obtain rfl := hM
      rcases R1.out with rfl | rfl
      · obtain ⟨g1, g2⟩ := HD.out rfl rfl
        have HG1 := Lib.hid g1
        have HG2 := Lib.hid g2
        clear HD R1 R2 g1 g2
        obtain ⟨av, ac, rfl⟩ := HO.out.shape
        rw [List.length_map]
        generalize hm : M.length = m at *
        have HM := Lib.hid hm
        clear hm
        go_wp2_with (fail)
        go_loopw [7, 51] (fun ov kv wr => ∃ (k : Nat) (one : Bool), k ≤ m ∧ ov = .bool one ∧ kv = .int .i64 k ∧ (is, (0 : Int)) = conL rs (M.drop k) one ∧ Below w3.heap.size w3 wr) (fun _ kv _ => m - (intOf kv).toNat)
        case atStart => exact ⟨0, true, Nat.zero_le _, rfl, rfl, HG1.out, Below.refl _ _⟩
        case round =>
          obtain ⟨k, one, hk, rfl, rfl, hco, hbel⟩ := hrel
          have HCO := Lib.hid hco
          have HBE := Lib.hid hbel
          clear hco hbel HG1
          by_cases hkm : k < m
          · obtain ⟨x, hx⟩ : ∃ x, M[k]? = some x := ⟨_, List.getElem?_eq_getElem (by rw [HM.out]; exact hkm)⟩
            obtain ⟨b, bc, u, hav, c1, hu⟩ := (HO.out.below HBE.out).at (k := k) (xs := tripS x) (by simp [hx])
            injection hav with hav hlq hcap
            subst hav hcap
            clear hlq
            obtain ⟨g, gc, rfl, _, hcell⟩ := hu.addr (by simp [tripS])
            have c2 := hcell 0 x.1 rfl
            obtain ⟨lx, ex, zx⟩ := HG2.out x (List.mem_of_getElem? hx)
            have HA2 := Lib.hid (HA.out x.1 wr (bstep B3.out HBE.out) (by omega))
            rw [ex] at HA2
            have HN := Lib.hid (HCO.out.trans (HOKx.out k x one hx zx))
            generalize allE rs x.1 = r at *
            obtain ⟨q, N⟩ := r
            simp only at zx HA2 HN
            subst zx
            simp only [tripS, List.length_cons, List.length_nil] at c1
            clear hx hu hcell lx ex
            go_wp2_with (fail)
            refine HA2.out.mono ?_
            rintro e w4 ⟨v, rfl, ho2, hb2⟩
            obtain ⟨mv, mc, rfl⟩ := ownS_shape ho2
            have HB2 := Lib.hid (bstep HBE.out hb2)
            clear ho2 hb2 HA2
            generalize N.length = ml at *
            cases one
            · go_wp2_with (fail)
              go_roundw
              case rel => exact ⟨k + 1, false, by omega, by simp, by simp, by rw [HN.out]; simp, HB2.out⟩
              case measure => simp [intOf]; omega
            · by_cases h1 : ml = 1
              · subst h1
                go_wp2_with (fail)
                go_roundw
                case rel => exact ⟨k + 1, true, by omega, by simp, by simp, by rw [HN.out]; simp, HB2.out⟩
                case measure => simp [intOf]; omega
              · have e2 : ((ml : Int) == 1) = false := by rw [beq_eq_false_iff_ne]; omega
                have HN2 := Lib.hid (show (is, (0 : Int)) = conL rs (M.drop (k + 1)) false by rw [HN.out]; simp [h1])
                clear h1
                go_wp2_with (fail)
                go_roundw
                case rel => exact ⟨k + 1, false, by omega, by simp, by simp, HN2.out, HB2.out⟩
                case measure => simp [intOf]; omega
          · obtain rfl : m = k := by omega
            have HE : is = one := by
              have h1 := HCO.out
              rw [List.drop_of_length_le (by rw [HM.out]; exact Nat.le_refl _), conL] at h1
              injection h1
            clear HCO
            subst HE
            cases is
            all_goals
              go_wp2_with (fail)
              refine (H13.out _).mono ?_
              rintro e w6 ⟨rfl, hb⟩
              go_wp2_with (fail)
              go_ret
              exact ⟨rfl, bstep (bstep B3.out HBE.out) hb⟩
      · clear HD R1 R2
        go_wp2_with (fail)
        refine (H13.out _).mono ?_
        rintro e w6 ⟨rfl, hb⟩
        go_wp2_with (fail)
        go_ret
        exact ⟨rfl, bstep B3.out hb⟩
    · rcases R1.out with rfl | rfl
      all_goals
        clear HD R1 R2
        go_wp2_with (fail)
        refine (H13.out _).mono ?_
        rintro e w6 ⟨rfl, hb⟩
        go_wp2_with (fail)
        go_ret
        exact ⟨rfl, bstep B3.out hb⟩
end Go.Proofs.Ytamdonlncfmmmaa
