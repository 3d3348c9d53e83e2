/-
  Why the head of a collation is not valid, as the reference says it.
-/
import Derived.Test.YtngdmpkoedpgdaaGreatDoorCk
namespace Go.Proofs.YtngdmpkoedpgdaaGreatDoor
open Go.RowKit Go.Ap Go.Shelf Go.Proofs

attribute [local go_sem] Oper.semAt_some bs_toList empty_toList bs_size bs_extract
theorem no_dup {sig : List Str} {i : Nat} {s : Str} (h : ∀ j, j < i → sig[j]? ≠ some s) : (sig.take i).contains s = false := by
  rw [Bool.eq_false_iff]
  intro hc
  rw [List.contains_iff_mem] at hc
  obtain ⟨j, hj⟩ := List.getElem?_of_mem hc
  rw [List.getElem?_take] at hj
  split at hj
  · exact h j (by omega) hj
  · cases hj
theorem a_dup {sig : List Str} {i k : Nat} {s : Str} (hk : k < i) (h : sig[k]? = some s) : (sig.take i).contains s = true := by
  rw [List.contains_iff_mem]
  exact List.mem_of_getElem? (i := k) (by rw [List.getElem?_take, if_pos hk]; exact h)
theorem any_no {l : List Tok} (h : ∀ j t, j < l.length → l[j]? = some t → tokC t = 0) : (l.any fun t => decide (tokC t ≠ 0)) = false := by
  rw [List.any_eq_false]
  intro t ht
  obtain ⟨j, hj⟩ := List.getElem?_of_mem ht
  have := h j t (List.getElem?_eq_some_iff.1 hj).1 hj
  simp [this]

set_option maxRecDepth 100000 in
set_option maxHeartbeats 4000000 in
theorem headR (sec : Str) (a1 : Option Addr) (n1 c1 : Nat) (sig : List Str) (a2 : Option Addr) (n2 c2 : Nat) (tk : List (List Tok)) (w : World)
    (hsec : sec.length ≤ 4611686018427387903) (h1 : StrsL w a1 n1 sig) (hsl : ∀ s ∈ sig, s.length ≤ 4611686018427387903) (h2 : Toks2 w a2 n2 tk) :
    Calls Tryz.prog 101 #[.string (bs sec), .slice a1 n1 c1, .slice a2 n2 c2] w fun e w' => e = .returned (.int .i64 (headC sec sig tk)) ∧ Below w.heap.size w w' := by
  have HN := Lib.hid (nameR sec w hsec)
  have hl1 := h1.len
  have hl2 := h2.len
  have hs1 := h1.small
  have hs2 := h2.small
  have H1 := Lib.hid h1
  have H2 := Lib.hid h2
  have HSL := Lib.hid hsl
  clear h1 h2 hsl
  cases hn : nameB sec
  · rw [hn] at HN
    have HR := Lib.hid (head_1 (sig := sig) (tk := tk) hn)
    clear hn
    go_enter Tryz.func101, Tryz.ntmps101
    go_wp2_with (fail)
    refine HN.out.mono ?_
    rintro e w1 ⟨rfl, hb⟩
    go_wp2_with (fail)
    go_ret
    exact ⟨ret_i HR.out.symm, hb⟩
  · rw [hn] at HN
    by_cases h0 : n1 = 0
    · have HR := Lib.hid (head_2 (tk := tk) hn (by rw [hl1]; exact h0))
      subst h0
      clear hn
      go_enter Tryz.func101, Tryz.ntmps101
      go_wp2_with (fail)
      refine HN.out.mono ?_
      rintro e w1 ⟨rfl, hb⟩
      go_wp2_with (fail)
      go_ret
      exact ⟨ret_i HR.out.symm, hb⟩
    · have e0 : ((n1 : Int) == 0) = false := by rw [beq_eq_false_iff_ne]; omega
      by_cases h32 : 32 < n1
      · have d32 : decide ((32 : Int) < (n1 : Int)) = true := by simp; omega
        have HR := Lib.hid (head_3 (sig := sig) (tk := tk) hn (by rw [hl1]; exact h32))
        clear hn
        go_enter Tryz.func101, Tryz.ntmps101
        go_wp2_with (fail)
        refine HN.out.mono ?_
        rintro e w1 ⟨rfl, hb⟩
        go_wp2_with (fail)
        go_ret
        exact ⟨ret_i HR.out.symm, hb⟩
      · have d32 : decide ((32 : Int) < (n1 : Int)) = false := by simp; omega
        have HD := Lib.hid (⟨hn, by omega, by omega⟩ : nameB sec = true ∧ ¬ sig.length = 0 ∧ ¬ 32 < sig.length)
        obtain ⟨b, off, rfl, hcl⟩ := H1.out.at (by omega)
        have HCL := Lib.hid hcl
        clear hn hcl
        go_enter Tryz.func101, Tryz.ntmps101
        go_wp2_with (fail)
        refine HN.out.mono ?_
        rintro e w1 ⟨rfl, hb⟩
        have HB1 := Lib.hid hb
        clear hb
        go_wp2_with (fail)
        go_loopw [7] (fun iv wr => ∃ i : Nat, i ≤ n1 ∧ iv = .int .i64 i ∧ Below w.heap.size w wr ∧ sigE [] sig = sigE (sig.take i) (sig.drop i)) (fun iv _ => n1 - (intOf iv).toNat)
        case atStart => exact ⟨0, Nat.zero_le _, rfl, HB1.out, rfl⟩
        case round =>
          obtain ⟨i, hi, rfl, hb, hm⟩ := hrel
          have HM := Lib.hid hm
          have HB := Lib.hid hb
          clear hm
          by_cases hlt : i < n1
          · have hil : i < sig.length := by omega
            have hci := cell_keep hb (HCL.out i sig[i] (List.getElem?_eq_getElem hil))
            obtain ⟨s, hs⟩ : ∃ s, sig[i] = s := ⟨_, rfl⟩
            have HSG := Lib.hid (fun W => sigR s W (by rw [← hs]; exact HSL.out _ (List.getElem_mem hil)))
            have HS := Lib.hid hs
            rw [hs] at hci
            clear hs hb
            cases hsb : sigB s
            · rw [hsb] at HSG
              have HR := Lib.hid (head_4 (tk := tk) HD.out.1 HD.out.2.1 HD.out.2.2 (sigE_bad hil HM.out (by rw [HS.out]; exact hsb)) (by decide))
              clear hsb
              go_wp2_with (fail)
              refine (HSG.out _).mono ?_
              rintro e w1 ⟨rfl, hb2⟩
              go_wp2_with (fail)
              go_ret
              exact ⟨ret_i HR.out.symm, bstep HB.out hb2⟩
            · rw [hsb] at HSG
              have HSB := Lib.hid (show sigB sig[i] = true by rw [HS.out]; exact hsb)
              clear hsb
              go_wp2_with (fail)
              refine (HSG.out _).mono ?_
              rintro e w2 ⟨rfl, hb2⟩
              have HB2 := Lib.hid (bstep HB.out hb2)
              clear hb2 hci
              go_wp2_with (fail)
              go_loopw [8] (fun kv wi => ∃ k : Nat, k ≤ i ∧ kv = .int .i64 k ∧ Below w.heap.size w wi ∧ ∀ j, j < k → sig[j]? ≠ some s) (fun kv _ => i - (intOf kv).toNat)
              case atStart => exact ⟨0, Nat.zero_le _, rfl, HB2.out, fun j hj => by omega⟩
              case round =>
                obtain ⟨k, hk, rfl, hbk, hj⟩ := hrel
                have HJ := Lib.hid hj
                have HBK := Lib.hid hbk
                clear hj
                by_cases hki : k < i
                · have hkl : k < sig.length := by omega
                  have hck := cell_keep hbk (HCL.out k sig[k] (List.getElem?_eq_getElem hkl))
                  have hci := cell_keep hbk (HCL.out i sig[i] (List.getElem?_eq_getElem hil))
                  rw [HS.out] at hci
                  obtain ⟨u, hu⟩ : ∃ u, sig[k] = u := ⟨_, rfl⟩
                  rw [hu] at hck
                  have HU := Lib.hid (show sig[k]? = some u by rw [← hu]; exact List.getElem?_eq_getElem hkl)
                  clear hu hbk
                  by_cases hus : u = s
                  · have eu : (u == s) = true := by rw [beq_iff_eq]; exact hus
                    have HR := Lib.hid (head_4 (tk := tk) HD.out.1 HD.out.2.1 HD.out.2.2 (sigE_dup hil HM.out HSB.out (by rw [HS.out]; exact a_dup hki (by rw [HU.out, hus]))) (by decide))
                    clear hus
                    go_wp2_with (fail)
                    go_quiet (fail)
                    go_wp2_with (fail)
                    go_ret
                    exact ⟨ret_i HR.out.symm, bstep HBK.out (bdrewN _ _)⟩
                  · have eu : (u == s) = false := by rw [beq_eq_false_iff_ne]; exact hus
                    have HUS := Lib.hid hus
                    clear hus
                    go_wp2_with (fail)
                    go_quiet (fail)
                    go_wp2_with (fail)
                    exact ⟨⟨k + 1, by omega, by simp, bstep HBK.out (bdrewN _ _), fun j hj => by
                      by_cases hjk : j = k
                      · rw [hjk, HU.out]; exact fun h => HUS.out (Option.some.inj h)
                      · exact HJ.out j (by omega)⟩, by simp [intOf]; omega⟩
                · obtain rfl : k = i := by omega
                  have HGO := Lib.hid (sigE_go hil HM.out HSB.out (by rw [HS.out]; exact no_dup HJ.out))
                  go_wp2_with (fail)
                  exact ⟨⟨k + 1, by omega, by simp, HBK.out, HGO.out⟩, by simp [intOf]; omega⟩
          · obtain rfl : i = n1 := by omega
            have HE := Lib.hid (sigE_end (by rw [hl1]; exact HM.out))
            by_cases h9 : n2 = i
            · have e9 : ((n2 : Int) != (i : Int)) = false := by rw [bne, Bool.not_eq_false', beq_iff_eq]; omega
              have HR := Lib.hid (head_6 HD.out.1 HD.out.2.1 HD.out.2.2 HE.out (show tk.length = sig.length by omega))
              clear HM HE h9 hb
              go_wp2_with (fail)
              go_loopw [9] (fun kv wi => ∃ k : Nat, k ≤ n2 ∧ kv = .int .i64 k ∧ Below w.heap.size w wi ∧ tokE tk = tokE (tk.drop k)) (fun kv _ => n2 - (intOf kv).toNat)
              case atStart => exact ⟨0, Nat.zero_le _, rfl, HB.out, rfl⟩
              case round =>
                obtain ⟨k, hk, rfl, hbk, hm⟩ := hrel
                have HM := Lib.hid hm
                have HBK := Lib.hid hbk
                clear hm
                by_cases hkl : k < n2
                · have hkt : k < tk.length := by omega
                  obtain ⟨l, b', off', v, hl, hab, hcv0, a, n, c, rfl, ht⟩ := H2.out.at hkl
                  have hcv := cell_keep hbk hcv0
                  have HCV := Lib.hid hcv0
                  have hle : tk[k] = l := by
                    rw [List.getElem?_eq_getElem hkt] at hl
                    exact Option.some.inj hl
                  have HLE := Lib.hid hle
                  have HAT := Lib.hid (tokE_at hkt)
                  have hln := ht.len
                  have hsn := ht.small
                  have HT := Lib.hid ht
                  rw [hab]
                  clear hl hle ht hab hbk hcv0
                  by_cases h4 : 1024 < n
                  · have d4 : decide ((1024 : Int) < (n : Int)) = true := by simp; omega
                    have HRR := Lib.hid (show tokE tk = 4 by rw [HM.out, HAT.out, if_pos (by rw [HLE.out, hln]; exact h4)])
                    clear h4
                    go_wp2_with (fail)
                    go_ret
                    exact ⟨ret_i (by rw [HR.out, HRR.out]), HBK.out⟩
                  · have d4 : decide ((1024 : Int) < (n : Int)) = false := by simp; omega
                    have HN4 := Lib.hid (show ¬ 1024 < tk[k].length by rw [HLE.out, hln]; exact h4)
                    clear h4 hcv
                    have hcv := cell_keep HBK.out HCV.out
                    go_wp2_with (fail)
                    clear hcv
                    go_loopw [10] (fun jv wj => ∃ j : Nat, j ≤ n ∧ jv = .int .i64 j ∧ Below w.heap.size w wj ∧ ∀ m t, m < j → l[m]? = some t → tokC t = 0) (fun jv _ => n - (intOf jv).toNat)
                    case atStart => exact ⟨0, Nat.zero_le _, rfl, HBK.out, fun m t hm => by omega⟩
                    case round =>
                      obtain ⟨j, hj, rfl, hbj, hz⟩ := hrel
                      have HZ := Lib.hid hz
                      have HBJ := Lib.hid hbj
                      have hcv := cell_keep hbj HCV.out
                      clear hz
                      by_cases hjn : j < n
                      · obtain ⟨t, b6, o6, ht, rfl, ⟨⟨q0, q1, q2, q3, q4, q5⟩, hts⟩⟩ := (HT.out.mono (Nat.le_refl _) hbj).at hjn
                        have HTC := Lib.hid (fun W => tokRf t W hts)
                        have HTT := Lib.hid ht
                        unfold tokV at HTC
                        clear ht hts hbj
                        by_cases ht0 : tokC t = 0
                        · rw [ht0] at HTC
                          have HT0 := Lib.hid ht0
                          clear ht0
                          go_wp2_with (fail)
                          refine (HTC.out _).mono ?_
                          rintro e w3 ⟨rfl, hb3⟩
                          have HB3 := Lib.hid (bstep HBJ.out hb3)
                          clear hb3
                          go_wp2_with (fail)
                          exact ⟨⟨j + 1, by omega, by simp, HB3.out, fun m t' hm hmt => by
                            by_cases hmj : m = j
                            · rw [hmj, HTT.out] at hmt
                              rw [← Option.some.inj hmt]; exact HT0.out
                            · exact HZ.out m t' (by omega) hmt⟩, by simp [intOf]; omega⟩
                        · have et : (tokC t != 0) = true := by rw [bne_iff_ne]; exact ht0
                          have HAN := Lib.hid (show (l.any fun t => decide (tokC t ≠ 0)) = true from List.any_eq_true.2 ⟨t, List.mem_of_getElem? HTT.out, decide_eq_true ht0⟩)
                          have HRR := Lib.hid (show tokE tk = 1 by rw [HM.out, HAT.out, if_neg HN4.out, if_pos (by rw [HLE.out]; exact HAN.out)])
                          generalize tokC t = tc at *
                          clear ht0
                          go_wp2_with (fail)
                          refine (HTC.out _).mono ?_
                          rintro e w3 ⟨rfl, hb3⟩
                          go_wp2_with (fail)
                          go_ret
                          exact ⟨ret_i (by rw [HR.out, HRR.out]), bstep HBJ.out hb3⟩
                      · obtain rfl : j = n := by omega
                        have HRR := Lib.hid (show tokE tk = tokE (tk.drop (k + 1)) by rw [HM.out, HAT.out, if_neg HN4.out, if_neg (by rw [HLE.out, any_no (fun m t hm hmt => HZ.out m t (by omega) hmt)]; exact Bool.false_ne_true)])
                        clear hbj
                        go_wp2_with (fail)
                        exact ⟨⟨k + 1, by omega, by simp, HBJ.out, HRR.out⟩, by simp [intOf]; omega⟩
                · obtain rfl : k = n2 := by omega
                  have HRR := Lib.hid (tokE_end (by rw [hl2]; exact HM.out))
                  clear hbk
                  go_wp2_with (fail)
                  go_ret
                  exact ⟨ret_i (by rw [HR.out, HRR.out]), HBK.out⟩
            · have e9 : ((n2 : Int) != (i : Int)) = true := by rw [bne_iff_ne]; omega
              have HR := Lib.hid (head_5 HD.out.1 HD.out.2.1 HD.out.2.2 HE.out (show tk.length ≠ sig.length by omega))
              clear HM HE h9 hb
              go_wp2_with (fail)
              go_ret
              exact ⟨ret_i HR.out.symm, HB.out⟩
end Go.Proofs.YtngdmpkoedpgdaaGreatDoor
