import Derived.Test.YtjmebijckcimoaaGreatDoorCk


namespace Go.Proofs.YtjmebijckcimoaaGreatDoor
open Go.RowKit Go.Ap Go.Shelf Go.Proofs

attribute [local go_sem] Oper.semAt_some bs_toList empty_toList bs_size bs_extract
theorem no_dup {sig : List Str} {i : Nat} {s : Str} (h : ∀ j, j < i → sig[j]? ≠ some s) : (sig.take i).contains s = false := by
  rw [Bool.eq_false_iff]
  intro hc
  rw [List.contains_iff_mem] at hc
  obtain ⟨j, hj⟩ := List.getElem?_of_mem hc
  rw [List.getElem?_take] at hj
  split at hj
  · exact h j (by omega) hj
  · cases hj
theorem a_dup {sig : List Str} {i k : Nat} {s : Str} (hk : k < i) (h : sig[k]? = some s) : (sig.take i).contains s = true := by
  rw [List.contains_iff_mem]
  exact List.mem_of_getElem? (i := k) (by rw [List.getElem?_take, if_pos hk]; exact h)
theorem any_no {l : List Tok} (h : ∀ j t, j < l.length → l[j]? = some t → tokC t = 0) : (l.any fun t => decide (tokC t ≠ 0)) = false := by
  rw [List.any_eq_false]
  intro t ht
  obtain ⟨j, hj⟩ := List.getElem?_of_mem ht
  have := h j t (List.getElem?_eq_some_iff.1 hj).1 hj
  simp [this]

set_option maxRecDepth 100000 in
set_option maxHeartbeats 4000000 in
theorem headR (sec : Str) (a1 : Option Addr) (n1 c1 : Nat) (sig : List Str) (a2 : Option Addr) (n2 c2 : Nat) (tk : List (List Tok)) (w : World)
    (hsec : sec.length ≤ 4611686018427387903) (h1 : StrsL w a1 n1 sig) (hsl : ∀ s ∈ sig, s.length ≤ 4611686018427387903) (h2 : Toks2 w a2 n2 tk) :
    Calls Tryz.prog 72 #[.string (bs sec), .slice a1 n1 c1, .slice a2 n2 c2] w fun e w' => e = .returned (.int .i64 (headC sec sig tk)) ∧ Below w.heap.size w w' := by
  have HN := Lib.hid (nameR sec w hsec)
  have hl1 := h1.len
  have hl2 := h2.len
  have hs1 := h1.small
  have hs2 := h2.small
  have H1 := Lib.hid h1
  have H2 := Lib.hid h2
  have HSL := Lib.hid hsl
  clear h1 h2 hsl
  cases hn : nameB sec
  · rw [hn] at HN
    have HR := Lib.hid (head_1 (sig := sig) (tk := tk) hn)
    clear hn
    go_enter Tryz.func72, Tryz.ntmps72
    go_wp2_with (fail)
    refine HN.out.mono ?_
    rintro e w1 ⟨rfl, hb⟩
    go_wp2_with (fail)
    go_ret
    exact ⟨ret_i HR.out.symm, hb⟩
  · rw [hn] at HN
    by_cases h0 : n1 = 0
    · have HR := Lib.hid (head_2 (tk := tk) hn (by rw [hl1]; exact h0))
      subst h0
      clear hn
      go_enter Tryz.func72, Tryz.ntmps72
      go_wp2_with (fail)
      refine HN.out.mono ?_
      rintro e w1 ⟨rfl, hb⟩
      go_wp2_with (fail)
      go_ret
      exact ⟨ret_i HR.out.symm, hb⟩
    · have e0 : ((n1 : Int) == 0) = false := by rw [beq_eq_false_iff_ne]; omega
      by_cases h32 : 32 < n1
      · have d32 : decide ((32 : Int) < (n1 : Int)) = true := by simp; omega
        have HR := Lib.hid (head_3 (sig := sig) (tk := tk) hn (by rw [hl1]; exact h32))
        clear hn
        go_enter Tryz.func72, Tryz.ntmps72
        go_wp2_with (fail)
        refine HN.out.mono ?_
        rintro e w1 ⟨rfl, hb⟩
        go_wp2_with (fail)
        go_ret
        exact ⟨ret_i HR.out.symm, hb⟩
      · have d32 : decide ((32 : Int) < (n1 : Int)) = false := by simp; omega
        have HD := Lib.hid (⟨hn, by omega, by omega⟩ : nameB sec = true ∧ ¬ sig.length = 0 ∧ ¬ 32 < sig.length)
        obtain ⟨b, off, rfl, hcl⟩ := H1.out.at (by omega)
        have HCL := Lib.hid hcl
        clear hn hcl
        go_enter Tryz.func72, Tryz.ntmps72
        go_wp2_with (fail)
        refine HN.out.mono ?_
        rintro e w1 ⟨rfl, hb⟩
        have HB1 := Lib.hid hb
        clear hb
        go_wp2_with (fail)
        go_loopw [7] (fun iv wr => ∃ i : Nat, i ≤ n1 ∧ iv = .int .i64 i ∧ Below w.heap.size w wr ∧ sigE [] sig = sigE (sig.take i) (sig.drop i)) (fun iv _ => n1 - (intOf iv).toNat)
        case atStart => exact ⟨0, Nat.zero_le _, rfl, HB1.out, rfl⟩
        case round =>
          obtain ⟨i, hi, rfl, hb, hm⟩ := hrel
          have HM := Lib.hid hm
          have HB := Lib.hid hb
          clear hm
          by_cases hlt : i < n1
          · have hil : i < sig.length := by omega
            have hci := cell_keep hb (HCL.out i sig[i] (List.getElem?_eq_getElem hil))
            obtain ⟨s, hs⟩ : ∃ s, sig[i] = s := ⟨_, rfl⟩
            have HSG := Lib.hid (fun W => sigR s W (by rw [← hs]; exact HSL.out _ (List.getElem_mem hil)))
            have HS := Lib.hid hs
            rw [hs] at hci
            clear hs hb
            cases hsb : sigB s
            · rw [hsb] at HSG
              have HR := Lib.hid (head_4 (tk := tk) HD.out.1 HD.out.2.1 HD.out.2.2 (sigE_bad hil HM.out (by rw [HS.out]; exact hsb)) (by decide))
              clear hsb
              go_wp2_with (fail)
              refine (HSG.out _).mono ?_
              rintro e w1 ⟨rfl, hb2⟩
              go_wp2_with (fail)
              go_ret
              exact ⟨ret_i HR.out.symm, bstep HB.out hb2⟩
            · rw [hsb] at HSG
              have HSB := Lib.hid (show sigB sig[i] = true by rw [HS.out]; exact hsb)
              clear hsb
              go_wp2_with (fail)
              refine (HSG.out _).mono ?_
              rintro e w2 ⟨rfl, hb2⟩
              have HB2 := Lib.hid (bstep HB.out hb2)
              clear hb2 hci
              go_wp2_with (fail)
              go_loopw [8] (fun kv wi => ∃ k : Nat, k ≤ i ∧ kv = .int .i64 k ∧ Below w.heap.size w wi ∧ ∀ j, j < k → sig[j]? ≠ some s) (fun kv _ => i - (intOf kv).toNat)
              case atStart => exact ⟨0, Nat.zero_le _, rfl, HB2.out, fun j hj => by omega⟩
              case round =>
                obtain ⟨k, hk, rfl, hbk, hj⟩ := hrel
                have HJ := Lib.hid hj
                have HBK := Lib.hid hbk
                clear hj
                by_cases hki : k < i
                · have hkl : k < sig.length := by omega
                  have hck := cell_keep hbk (HCL.out k sig[k] (List.getElem?_eq_getElem hkl))
                  have hci := cell_keep hbk (HCL.out i sig[i] (List.getElem?_eq_getElem hil))
                  rw [HS.out] at hci
                  obtain ⟨u, hu⟩ : ∃ u, sig[k] = u := ⟨_, rfl⟩
                  rw [hu] at hck
                  have HU := Lib.hid (show sig[k]? = some u by rw [← hu]; exact List.getElem?_eq_getElem hkl)
                  clear hu hbk
                  by_cases hus : u = s
                  · have eu : (u == s) = true := by rw [beq_iff_eq]; exact hus
                    have HR := Lib.hid (head_4 (tk := tk) HD.out.1 HD.out.2.1 HD.out.2.2 (sigE_dup hil HM.out HSB.out (by rw [HS.out]; exact a_dup hki (by rw [HU.out, hus]))) (by decide))
                    clear hus
                    go_wp2_with (fail)
                    go_quiet (fail)
                    go_wp2_with (fail)
                    go_ret
                    exact ⟨ret_i HR.out.symm, bstep HBK.out (bdrewN _ _)⟩
                  · have eu : (u == s) = false := by rw [beq_eq_false_iff_ne]; exact hus
                    have HUS := Lib.hid hus
                    clear hus
                    go_wp2_with (fail)
                    go_quiet (fail)
                    go_wp2_with (fail)
                    exact ⟨⟨k + 1, by omega, by simp, bstep HBK.out (bdrewN _ _), fun j hj => by
                      by_cases hjk : j = k
                      · rw [hjk, HU.out]; exact fun h => HUS.out (Option.some.inj h)
                      · exact HJ.out j (by omega)⟩, by simp [intOf]; omega⟩
                · obtain rfl : k = i := by omega
                  have HGO := Lib.hid (sigE_go hil HM.out HSB.out (by rw [HS.out]; exact no_dup HJ.out))
                  go_wp2_with (fail)
                  exact ⟨⟨k + 1, by omega, by simp, HBK.out, HGO.out⟩, by simp [intOf]; omega⟩
          · obtain rfl : i = n1 := by omega
            have HE := Lib.hid (sigE_end (by rw [hl1]; exact HM.out))
            by_cases h9 : n2 = i
            · have e9 : ((n2 : Int) != (i : Int)) = false := by rw [bne, Bool.not_eq_false', beq_iff_eq]; omega
              have HR := Lib.hid (head_6 HD.out.1 HD.out.2.1 HD.out.2.2 HE.out (show tk.length = sig.length by omega))
              clear HM HE h9 hb
              go_wp2_with (fail)
              go_loopw [9] (fun kv wi => ∃ k : Nat, k ≤ n2 ∧ kv = .int .i64 k ∧ Below w.heap.size w wi ∧ tokE tk = tokE (tk.drop k)) (fun kv _ => n2 - (intOf kv).toNat)
              case atStart => exact ⟨0, Nat.zero_le _, rfl, HB.out, rfl⟩
              case round =>
                obtain ⟨k, hk, rfl, hbk, hm⟩ := hrel
                have HM := Lib.hid hm
                have HBK := Lib.hid hbk
                clear hm
                by_cases hkl : k < n2
                · have hkt : k < tk.length := by omega
                  obtain ⟨l, b', off', v, hl, hab, hcv0, a, n, c, rfl, ht⟩ := H2.out.at hkl
                  have hcv := cell_keep hbk hcv0
                  have HCV := Lib.hid hcv0
                  have hle : tk[k] = l := by
                    rw [List.getElem?_eq_getElem hkt] at hl
                    exact Option.some.inj hl
                  have HLE := Lib.hid hle
                  have HAT := Lib.hid (tokE_at hkt)
                  have hln := ht.len
                  have hsn := ht.small
                  have HT := Lib.hid ht
                  rw [hab]
                  clear hl hle ht hab hbk hcv0
                  by_cases h4 : 1024 < n
                  · have d4 : decide ((1024 : Int) < (n : Int)) = true := by simp; omega
                    have HRR := Lib.hid (show tokE tk = 4 by rw [HM.out, HAT.out, if_pos (by rw [HLE.out, hln]; exact h4)])
                    clear h4
                    go_wp2_with (fail)
                    go_ret
                    exact ⟨ret_i (by rw [HR.out, HRR.out]), HBK.out⟩
                  · have d4 : decide ((1024 : Int) < (n : Int)) = false := by simp; omega
                    have HN4 := Lib.hid (show ¬ 1024 < tk[k].length by rw [HLE.out, hln]; exact h4)
                    clear h4 hcv
                    have hcv := cell_keep HBK.out HCV.out
                    go_wp2_with (fail)
                    clear hcv
                    go_loopw [10] (fun jv wj => ∃ j : Nat, j ≤ n ∧ jv = .int .i64 j ∧ Below w.heap.size w wj ∧ ∀ m t, m < j → l[m]? = some t → tokC t = 0) (fun jv _ => n - (intOf jv).toNat)
                    case atStart => exact ⟨0, Nat.zero_le _, rfl, HBK.out, fun m t hm => by omega⟩
                    case round =>
                      obtain ⟨j, hj, rfl, hbj, hz⟩ := hrel
                      have HZ := Lib.hid hz
                      have HBJ := Lib.hid hbj
                      have hcv := cell_keep hbj HCV.out
                      clear hz
                      by_cases hjn : j < n
                      · obtain ⟨t, b6, o6, ht, rfl, ⟨⟨q0, q1, q2, q3, q4, q5⟩, hts⟩⟩ := (HT.out.mono (Nat.le_refl _) hbj).at hjn
                        have HTC := Lib.hid (fun W => tokRf t W hts)
                        have HTT := Lib.hid ht
                        unfold tokV at HTC
                        clear ht hts hbj
                        by_cases ht0 : tokC t = 0
                        · rw [ht0] at HTC
                          have HT0 := Lib.hid ht0
                          clear ht0
                          go_wp2_with (fail)
                          refine (HTC.out _).mono ?_
                          rintro e w3 ⟨rfl, hb3⟩
                          have HB3 := Lib.hid (bstep HBJ.out hb3)
                          clear hb3
                          go_wp2_with (fail)
                          exact ⟨⟨j + 1, by omega, by simp, HB3.out, fun m t' hm hmt => by
                            by_cases hmj : m = j
                            · rw [hmj, HTT.out] at hmt
                              rw [← Option.some.inj hmt]; exact HT0.out
                            · exact HZ.out m t' (by omega) hmt⟩, by simp [intOf]; omega⟩
                        · have et : (tokC t != 0) = true := by rw [bne_iff_ne]; exact ht0
                          have HAN := Lib.hid (show (l.any fun t => decide (tokC t ≠ 0)) = true from List.any_eq_true.2 ⟨t, List.mem_of_getElem? HTT.out, decide_eq_true ht0⟩)
                          have HRR := Lib.hid (show tokE tk = 1 by rw [HM.out, HAT.out, if_neg HN4.out, if_pos (by rw [HLE.out]; exact HAN.out)])
                          generalize tokC t = tc at *
                          clear ht0
                          go_wp2_with (fail)
                          refine (HTC.out _).mono ?_
                          rintro e w3 ⟨rfl, hb3⟩
                          go_wp2_with (fail)
                          go_ret
                          exact ⟨ret_i (by rw [HR.out, HRR.out]), bstep HBJ.out hb3⟩
                      · obtain rfl : j = n := by omega
                        have HRR := Lib.hid (show tokE tk = tokE (tk.drop (k + 1)) by rw [HM.out, HAT.out, if_neg HN4.out, if_neg (by rw [HLE.out, any_no (fun m t hm hmt => HZ.out m t (by omega) hmt)]; exact Bool.false_ne_true)])
                        clear hbj
                        go_wp2_with (fail)
                        exact ⟨⟨k + 1, by omega, by simp, HBJ.out, HRR.out⟩, by simp [intOf]; omega⟩
                · obtain rfl : k = n2 := by omega
                  have HRR := Lib.hid (tokE_end (by rw [hl2]; exact HM.out))
                  clear hbk
                  go_wp2_with (fail)
                  go_ret
                  exact ⟨ret_i (by rw [HR.out, HRR.out]), HBK.out⟩
            · have e9 : ((n2 : Int) != (i : Int)) = true := by rw [bne_iff_ne]; omega
              have HR := Lib.hid (head_5 HD.out.1 HD.out.2.1 HD.out.2.2 HE.out (show tk.length ≠ sig.length by omega))
              clear HM HE h9 hb
              go_wp2_with (fail)
              go_ret
              exact ⟨ret_i HR.out.symm, HB.out⟩
end Go.Proofs.YtjmebijckcimoaaGreatDoor


namespace Go.Proofs.YtjmebijckcimoaaGreatDoor
open Go.RowKit Go.Ap Go.Shelf Go.Proofs

attribute [local go_sem] Oper.semAt_some bs_toList empty_toList bs_size bs_extract

set_option maxRecDepth 100000 in
set_option maxHeartbeats 6000000 in
theorem collR (x : Coll) (a1 : Option Addr) (n1 c1 : Nat) (a2 : Option Addr) (n2 c2 : Nat) (a3 : Option Addr) (n3 c3 : Nat) (w : World) (h : CollM w a1 a2 a3 n1 n2 n3 x) :
    Calls Tryz.prog 43 #[collV x.sec a1 n1 c1 a2 n2 c2 a3 n3 c3] w fun e w' => e = .returned (.int .i64 (collC x)) ∧ Below w.heap.size w w' := by
  unfold collV
  have HS := Lib.hid (fun W (hb : Below w.heap.size w W) => headR x.sec a1 n1 c1 x.sigla a2 n2 c2 x.tokens W h.sec (h.sigla.mono (Nat.le_refl _) hb) h.ssig (Toks2.mono h.tokens (Nat.le_refl _) hb))
  by_cases hh : headC x.sec x.sigla x.tokens = 0
  · obtain ⟨g1, g2, g3, g4, g5, g6⟩ := head_zero hh
    rw [hh] at HS
    have hl1 := h.sigla.len
    have hl2 := h.tokens.len
    have hl3 := h.columns.len
    have hs3 := h.columns.small
    have h12 : n1 = n2 := by omega
    have HH := Lib.hid h
    have HR := Lib.hid (show ∀ b, alignB (lensT x.tokens) x.columns = b → collC x = if b = true then 0 else 19 from fun b hb => by
      cases b
      · exact coll_no hh hb
      · exact coll_al hh hb)
    obtain ⟨L, hL⟩ : ∃ L, lensT x.tokens = L := ⟨_, rfl⟩
    have HL := Lib.hid (show L.length = n2 by rw [← hL, lensT_len]; exact hl2)
    have HLA := Lib.hid (show ∀ k l, x.tokens[k]? = some l → nth L k = (l.length : Int) from fun k l h => by rw [← hL]; exact lensT_at h)
    have HN0 := Lib.hid (show NxOK L (List.replicate L.length 0) from NxOK.zero fun j hj => by rw [← hL]; rw [← hL] at hj; exact lensT_nonneg hj)
    rw [hL] at HR
    obtain ⟨cols, hcols⟩ : ∃ cols, x.columns = cols := ⟨_, rfl⟩
    rw [hcols] at HR hl3
    obtain ⟨i0, hi, hz0, hz1, hz2⟩ := info_parts infoInt
    have h32 : n2 ≤ 32 := by omega
    subst h12
    have hmk : ∀ w, (Instr.makeSlice 44 (.int .i64 n1) (.int .i64 n1)).run Tryz.prog w = .ok (.slice (some ⟨w.heap.size, 0, none⟩) n1 n1) (w.alloc (.cells (Array.replicate n1 (.int .i64 0)) 3)) := fun w => by
      have h := run_make_row (P := Tryz.prog) 44 3 i0 (.int .i64 0) Tryz.underlying44 hi hz0 hz1 rfl .i64 .i64 n1 (by rw [hz2]; omega) (by omega) w
      rw [made_ints, show ((List.replicate n1 (0 : Int)).map (Value.int .i64)).toArray = Array.replicate n1 (.int .i64 0) by simp] at h
      exact h
    have HCOLS := Lib.hid hcols
    clear h hh hL g1 g2 g3 g4 g5 g6 hcols
    go_enter Tryz.func43, Tryz.ntmps43
    go_wp2_with (fail)
    obtain ⟨W4, hW4⟩ : ∃ W4, w.alloc (.cells #[.string (bs x.sec), .slice a1 n1 c1, .slice a2 n1 c2, .slice a3 n3 c3] 26) = W4 := ⟨_, rfl⟩
    have B4 : Below w.heap.size w W4 := by rw [← hW4]; exact balloc _ _
    have k1 : W4.cell? ⟨w.heap.size, 1, none⟩ = some (.slice a1 n1 c1) := by rw [← hW4]; exact cell_fresh rfl rfl
    have k2 : W4.cell? ⟨w.heap.size, 2, none⟩ = some (.slice a2 n1 c2) := by rw [← hW4]; exact cell_fresh rfl rfl
    have k3 : W4.cell? ⟨w.heap.size, 3, none⟩ = some (.slice a3 n3 c3) := by rw [← hW4]; exact cell_fresh rfl rfl
    rw [hW4]
    clear hW4
    refine (HS.out _ B4).mono ?_
    rintro e w1 ⟨rfl, hb1⟩
    have q1 := cell_keep hb1 k1
    have Q2 := Lib.hid (cell_keep hb1 k2)
    have Q3 := Lib.hid (cell_keep hb1 k3)
    have B5 := Lib.hid (bstep B4 hb1)
    have H2 := Lib.hid (Toks2.mono HH.out.tokens (Nat.le_refl _) B5.out)
    have H3 := Lib.hid (Rows2.mono HH.out.columns (Nat.le_refl _) B5.out)
    rw [HCOLS.out] at H3
    clear k1 k2 k3 hb1 B4 HH HS HCOLS
    go_wp2_with (fail)
    obtain ⟨W0, hW0⟩ : ∃ W0, w1.alloc (.cells (Array.replicate n1 (.int .i64 0)) 3) = W0 := ⟨_, rfl⟩
    have hA0 : Arr W0 w1.heap.size 3 (List.replicate L.length 0) := by rw [← hW0, HL.out, Arr, show ((List.replicate n1 (0 : Int)).map (Value.int .i64)).toArray = Array.replicate n1 (.int .i64 0) by simp]; exact heap_fresh rfl
    have hb0 : Below w1.heap.size w1 W0 := by rw [← hW0]; exact balloc _ _
    rw [hW0]
    clear hmk hW0 q1
    generalize hBB : w1.heap.size = B at hA0 ⊢
    have HBB := Lib.hid hBB
    have HA0 := Lib.hid hA0
    have HB0 := Lib.hid hb0
    clear hA0 hb0 hBB
    go_loopw [5] (fun iv wr => ∃ (i : Nat) (nx : List Int), i ≤ n3 ∧ iv = .int .i64 i ∧ colsA L cols i = some nx ∧ NxOK L nx ∧ Arr wr B 3 nx ∧ Below w1.heap.size w1 wr) (fun iv _ => n3 - (intOf iv).toNat)
    case atStart => exact ⟨0, _, Nat.zero_le _, rfl, rfl, HN0.out, HA0.out, HB0.out⟩
    case round =>
      obtain ⟨i, nx, hin, rfl, hcs, hnx, har, hb⟩ := hrel
      have HCS := Lib.hid hcs
      have HNX := Lib.hid hnx
      have HAR := Lib.hid har
      have HB := Lib.hid hb
      have q3 := cell_keep hb Q3.out
      clear hcs hnx har
      by_cases hlt : i < n3
      · obtain ⟨c, b, off, v, hc, rfl, hcv0, a', n', c', rfl, hI⟩ := H3.out.at hlt
        have hcv := cell_keep hb hcv0
        have hcd : cols.getD i [] = c := by simp [List.getD_eq_getElem?_getD, hc]
        have HST := Lib.hid (colsA_step HCS.out hcd)
        have HI := Lib.hid hI
        have hln := hI.len
        have hsn := hI.small
        clear hc hcd hI hb
        by_cases hne : n' = n1
        · have en : ((n' : Int) != (n1 : Int)) = false := by rw [bne, Bool.not_eq_false', beq_iff_eq]; omega
          have hcl : c.length = L.length := by rw [HL.out]; omega
          have HCL := Lib.hid hcl
          clear hcl
          go_wp2_with (fail)
          clear q3 hcv
          go_loopw [7, 8] (fun sv kv wi => ∃ (k : Nat) (ny : List Int) (sm : Bool), k ≤ n' ∧ kv = .int .i64 k ∧ sv = .bool sm ∧ colA L c nx k = some (ny, sm) ∧ Arr wi B 3 ny ∧ Below w1.heap.size w1 wi) (fun _ kv _ => n' - (intOf kv).toNat)
          case atStart => exact ⟨0, nx, false, Nat.zero_le _, rfl, rfl, rfl, HAR.out, HB.out⟩
          case round =>
            obtain ⟨k, ny, sm, hk, rfl, rfl, hca, hay, hby⟩ := hrel
            have HCA := Lib.hid hca
            have HNY := Lib.hid (colA_ok HNX.out (by rw [← HCL.out]; omega) hca)
            have HAY := Lib.hid hay
            have HBY := Lib.hid hby
            have q2 := cell_keep hby Q2.out
            clear hca hay
            by_cases hkl : k < n'
            · obtain ⟨bc, oc, rfl, hcc⟩ := Ints.at (HI.out.mono (Nat.le_refl _) HBY.out) (by omega)
              have hcx := hcc k hkl
              obtain ⟨y, hx⟩ : ∃ y, nth c k = y := ⟨_, rfl⟩
              have HSTP := Lib.hid (show colA L c nx (k + 1) = eltA L ny k y sm by rw [colA_step HCA.out, hx])
              rw [hx] at hcx
              obtain ⟨l, b5, o5, v5, hl5, rfl, hcv5, a5, n5, c5, rfl, ht5⟩ := H2.out.at (show k < n1 by omega)
              have hcv6 := cell_keep HBY.out hcv5
              have hLk : nth L k = (n5 : Int) := by rw [HLA.out k l hl5, ht5.len]
              have hs5 := ht5.small
              have hkL : k < L.length := by rw [HL.out]; omega
              have hya := HNY.out.2 k hkL
              have hcy := HAY.out.cell (k := k) (by rw [HNY.out.1]; exact hkL)
              have hfy := HAY.out.free k
              have hkn : (k : Int) < (n1 : Int) := by omega
              clear hcc hx hl5 hcv5 ht5 hby
              by_cases hx1 : y = -1
              · have HN := Lib.hid (HSTP.out.trans (eltA_skip hx1))
                have ex : (y == -1) = true := by rw [beq_iff_eq]; exact hx1
                clear hx1
                go_wp2_with (fail)
                exact ⟨⟨k + 1, ny, sm, by omega, by simp, rfl, HN.out, HAY.out, HBY.out⟩, by simp [intOf]; omega⟩
              · have ex : (y == -1) = false := by rw [beq_eq_false_iff_ne]; exact hx1
                by_cases hxy : y = nth ny k
                · have exy : (y != nth ny k) = false := by rw [bne, Bool.not_eq_false', beq_iff_eq]; exact hxy
                  by_cases hge : (n5 : Int) ≤ y
                  · have dg : decide ((n5 : Int) ≤ y) = true := by simpa using hge
                    have HAL := Lib.hid (align_none (L := L) (cols := cols) (i := i + 1) (by omega) (by rw [HST.out]; exact rowA_none (k := k + 1) (by omega) (HSTP.out.trans (eltA_hi hx1 hxy (by rw [hLk]; exact hge)))))
                    clear hx1 hxy hge hLk hya
                    go_wp2_with (fail)
                    go_quiet (fail)
                    go_wp2_with (fail)
                    go_ret
                    exact ⟨ret_i (HR.out _ HAL.out).symm, bstep B5.out (bstep HBY.out (bdrewN _ _))⟩
                  · have dg : decide ((n5 : Int) ≤ y) = false := by simpa using hge
                    have HN := Lib.hid (HSTP.out.trans (eltA_go hx1 hxy (by rw [hLk]; exact hge)))
                    have g1 : nth ny k + 1 ≤ 9223372036854775807 := by omega
                    have g2 : -9223372036854775808 ≤ nth ny k + 1 := by omega
                    clear hx1 hxy hge hLk
                    go_wp2_with (fail)
                    go_quiet (fail)
                    have HSET := Lib.hid ((HAY.out.kept (bdrewN _ nq)).set k (nth ny k + 1))
                    have HSB := Lib.hid ((bstep HBY.out (bdrewN _ nq)).setCell (p := ⟨B, k, none⟩) (show w1.heap.size ≤ B by rw [HBB.out]; exact Nat.le_refl _) (.int .i64 (nth ny k + 1)))
                    go_wp2_with (fail)
                    exact ⟨⟨k + 1, _, true, by omega, by simp, rfl, HN.out, HSET.out, HSB.out⟩, by simp [intOf]; omega⟩
                · have exy : (y != nth ny k) = true := by rw [bne_iff_ne]; exact hxy
                  have HAL := Lib.hid (align_none (L := L) (cols := cols) (i := i + 1) (by omega) (by rw [HST.out]; exact rowA_none (k := k + 1) (by omega) (HSTP.out.trans (eltA_ne hx1 hxy))))
                  clear hx1 hxy hLk hya
                  go_wp2_with (fail)
                  go_quiet (fail)
                  go_wp2_with (fail)
                  go_ret
                  exact ⟨ret_i (HR.out _ HAL.out).symm, bstep B5.out (bstep HBY.out (bdrewN _ _))⟩
            · obtain rfl : k = n' := by omega
              have HCE := Lib.hid (show colA L c nx c.length = some (ny, sm) by rw [hln]; exact HCA.out)
              clear hby
              cases sm
              · have HAL := Lib.hid (align_none (L := L) (cols := cols) (i := i + 1) (by omega) (by rw [HST.out]; exact rowA_void HCL.out HCE.out))
                go_wp2_with (fail)
                go_ret
                exact ⟨ret_i (HR.out _ HAL.out).symm, bstep B5.out HBY.out⟩
              · have HN := Lib.hid (HST.out.trans (rowA_some HCL.out HCE.out))
                go_wp2_with (fail)
                exact ⟨⟨i + 1, ny, by omega, by simp, HN.out, HNY.out, HAY.out, HBY.out⟩, by simp [intOf]; omega⟩
        · have en : ((n' : Int) != (n1 : Int)) = true := by rw [bne_iff_ne]; omega
          have HAL := Lib.hid (align_none (L := L) (cols := cols) (i := i + 1) (by omega) (by rw [HST.out]; exact rowA_len (by rw [HL.out]; omega)))
          clear hne
          go_wp2_with (fail)
          go_ret
          exact ⟨ret_i (HR.out _ HAL.out).symm, bstep B5.out HB.out⟩
      · obtain rfl : i = n3 := by omega
        have HE := Lib.hid (align_end (L := L) (cols := cols) (nx := nx) (by rw [hl3]; exact HCS.out))
        clear hb
        go_wp2_with (fail)
        clear q3
        go_loopw [9] (fun kv wi => ∃ k : Nat, k ≤ n1 ∧ kv = .int .i64 k ∧ (∀ j, j < k → nth nx j = nth L j) ∧ Arr wi B 3 nx ∧ Below w1.heap.size w1 wi) (fun kv _ => n1 - (intOf kv).toNat)
        case atStart => exact ⟨0, Nat.zero_le _, rfl, fun j hj => by omega, HAR.out, HB.out⟩
        case round =>
          obtain ⟨k, hk, rfl, hj, hay, hby⟩ := hrel
          have HJ := Lib.hid hj
          have HAY := Lib.hid hay
          have HBY := Lib.hid hby
          have q2 := cell_keep hby Q2.out
          clear hj hay hby
          by_cases hkl : k < n1
          · obtain ⟨l, b5, o5, v5, hl5, rfl, hcv5, a5, n5, c5, rfl, ht5⟩ := H2.out.at hkl
            have hcv6 := cell_keep HBY.out hcv5
            have hLk : nth L k = (n5 : Int) := by rw [HLA.out k l hl5, ht5.len]
            have hs5 := ht5.small
            have hkL : k < L.length := by rw [HL.out]; omega
            have hcy := HAY.out.cell (k := k) (by rw [HNX.out.1]; exact hkL)
            clear hl5 hcv5 ht5
            by_cases he : nth nx k = (n5 : Int)
            · have ee : (nth nx k != (n5 : Int)) = false := by rw [bne, Bool.not_eq_false', beq_iff_eq]; exact he
              have HEQ := Lib.hid (show nth nx k = nth L k by rw [hLk]; exact he)
              clear he hLk
              go_wp2_with (fail)
              go_quiet (fail)
              go_wp2_with (fail)
              exact ⟨⟨k + 1, by omega, by simp, fun j hj => by
                by_cases hjk : j = k
                · rw [hjk]; exact HEQ.out
                · exact HJ.out j (by omega), HAY.out.kept (bdrewN _ _), bstep HBY.out (bdrewN _ _)⟩, by simp [intOf]; omega⟩
            · have ee : (nth nx k != (n5 : Int)) = true := by rw [bne_iff_ne]; exact he
              have HAL := Lib.hid (show alignB L cols = false by rw [HE.out]; exact decide_eq_false (ne_at (k := k) (by rw [hLk]; exact he)))
              clear he hLk
              go_wp2_with (fail)
              go_quiet (fail)
              go_wp2_with (fail)
              go_ret
              exact ⟨ret_i (HR.out _ HAL.out).symm, bstep B5.out (bstep HBY.out (bdrewN _ _))⟩
          · obtain rfl : k = n1 := by omega
            have HAL := Lib.hid (show alignB L cols = true by rw [HE.out]; exact decide_eq_true (eq_upto HNX.out.1 (by rw [HL.out]; exact HJ.out)))
            go_wp2_with (fail)
            go_ret
            exact ⟨ret_i (HR.out _ HAL.out).symm, bstep B5.out HBY.out⟩
  · have HR := Lib.hid (coll_head rfl hh)
    obtain ⟨r, hr⟩ : ∃ r, headC x.sec x.sigla x.tokens = r := ⟨_, rfl⟩
    rw [hr] at HS HR hh
    have er : (r != 0) = true := by rw [bne_iff_ne]; exact hh
    clear hr hh h
    go_enter Tryz.func43, Tryz.ntmps43
    go_wp2_with (fail)
    refine (HS.out _ (balloc _ _)).mono ?_
    rintro e w1 ⟨rfl, hb1⟩
    go_wp2_with (fail)
    go_ret
    exact ⟨ret_i HR.out.symm, bstep (balloc _ _) hb1⟩
end Go.Proofs.YtjmebijckcimoaaGreatDoor
