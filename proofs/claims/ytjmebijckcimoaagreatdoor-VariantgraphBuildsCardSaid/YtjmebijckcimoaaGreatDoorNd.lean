import Derived.Test.YtjmebijckcimoaaGreatDoorRk
import Derived.Test.YtjmebijckcimoaaGreatDoorPl



namespace Go.Proofs.YtjmebijckcimoaaGreatDoor
open Go.RowKit Go.Ap Go.Shelf Go.Proofs

attribute [local go_sem] Oper.semAt_some bs_toList empty_toList bs_size bs_extract
theorem suf_eq (s : Str) : Lib.hasSuffix s [42] = decide (s.getLast? = some 42) := by
  unfold Lib.hasSuffix
  rw [Bool.eq_iff_iff, List.isSuffixOf_iff_suffix, decide_eq_true_iff]
  constructor
  · rintro ⟨t, rfl⟩
    simp
  · intro h
    obtain ⟨ys, rfl⟩ := List.getLast?_eq_some_iff.1 h
    exact ⟨ys, rfl⟩
theorem last_pos {s : Str} (h : decide (s.getLast? = some 42) = true) : 1 ≤ s.length := by
  cases s with
  | nil => simp at h
  | cons c t => simp
set_option maxHeartbeats 1000000 in
theorem cutP (s : Str) (w : World) (hs : s.length ≤ 4611686018427387903) :
    Calls Tryz.prog 141 #[.string (bs s), .string { data := #[42] }] w fun e w' => e = .returned (.tuple #[.string (bs (if s.getLast? = some 42 then s.dropLast else s)), .bool (decide (s.getLast? = some 42))]) ∧ w = w' := by
  have HS := Lib.hid (show Calls Tryz.prog 154 #[.string (bs s), .string { data := #[42] }] w fun e w' => e = .returned (.bool (decide (s.getLast? = some 42))) ∧ w' = w from by
    have := Tryz.stringslite_HasSuffix (bs s) (bs [42]) w (by rw [bs_size]; omega)
    rw [bs_list, bs_list, suf_eq] at this
    exact this)
  cases hc : decide (s.getLast? = some 42)
  · rw [hc] at HS
    rw [if_neg (of_decide_eq_false hc)]
    clear hc
    go_enter Tryz.func141, Tryz.ntmps141
    go_wp2_with (fail)
    refine HS.out.mono ?_
    rintro e w1 ⟨rfl, rfl⟩
    go_wp2_with (fail)
    go_ret2
    exact ⟨rfl, rfl⟩
  · rw [hc] at HS
    rw [if_pos (of_decide_eq_true hc)]
    have h1 := last_pos hc
    have p1 : (1 : Int) ≤ (s.length : Int) := by omega
    have p2 : (0 : Int) ≤ (s.length : Int) - 1 := by omega
    clear hc
    go_enter Tryz.func141, Tryz.ntmps141
    go_wp2_with (fail)
    refine HS.out.mono ?_
    rintro e w1 ⟨rfl, rfl⟩
    go_wp2_with (fail)
    go_ret2
    exact ⟨by rw [last_take]; rfl, rfl⟩
set_option maxHeartbeats 1000000 in
theorem cutS (s : Str) (w : World) (hs : s.length ≤ 4611686018427387903) :
    Calls Tryz.prog 114 #[.string (bs s), .string { data := #[42] }] w fun e w' => e = .returned (.tuple #[.string (bs (if s.getLast? = some 42 then s.dropLast else s)), .bool (decide (s.getLast? = some 42))]) ∧ w = w' := by
  have HC := Lib.hid (cutP s w hs)
  generalize (if s.getLast? = some 42 then s.dropLast else s) = n at *
  generalize decide (s.getLast? = some 42) = b at *
  go_enter Tryz.func114, Tryz.ntmps114
  go_wp2_with (fail)
  refine HC.out.mono ?_
  rintro e w1 ⟨rfl, rfl⟩
  go_wp2_with (fail)
  go_ret2
  exact ⟨rfl, rfl⟩
set_option maxHeartbeats 1000000 in
theorem sigP (s : Str) (w : World) (hs : s.length ≤ 4611686018427387903) :
    Calls Tryz.prog 94 #[.string (bs s)] w fun e w' => e = .returned (.bool (sigB s)) ∧ w = w' := by
  have HC := Lib.hid (cutS s w hs)
  have HN := Lib.hid (nameP (if s.getLast? = some 42 then s.dropLast else s) w (by split; (rw [List.length_dropLast]; omega); exact hs))
  cases hc : decide (s.getLast? = some 42)
  · have HR := Lib.hid (sig_plain hc)
    rw [hc, if_neg (of_decide_eq_false hc)] at HC
    rw [if_neg (of_decide_eq_false hc)] at HN
    clear hc
    cases hn : nameB s
    all_goals
      rw [hn] at HN HR
      clear hn
      go_enter Tryz.func94, Tryz.ntmps94
      go_wp2_with (fail)
      refine HC.out.mono ?_
      rintro e w1 ⟨rfl, rfl⟩
      go_wp2_with (fail)
      refine HN.out.mono ?_
      rintro e w1 ⟨rfl, rfl⟩
      go_wp2_with (fail)
      go_ret
      exact ⟨ret_b HR.out.symm, rfl⟩
  · have HR := Lib.hid (sig_star hc)
    rw [hc, if_pos (of_decide_eq_true hc)] at HC
    rw [if_pos (of_decide_eq_true hc)] at HN
    have e16 : decide ((s.length : Int) ≤ 16) = decide (s.length ≤ 16) := by simp; omega
    generalize decide (s.length ≤ 16) = lb at *
    clear hc
    cases hn : nameB s.dropLast
    all_goals
      rw [hn] at HN HR
      clear hn
      go_enter Tryz.func94, Tryz.ntmps94
      go_wp2_with (fail)
      refine HC.out.mono ?_
      rintro e w1 ⟨rfl, rfl⟩
      go_wp2_with (fail)
      refine HN.out.mono ?_
      rintro e w1 ⟨rfl, rfl⟩
      go_wp2_with (fail)
      go_ret
      exact ⟨ret_b (by rw [HR.out]; simp), rfl⟩
set_option maxHeartbeats 1000000 in
theorem sigR (s : Str) (w : World) (hs : s.length ≤ 4611686018427387903) :
    Calls Tryz.prog 102 #[.string (bs s)] w fun e w' => e = .returned (.bool (sigB s)) ∧ Below w.heap.size w w' := by
  cases s with
  | nil =>
    have HN := Lib.hid (nameR [] w hs)
    go_enter Tryz.func102, Tryz.ntmps102
    go_wp2_with (fail)
    refine HN.out.mono ?_
    rintro e w1 ⟨rfl, hb⟩
    go_wp2_with (fail)
    go_ret
    exact ⟨rfl, hb⟩
  | cons c t =>
    obtain ⟨s, hs2⟩ : ∃ s : Str, s = c :: t := ⟨_, rfl⟩
    have hp : 1 ≤ s.length := by rw [hs2]; simp
    rw [← hs2] at hs ⊢
    clear hs2
    have d0 : decide ((0 : Int) < (s.length : Int)) = true := by simp; omega
    have p1 : s.length - 1 < s.length := by omega
    have i1 : s.length - 1 < (bs s).size := by rw [bs_size]; exact p1
    have p2 : (0 : Int) ≤ (s.length : Int) - 1 := by omega
    have HL := Lib.hid (last_at p1)
    by_cases hl : s[s.length - 1] = 42
    · have hc : decide (s.getLast? = some 42) = true := HL.out.trans (decide_eq_true hl)
      have HR := Lib.hid (sig_star hc)
      have HN := Lib.hid (nameR s.dropLast w (by simp; omega))
      rw [← last_take] at HN HR
      have e1 : ((((bs s)[s.length - 1]'i1).toNat : Int) == 42) = true := by have h : (bs s)[s.length - 1]'i1 = 42 := hl; rw [h]; rfl
      have e16 : decide ((s.length : Int) ≤ 16) = decide (s.length ≤ 16) := by simp; omega
      generalize decide (s.length ≤ 16) = lb at *
      clear hl hc
      cases lb
      · go_enter Tryz.func102, Tryz.ntmps102
        go_wp2_with (fail)
        go_ret
        exact ⟨ret_b (by rw [HR.out]; rfl), Below.refl _ _⟩
      · go_enter Tryz.func102, Tryz.ntmps102
        go_wp2_with (fail)
        refine HN.out.mono ?_
        rintro e w1 ⟨rfl, hb⟩
        go_wp2_with (fail)
        go_ret
        exact ⟨ret_b (by rw [HR.out]; simp), hb⟩
    · have hc : decide (s.getLast? = some 42) = false := HL.out.trans (decide_eq_false hl)
      have HR := Lib.hid (sig_plain hc)
      have HN := Lib.hid (nameR s w hs)
      have e1 : ((((bs s)[s.length - 1]'i1).toNat : Int) == 42) = false := by
        rw [beq_eq_false_iff_ne]
        intro h
        have h' : ((bs s)[s.length - 1]'i1).toNat = 42 := by omega
        exact hl (UInt8.toNat_inj.1 h')
      clear hl hc
      go_enter Tryz.func102, Tryz.ntmps102
      go_wp2_with (fail)
      refine HN.out.mono ?_
      rintro e w1 ⟨rfl, hb⟩
      go_wp2_with (fail)
      go_ret
      exact ⟨ret_b HR.out.symm, hb⟩
end Go.Proofs.YtjmebijckcimoaaGreatDoor


namespace Go.Proofs.YtjmebijckcimoaaGreatDoor
open Go.RowKit Go.Ap Go.Shelf Go.Proofs

attribute [local go_sem] Oper.semAt_some bs_toList empty_toList bs_size bs_extract

theorem contPre (a : Option Addr) (n i c : Nat) (xs : List Str) (x : Str) (w : World) (h : StrsL w a n xs) (hi : i ≤ n) :
    Calls Tryz.prog 29 #[.slice a i c, .string (bs x)] w fun e w' => e = .returned (.bool ((xs.take i).contains x)) ∧ w = w' := by
  have hl := h.len
  have hs := h.small
  rcases Nat.eq_zero_or_pos i with h0 | h0
  · subst h0
    exact (Tryz.slices_Contains_string_empty a c (bs x) w).mono fun e w' ⟨he, hw⟩ => ⟨he, hw.symm⟩
  · obtain ⟨b, off, rfl, hc⟩ := h.at (by omega)
    refine (Tryz.slices_Contains_string b off i c (xs.map bs) (bs x) w (by simp [hl]; omega) (by omega) (fun j hj => ?_)).mono fun e w' ⟨he, hw⟩ => ⟨?_, hw.symm⟩
    · have hj' : j < xs.length := by simpa using hj
      rw [hc j xs[j] (List.getElem?_eq_getElem hj')]
      simp [List.getD, hj']
    · rw [he]
      refine ret_b ?_
      rw [Bool.eq_iff_iff, Lib.containsS_iff, ← List.map_take, List.mem_map, List.contains_iff_mem]
      constructor
      · rintro ⟨y, hy, he⟩
        rw [bs_inj] at he
        rwa [← he]
      · intro hx
        exact ⟨x, hx, rfl⟩

set_option maxHeartbeats 1000000 in
theorem idxTok (p : Tok → Bool) (a : Option Addr) (n c : Nat) (xs : List Tok) (g : Nat) (cap : Array Value) (w : World) (h : Toks w a n xs)
    (eg : ∀ args w, (callFunc g args).run Tryz.prog w = .ok (.enter g args) w)
    (hp : ∀ t ∈ xs, TokS t → ∀ W, Below w.heap.size w W → Calls Tryz.prog g (#[tokV t] ++ cap) W fun e w' => e = .returned (.bool (p t)) ∧ Below W.heap.size W w') :
    Calls Tryz.prog 115 #[.slice a n c, .func (.func g) #[] cap] w fun e w' => e = .returned (.int .i64 (idxF p xs)) ∧ Below w.heap.size w w' := by
  have hlen := h.len
  have hsm := h.small
  have HL := Lib.hid hlen
  have HP := Lib.hid hp
  have HX := Lib.hid h
  clear hlen hp h
  unfold tokV at HP
  go_enter Tryz.func115, Tryz.ntmps115
  go_wp2_with (fail)
  go_loopw [8] (fun i wr => ∃ k : Nat, k ≤ n ∧ i = .int .i64 k ∧ Below w.heap.size w wr ∧ idxG (pAt p xs) (n - k) k = idxF p xs) (fun i _ => n - (intOf i).toNat)
  case atStart => exact ⟨0, by omega, rfl, Below.refl _ _, by unfold idxF; rw [HL.out]; rfl⟩
  case round =>
    obtain ⟨k, hk, rfl, hb, hch⟩ := hrel
    have HC := Lib.hid hch
    have HB := Lib.hid hb
    clear hch
    by_cases hlt : k < n
    · obtain ⟨t, b, off, ht, rfl, ⟨⟨c0, c1, c2, c3, c4, c5⟩, hts⟩⟩ := (HX.out.mono (Nat.le_refl _) hb).at hlt
      obtain ⟨f, hf⟩ : ∃ f, n - k = f + 1 := ⟨n - k - 1, by omega⟩
      have HF := Lib.hid hf
      have HPA := Lib.hid (show pAt p xs k = p t by simp [pAt, ht])
      have HCALL := Lib.hid (HP.out t (List.mem_of_getElem? ht) hts wr hb)
      clear hf ht hts hb
      go_wp2_with (fail)
      refine HCALL.out.mono ?_
      rintro e w' ⟨rfl, hb2⟩
      have HB2 := Lib.hid (bstep HB.out hb2)
      clear hb2
      cases hpx : p t
      all_goals
        have HPX := Lib.hid hpx
        clear hpx
        go_wp2_with (fail)
      · exact ⟨⟨k + 1, by omega, by go_num, HB2.out, by rw [← HC.out, HF.out, idxG_no (HPA.out.trans HPX.out), show n - (k + 1) = f by have := HF.out; omega]⟩, by simp [intOf]; omega⟩
      · go_ret
        exact ⟨ret_i (by rw [← HC.out, HF.out, idxG_yes (HPA.out.trans HPX.out)]), HB2.out⟩
    · go_wp2_with (fail)
      go_ret
      exact ⟨ret_i (by rw [← HC.out, show n - k = 0 by omega, idxG]), HB.out⟩
theorem contTok (p : Tok → Bool) (a : Option Addr) (n c : Nat) (xs : List Tok) (g : Nat) (cap : Array Value) (w : World) (h : Toks w a n xs)
    (eg : ∀ args w, (callFunc g args).run Tryz.prog w = .ok (.enter g args) w)
    (hp : ∀ t ∈ xs, TokS t → ∀ W, Below w.heap.size w W → Calls Tryz.prog g (#[tokV t] ++ cap) W fun e w' => e = .returned (.bool (p t)) ∧ Below W.heap.size W w') :
    Calls Tryz.prog 95 #[.slice a n c, .func (.func g) #[] cap] w fun e w' => e = .returned (.bool (xs.any p)) ∧ Below w.heap.size w w' := by
  have H := Lib.hid (idxTok p a n c xs g cap w h eg hp)
  clear hp eg h
  go_enter Tryz.func95, Tryz.ntmps95
  go_wp2_with (fail)
  refine (H.out).mono ?_
  rintro e w' ⟨rfl, hb⟩
  go_wp2_with (fail)
  go_ret
  exact ⟨ret_b (idxF_any p xs), hb⟩
set_option maxHeartbeats 1000000 in
theorem badTok (t : Tok) (w : World) (hs : TokS t) (hv : EV w) : Calls Tryz.prog 96 #[tokV t] w fun e w' => e = .returned (.bool (decide (tokC t ≠ 0))) ∧ Below w.heap.size w w' := by
  have HT := Lib.hid (fun W hb => tokP t W hs (hv.mono (Nat.le_refl _) hb))
  have HE := Lib.hid (show (tokC t != 0) = decide (tokC t ≠ 0) by rw [Bool.eq_iff_iff]; simp)
  generalize tokC t = k at *
  unfold tokV at HT ⊢
  go_enter Tryz.func96, Tryz.ntmps96
  go_wp2_with (fail)
  refine (HT.out _ (balloc _ _)).mono ?_
  rintro e w1 ⟨rfl, hb⟩
  go_wp2_with (fail)
  go_ret
  exact ⟨ret_b HE.out, bstep (balloc _ _) hb⟩
end Go.Proofs.YtjmebijckcimoaaGreatDoor


namespace Go.Proofs.YtjmebijckcimoaaGreatDoor
open Go.RowKit Go.Ap Go.Shelf Go.Proofs

attribute [local go_sem] Oper.semAt_some bs_toList empty_toList bs_size bs_extract

set_option maxHeartbeats 4000000 in
theorem srcP (sec : Str) (a1 : Option Addr) (n1 c1 : Nat) (sig : List Str) (a2 : Option Addr) (n2 c2 : Nat) (tk : List (List Tok)) (w : World)
    (hsec : sec.length ≤ 4611686018427387903) (h1 : StrsL w a1 n1 sig) (hc1 : n1 ≤ c1) (hsl : ∀ s ∈ sig, s.length ≤ 4611686018427387903) (h2 : Toks2 w a2 n2 tk) (hv : EV w) :
    Calls Tryz.prog 68 #[.string (bs sec), .slice a1 n1 c1, .slice a2 n2 c2] w fun e w' => e = .returned (.int .i64 (headC sec sig tk)) ∧ Below w.heap.size w w' := by
  have HN := Lib.hid (nameP sec w hsec)
  have hl1 := h1.len
  have hl2 := h2.len
  have hs1 := h1.small
  have hs2 := h2.small
  have H1 := Lib.hid h1
  have H2 := Lib.hid h2
  have HV := Lib.hid hv
  have HSL := Lib.hid hsl
  clear h1 h2 hv hsl
  cases hn : nameB sec
  · rw [hn] at HN
    have HR := Lib.hid (head_1 (sig := sig) (tk := tk) hn)
    clear hn
    go_enter Tryz.func68, Tryz.ntmps68
    go_wp2_with (fail)
    refine HN.out.mono ?_
    rintro e w1 ⟨rfl, rfl⟩
    go_wp2_with (fail)
    go_ret
    exact ⟨ret_i HR.out.symm, Below.refl _ _⟩
  · rw [hn] at HN
    by_cases h0 : n1 = 0
    · have HR := Lib.hid (head_2 (tk := tk) hn (by rw [hl1]; exact h0))
      subst h0
      clear hn
      go_enter Tryz.func68, Tryz.ntmps68
      go_wp2_with (fail)
      refine HN.out.mono ?_
      rintro e w1 ⟨rfl, rfl⟩
      go_wp2_with (fail)
      go_ret
      exact ⟨ret_i HR.out.symm, Below.refl _ _⟩
    · have e0 : ((n1 : Int) == 0) = false := by rw [beq_eq_false_iff_ne]; omega
      by_cases h32 : 32 < n1
      · have d32 : decide ((32 : Int) < (n1 : Int)) = true := by simp; omega
        have HR := Lib.hid (head_3 (sig := sig) (tk := tk) hn (by rw [hl1]; exact h32))
        clear hn
        go_enter Tryz.func68, Tryz.ntmps68
        go_wp2_with (fail)
        refine HN.out.mono ?_
        rintro e w1 ⟨rfl, rfl⟩
        go_wp2_with (fail)
        go_ret
        exact ⟨ret_i HR.out.symm, Below.refl _ _⟩
      · have d32 : decide ((32 : Int) < (n1 : Int)) = false := by simp; omega
        have HD := Lib.hid (⟨hn, by omega, by omega⟩ : nameB sec = true ∧ ¬ sig.length = 0 ∧ ¬ 32 < sig.length)
        clear hn
        go_enter Tryz.func68, Tryz.ntmps68
        go_wp2_with (fail)
        refine HN.out.mono ?_
        rintro e w1 ⟨rfl, rfl⟩
        go_wp2_with (fail)
        go_loopw [25] (fun iv wr => ∃ i : Nat, i ≤ n1 ∧ iv = .int .i64 i ∧ w = wr ∧ sigE [] sig = sigE (sig.take i) (sig.drop i)) (fun iv _ => n1 - (intOf iv).toNat)
        case atStart => exact ⟨0, Nat.zero_le _, rfl, rfl, rfl⟩
        case round =>
          obtain ⟨i, hi, rfl, rfl, hm⟩ := hrel
          have HM := Lib.hid hm
          clear hm
          by_cases hlt : i < n1
          · obtain ⟨b, off, hab, hcells⟩ := H1.out.at (by omega)
            have hil : i < sig.length := by omega
            have hci := hcells i sig[i] (List.getElem?_eq_getElem hil)
            have HSG := Lib.hid (sigP sig[i] w (HSL.out _ (List.getElem_mem hil)))
            have HCP := Lib.hid (contPre a1 n1 i c1 sig sig[i] w H1.out hi)
            rw [hab] at HCP ⊢
            obtain ⟨s, hs⟩ : ∃ s, sig[i] = s := ⟨_, rfl⟩
            have HS := Lib.hid hs
            rw [hs] at hci HSG HCP
            clear hcells hab hs
            cases hsb : sigB s
            · rw [hsb] at HSG
              have HR := Lib.hid (head_4 (tk := tk) HD.out.1 HD.out.2.1 HD.out.2.2 (sigE_bad hil HM.out (by rw [HS.out]; exact hsb)) (by decide))
              clear hsb
              go_wp2_with (fail)
              refine HSG.out.mono ?_
              rintro e w1 ⟨rfl, rfl⟩
              go_wp2_with (fail)
              go_ret
              exact ⟨ret_i HR.out.symm, Below.refl _ _⟩
            · rw [hsb] at HSG
              have HSB := Lib.hid (show sigB sig[i] = true by rw [HS.out]; exact hsb)
              clear hsb
              cases hct : (sig.take i).contains s
              · rw [hct] at HCP
                have HGO := Lib.hid (sigE_go hil HM.out HSB.out (by rw [HS.out]; exact hct))
                clear hct
                go_wp2_with (fail)
                refine HSG.out.mono ?_
                rintro e w1 ⟨rfl, rfl⟩
                go_wp2_with (fail)
                refine HCP.out.mono ?_
                rintro e w1 ⟨rfl, rfl⟩
                go_wp2_with (fail)
                exact ⟨⟨i + 1, by omega, by simp, trivial, HGO.out⟩, by simp [intOf]; omega⟩
              · rw [hct] at HCP
                have HR := Lib.hid (head_4 (tk := tk) HD.out.1 HD.out.2.1 HD.out.2.2 (sigE_dup hil HM.out HSB.out (by rw [HS.out]; exact hct)) (by decide))
                clear hct
                go_wp2_with (fail)
                refine HSG.out.mono ?_
                rintro e w1 ⟨rfl, rfl⟩
                go_wp2_with (fail)
                refine HCP.out.mono ?_
                rintro e w1 ⟨rfl, rfl⟩
                go_wp2_with (fail)
                go_ret
                exact ⟨ret_i HR.out.symm, Below.refl _ _⟩
          · obtain rfl : i = n1 := by omega
            have HE := Lib.hid (sigE_end (by rw [hl1]; exact HM.out))
            by_cases h9 : n2 = i
            · have e9 : ((n2 : Int) != (i : Int)) = false := by rw [bne, Bool.not_eq_false', beq_iff_eq]; omega
              have HR := Lib.hid (head_6 HD.out.1 HD.out.2.1 HD.out.2.2 HE.out (show tk.length = sig.length by omega))
              clear HM HE h9
              go_wp2_with (fail)
              go_loopw [46] (fun kv wr => ∃ k : Nat, k ≤ n2 ∧ kv = .int .i64 k ∧ Below w.heap.size w wr ∧ tokE tk = tokE (tk.drop k)) (fun kv _ => n2 - (intOf kv).toNat)
              case atStart => exact ⟨0, Nat.zero_le _, rfl, Below.refl _ _, rfl⟩
              case round =>
                obtain ⟨k, hk, rfl, hb, hm⟩ := hrel
                have HM := Lib.hid hm
                have HB := Lib.hid hb
                clear hm
                by_cases hkl : k < n2
                · have hkt : k < tk.length := by omega
                  obtain ⟨l, b, off, v, hl, hab, hcv, a, n, c, rfl, ht⟩ := (H2.out.mono (Nat.le_refl _) hb).at hkl
                  have hle : tk[k] = l := by
                    rw [List.getElem?_eq_getElem hkt] at hl
                    exact Option.some.inj hl
                  have HLE := Lib.hid hle
                  have HAT := Lib.hid (tokE_at hkt)
                  have hln := ht.len
                  have hsn := ht.small
                  have HT := Lib.hid ht
                  rw [hab]
                  clear hl hle ht hab hb
                  by_cases h4 : 1024 < n
                  · have d4 : decide ((1024 : Int) < (n : Int)) = true := by simp; omega
                    have HRR := Lib.hid (show tokE tk = 4 by rw [HM.out, HAT.out, if_pos (by rw [HLE.out, hln]; exact h4)])
                    clear h4
                    go_wp2_with (fail)
                    go_ret
                    exact ⟨ret_i (by rw [HR.out, HRR.out]), HB.out⟩
                  · have d4 : decide ((1024 : Int) < (n : Int)) = false := by simp; omega
                    have HCT := Lib.hid (contTok (fun t => decide (tokC t ≠ 0)) a n c l 96 #[] wr HT.out (enters_of Tryz.func96 (by kernel_rfl) rfl)
                      (fun t _ hts W hbW => badTok t W hts (HV.out.mono (Nat.le_refl _) (bstep HB.out hbW))))
                    have HN4 := Lib.hid (show ¬ 1024 < tk[k].length by rw [HLE.out, hln]; exact h4)
                    clear h4
                    cases han : l.any (fun t => decide (tokC t ≠ 0))
                    · rw [han] at HCT
                      have HRR := Lib.hid (show tokE tk = tokE (tk.drop (k + 1)) by rw [HM.out, HAT.out, if_neg HN4.out, if_neg (by rw [HLE.out, han]; exact Bool.false_ne_true)])
                      clear han
                      go_wp2_with (fail)
                      refine HCT.out.mono ?_
                      rintro e w1 ⟨rfl, hb1⟩
                      have HB1 := Lib.hid (bstep HB.out hb1)
                      clear hb1
                      go_wp2_with (fail)
                      exact ⟨⟨k + 1, by omega, by simp, HB1.out, HRR.out⟩, by simp [intOf]; omega⟩
                    · rw [han] at HCT
                      have HRR := Lib.hid (show tokE tk = 1 by rw [HM.out, HAT.out, if_neg HN4.out, if_pos (by rw [HLE.out]; exact han)])
                      clear han
                      go_wp2_with (fail)
                      refine HCT.out.mono ?_
                      rintro e w1 ⟨rfl, hb1⟩
                      have HB1 := Lib.hid (bstep HB.out hb1)
                      clear hb1
                      go_wp2_with (fail)
                      go_ret
                      exact ⟨ret_i (by rw [HR.out, HRR.out]), HB1.out⟩
                · obtain rfl : k = n2 := by omega
                  have HRR := Lib.hid (tokE_end (by rw [hl2]; exact HM.out))
                  go_wp2_with (fail)
                  go_ret
                  exact ⟨ret_i (by rw [HR.out, HRR.out]), HB.out⟩
            · have e9 : ((n2 : Int) != (i : Int)) = true := by rw [bne_iff_ne]; omega
              have HR := Lib.hid (head_5 HD.out.1 HD.out.2.1 HD.out.2.2 HE.out (show tk.length ≠ sig.length by omega))
              clear HM HE h9
              go_wp2_with (fail)
              go_ret
              exact ⟨ret_i HR.out.symm, Below.refl _ _⟩
end Go.Proofs.YtjmebijckcimoaaGreatDoor



namespace Go.Proofs.YtjmebijckcimoaaGreatDoor
open Go.RowKit Go.Ap Go.Shelf Go.Proofs

attribute [local go_sem] Oper.semAt_some bs_toList empty_toList bs_size bs_extract

set_option maxHeartbeats 1000000 in
theorem idxRows {α : Type} {R : World → Value → α → Prop} (p : α → Bool) (a : Option Addr) (n c : Nat) (xs : List α) (g : Nat) (cap : Array Value) (w : World) (h : Sl R w a n xs)
    (eg : ∀ args w, (callFunc g args).run Tryz.prog w = .ok (.enter g args) w)
    (hp : ∀ x v, x ∈ xs → R w v x → Calls Tryz.prog g (#[v] ++ cap) w fun e w' => e = .returned (.bool (p x)) ∧ w = w') :
    Calls Tryz.prog 148 #[.slice a n c, .func (.func g) #[] cap] w fun e w' => e = .returned (.int .i64 (idxF p xs)) ∧ w = w' := by
  have hlen := h.len
  have hsm := h.small
  have HL := Lib.hid hlen
  have HP := Lib.hid hp
  clear hlen hp
  go_enter Tryz.func148, Tryz.ntmps148
  go_wp2_with (fail)
  go_loopw [8] (fun i wr => ∃ k : Nat, k ≤ n ∧ i = .int .i64 k ∧ w = wr ∧ idxG (pAt p xs) (n - k) k = idxF p xs) (fun i _ => n - (intOf i).toNat)
  case atStart => exact ⟨0, by omega, rfl, rfl, by unfold idxF; rw [HL.out]; rfl⟩
  case round =>
    obtain ⟨k, hk, rfl, rfl, hch⟩ := hrel
    have HC := Lib.hid hch
    clear hch
    by_cases hlt : k < n
    · obtain ⟨x, b, off, v, hx, rfl, hc, hr⟩ := h.at hlt
      obtain ⟨f, hf⟩ : ∃ f, n - k = f + 1 := ⟨n - k - 1, by omega⟩
      have HF := Lib.hid hf
      have hpa : pAt p xs k = p x := by simp [pAt, hx]
      have HPA := Lib.hid hpa
      have HX := Lib.hid (List.mem_of_getElem? hx)
      clear hf hx hpa
      go_wp2_with (fail)
      refine (HP.out x v HX.out hr).mono ?_
      rintro e w' ⟨rfl, rfl⟩
      cases hpx : p x
      all_goals
        have HPX := Lib.hid hpx
        clear hpx
        go_wp2_with (fail)
      · exact ⟨⟨k + 1, by omega, by go_num, trivial, by rw [← HC.out, HF.out, idxG_no (HPA.out.trans HPX.out), show n - (k + 1) = f by have := HF.out; omega]⟩, by simp [intOf]; omega⟩
      · go_ret
        exact ⟨ret_i (by rw [← HC.out, HF.out, idxG_yes (HPA.out.trans HPX.out)]), rfl⟩
    · go_wp2_with (fail)
      go_ret
      exact ⟨ret_i (by rw [← HC.out, show n - k = 0 by omega, idxG]), rfl⟩
theorem contRows {α : Type} {R : World → Value → α → Prop} (p : α → Bool) (a : Option Addr) (n c : Nat) (xs : List α) (g : Nat) (cap : Array Value) (w : World) (h : Sl R w a n xs)
    (eg : ∀ args w, (callFunc g args).run Tryz.prog w = .ok (.enter g args) w)
    (hp : ∀ x v, x ∈ xs → R w v x → Calls Tryz.prog g (#[v] ++ cap) w fun e w' => e = .returned (.bool (p x)) ∧ w = w') :
    Calls Tryz.prog 122 #[.slice a n c, .func (.func g) #[] cap] w fun e w' => e = .returned (.bool (xs.any p)) ∧ w = w' := by
  have H := Lib.hid (idxRows p a n c xs g cap w h eg hp)
  clear hp eg
  go_enter Tryz.func122, Tryz.ntmps122
  go_wp2_with (fail)
  refine (H.out).mono ?_
  rintro e w' ⟨rfl, rfl⟩
  go_wp2_with (fail)
  go_ret
  exact ⟨ret_b (idxF_any p xs), rfl⟩
theorem longRow (a : Option Addr) (n c : Nat) (w : World) : Calls Tryz.prog 123 #[.slice a n c] w fun e w' => e = .returned (.bool (decide (1024 < (n : Int)))) ∧ w = w' := by
  go_enter Tryz.func123, Tryz.ntmps123
  go_wp2
  go_ret
  exact ⟨rfl, rfl⟩
theorem mwSrc (a : Option Addr) (n c : Nat) (tk : List (List Tok)) (w : World) (h : Toks2 w a n tk) (h0 : 0 < n) (h32 : n ≤ 32) (hl : ∀ l ∈ tk, l.length ≤ 1024) :
    Calls Tryz.prog 98 #[.slice a n c] w fun e w' => e = .returned (.int .i64 0) ∧ w = w' := by
  have HC := Lib.hid (contRows (R := ToksV) (fun l => decide (1024 < (l.length : Int))) a n c tk 123 #[] w h (enters_of Tryz.func123 (by kernel_rfl) rfl) (fun l v _ hv => by
    obtain ⟨a', n', c', rfl, ht⟩ := hv
    rw [ht.len]
    exact longRow a' n' c' w))
  rw [show tk.any (fun l => decide (1024 < (l.length : Int))) = false by
    rw [List.any_eq_false]; intro l hl1; have := hl l hl1; simp; omega] at HC
  have e0 : ((n : Int) == 0) = false := by rw [beq_eq_false_iff_ne]; omega
  have d1 : decide ((32 : Int) < (n : Int)) = false := by simp; omega
  go_enter Tryz.func98, Tryz.ntmps98
  go_wp2_with (fail)
  refine HC.out.mono ?_
  rintro e w1 ⟨rfl, rfl⟩
  go_wp2_with (fail)
  go_ret
  exact ⟨rfl, rfl⟩
end Go.Proofs.YtjmebijckcimoaaGreatDoor
