/-
  The law Texts: what is printed is parsed back.
-/
import Derived.Test.YtngdmpkoedpgdaaGreatDoorPa5
import Derived.Test.YtngdmpkoedpgdaaGreatDoorGr5
import Derived.Test.YtngdmpkoedpgdaaGreatDoorAw5
import Derived.Test.YtngdmpkoedpgdaaGreatDoorSm5
namespace Go.Proofs.YtngdmpkoedpgdaaGreatDoor
open Go.RowKit Go.Ap Go.Shelf Go.Proofs

attribute [local go_sem] Oper.semAt_some bs_toList empty_toList bs_size bs_extract
theorem count49 (t : Str) (w : World) : Calls Tryz.prog 49 #[.string (bs t), .string { data := #[10] }] w fun e w' => e = .returned (.int .i64 ((t.count 10 : Nat) : Int)) ∧ w = w' := by
  refine (Tryz.strings_Count_one (bs t) 10 w).mono ?_
  rintro e w' ⟨rfl, rfl⟩
  exact ⟨by simp [Lib.countByte, bs], rfl⟩
theorem printC_cases (l : List Post) : (printC l = 0 ∧ indexB l = true ∧ (textS l).length ≤ 65536 ∧ printS l = textS l) ∨ (printC l ≠ 0 ∧ printS l = []) := by
  by_cases h : printC l = 0
  · refine .inl ⟨h, ?_⟩
    have h2 := h
    unfold printC at h2
    split at h2
    · cases h2
    · rename_i h3
      split at h2
      · cases h2
      · rename_i h4
        exact ⟨by simpa using h3, by omega, by unfold printS; rw [if_pos h]⟩
  · exact .inr ⟨h, by unfold printS; rw [if_neg h]⟩
/-- from the second Print on -/
structure TxW (l : List Post) (a : Option Addr) (n c : Nat) (w : World) : Prop where
  posts : Posts w a n l
  tab : ET w
  ev : EV w
  em : EM w
theorem TxW.below {l : List Post} {a : Option Addr} {n c : Nat} {w w' : World} (h : TxW l a n c w) (hb : Below w.heap.size w w') : TxW l a n c w' := ⟨h.posts.mono (Nat.le_refl _) hb, h.tab.mono (Nat.le_refl _) hb, h.ev.mono (Nat.le_refl _) hb, h.em.mono (Nat.le_refl _) hb⟩
set_option maxRecDepth 100000 in
set_option maxHeartbeats 8000000 in
theorem law10 (a : Option Addr) (n c : Nat) (l : List Post) (s : Str) (w : World) (h : Posts w a n l) (ht : ET w) (hev : EV w) (hem : EM w) :
    Calls Tryz.prog 10 #[.slice a n c, .string (bs s)] w fun e w' => e = .returned (.bool true) ∧ Below w.heap.size w w' := by
  have HTX := Lib.hid (show TxW l a n c w from ⟨h, ht, hev, hem⟩)
  have HA := Lib.hid (fun W (h : TxW l a n c W) => awake13 W h.tab)
  have HGR := Lib.hid (great21 l a n c w h)
  have HPRN := Lib.hid (fun W (h : TxW l a n c W) => printP l a n c W h.posts h.tab)
  have HPRS := Lib.hid (fun W (h : TxW l a n c W) l2 a2 n2 c2 (h2 : Posts W a2 n2 l2) => printP l2 a2 n2 c2 W h2 h.tab)
  have HPAR := Lib.hid (fun (t : Str) (hl : t.length ≤ 65536) W (h : TxW l a n c W) => callsIn_wide.1 (parseP t W hl h.tab h.ev h.em))
  have HSAM := Lib.hid (fun W a2 c2 n2 (h2 : Posts W a2 n2 l) (h : TxW l a n c W) => same28 l a2 c2 a c n2 n W h2 h.posts)
  have HCN := Lib.hid (fun (t : Str) W => count49 t W)
  have HLN := Lib.hid h.len
  have hsm := h.small
  have HBX := Lib.hid (Below.refl w.heap.size w)
  clear h ht hev hem
  go_enter Tryz.func10, Tryz.ntmps10
  go_wp2_with (fail)
  refine HGR.out.mono ?_
  rintro e W0 ⟨⟨gb, rfl, -⟩, rfl⟩
  clear HGR
  cases gb
  rotate_left
  · go_wp2_with (fail)
    refine (HA.out _ HTX.out).mono ?_
    rintro e W9 ⟨rfl, hb9⟩
    have HBX := Lib.hid (bstep HBX.out hb9)
    clear hb9
    go_wp2_with (fail)
    go_ret
    exact ⟨rfl, HBX.out⟩
  by_cases hs : 300 < s.length
  · have d1 : decide ((300 : Int) < (s.length : Int)) = true := decide_eq_true (by omega)
    go_wp2_with (fail)
    refine (HA.out _ HTX.out).mono ?_
    rintro e W9 ⟨rfl, hb9⟩
    have HBX := Lib.hid (bstep HBX.out hb9)
    clear hb9
    go_wp2_with (fail)
    go_ret
    exact ⟨rfl, HBX.out⟩
  have d1 : decide ((300 : Int) < (s.length : Int)) = false := decide_eq_false (by omega)
  have HP1 := Lib.hid (HPAR.out s (by omega) w HTX.out)
  have HSL := Lib.hid (show s.length ≤ 300 by omega)
  clear hs
  go_wp2_with (fail)
  refine HP1.out.mono ?_
  rintro e W1 ⟨u, pc, rfl, hok, hno, hb1⟩
  have HT1 := Lib.hid (HTX.out.below hb1)
  have HBX := Lib.hid (bstep HBX.out hb1)
  clear hb1 HP1
  cases hps : parseS s with
  | none =>
    obtain ⟨rfl, rfl⟩ := hno hps
    clear hok hno hps
    have HT := HT1
    have HPR := Lib.hid (HPRN.out _ HT.out)
    rcases printC_cases l with ⟨h1, h2, h3, h4⟩ | ⟨h1, h2⟩
    · rw [h1, h4] at HPR
      have HPT := Lib.hid (fun W (h : TxW l a n c W) => HPAR.out (textS l) h3 W h)
      have HPX := Lib.hid (parse_text h2)
      have HCT := Lib.hid (show (textS l).count 10 = n by rw [text_count (indexB_valid h2).2, HLN.out])
      obtain ⟨t, ht9⟩ : ∃ t, textS l = t := ⟨_, rfl⟩
      rw [ht9] at HPR HPT HPX HCT
      clear h1 h2 h3 h4 ht9
      go_wp2_with (fail)
      refine HPR.out.mono ?_
      rintro e W5 ⟨rfl, hb5⟩
      have HT := Lib.hid (HT.out.below hb5)
      have HBX := Lib.hid (bstep HBX.out hb5)
      have HP5 := Lib.hid (HPT.out _ HT.out)
      clear hb5
      go_wp2_with (fail)
      refine HP5.out.mono ?_
      rintro e W6 ⟨u6, pc6, rfl, hok6, -, hb6⟩
      obtain ⟨rfl, a6, k6, rfl, hp6⟩ := hok6 l HPX.out
      rw [HLN.out] at hp6 ⊢
      have HT := Lib.hid (HT.out.below hb6)
      have HBX := Lib.hid (bstep HBX.out hb6)
      have HS6 := Lib.hid (HSAM.out _ a6 k6 n hp6 HT.out)
      clear hb6 hok6 hp6
      go_wp2_with (fail)
      refine HS6.out.mono ?_
      rintro e W7 ⟨rfl, hb7⟩
      have HT := Lib.hid (HT.out.below hb7)
      have HBX := Lib.hid (bstep HBX.out hb7)
      clear hb7
      have HC7 := Lib.hid (HCN.out t W7)
      rw [HCT.out] at HC7
      go_wp2_with (fail)
      refine HC7.out.mono ?_
      rintro e W8 ⟨rfl, rfl⟩
      go_wp2_with (fail)
      refine (HA.out _ HT.out).mono ?_
      rintro e W9 ⟨rfl, hb9⟩
      have HBX := Lib.hid (bstep HBX.out hb9)
      clear hb9
      go_wp2_with (fail)
      go_ret
      exact ⟨rfl, HBX.out⟩
    · have d2 : (printC l != 0) = true := by rw [bne_iff_ne]; exact h1
      rw [h2] at HPR
      obtain ⟨pc, hpc⟩ : ∃ x, printC l = x := ⟨_, rfl⟩
      rw [hpc] at HPR d2 h1
      clear h2 hpc
      go_wp2_with (fail)
      refine HPR.out.mono ?_
      rintro e W5 ⟨rfl, hb5⟩
      have HT := Lib.hid (HT.out.below hb5)
      have HBX := Lib.hid (bstep HBX.out hb5)
      clear hb5
      go_wp2_with (fail)
      refine (HA.out _ HT.out).mono ?_
      rintro e W9 ⟨rfl, hb9⟩
      have HBX := Lib.hid (bstep HBX.out hb9)
      clear hb9
      go_wp2_with (fail)
      go_ret
      exact ⟨rfl, HBX.out⟩
  | some l1 =>
    obtain ⟨rfl, a1, k1, rfl, hp1⟩ := hok l1 hps
    obtain ⟨hi1, htx1⟩ := parseS_some hps
    have HR1 := Lib.hid (HPRS.out W1 HT1.out l1 a1 l1.length k1 hp1)
    have hc1 : printC l1 = 0 := by
      unfold printC
      rw [if_neg (by simp [hi1]), htx1, if_neg (by have := HSL.out; omega)]
    rw [show printS l1 = s by unfold printS; rw [if_pos hc1, htx1], hc1] at HR1
    obtain ⟨n1, hn1⟩ : ∃ n1, l1.length = n1 := ⟨_, rfl⟩
    rw [hn1] at HR1 ⊢
    clear hok hno hps hp1 hi1 htx1 hc1 hn1
    go_wp2_with (fail)
    refine HR1.out.mono ?_
    rintro e W2 ⟨rfl, hb2⟩
    have HT := Lib.hid (HT1.out.below hb2)
    have HBX := Lib.hid (bstep HBX.out hb2)
    clear hb2
    have HPR := Lib.hid (HPRN.out _ HT.out)
    rcases printC_cases l with ⟨h1, h2, h3, h4⟩ | ⟨h1, h2⟩
    · rw [h1, h4] at HPR
      have HPT := Lib.hid (fun W (h : TxW l a n c W) => HPAR.out (textS l) h3 W h)
      have HPX := Lib.hid (parse_text h2)
      have HCT := Lib.hid (show (textS l).count 10 = n by rw [text_count (indexB_valid h2).2, HLN.out])
      obtain ⟨t, ht9⟩ : ∃ t, textS l = t := ⟨_, rfl⟩
      rw [ht9] at HPR HPT HPX HCT
      clear h1 h2 h3 h4 ht9
      go_wp2_with (fail)
      refine HPR.out.mono ?_
      rintro e W5 ⟨rfl, hb5⟩
      have HT := Lib.hid (HT.out.below hb5)
      have HBX := Lib.hid (bstep HBX.out hb5)
      have HP5 := Lib.hid (HPT.out _ HT.out)
      clear hb5
      go_wp2_with (fail)
      refine HP5.out.mono ?_
      rintro e W6 ⟨u6, pc6, rfl, hok6, -, hb6⟩
      obtain ⟨rfl, a6, k6, rfl, hp6⟩ := hok6 l HPX.out
      rw [HLN.out] at hp6 ⊢
      have HT := Lib.hid (HT.out.below hb6)
      have HBX := Lib.hid (bstep HBX.out hb6)
      have HS6 := Lib.hid (HSAM.out _ a6 k6 n hp6 HT.out)
      clear hb6 hok6 hp6
      go_wp2_with (fail)
      refine HS6.out.mono ?_
      rintro e W7 ⟨rfl, hb7⟩
      have HT := Lib.hid (HT.out.below hb7)
      have HBX := Lib.hid (bstep HBX.out hb7)
      clear hb7
      have HC7 := Lib.hid (HCN.out t W7)
      rw [HCT.out] at HC7
      go_wp2_with (fail)
      refine HC7.out.mono ?_
      rintro e W8 ⟨rfl, rfl⟩
      go_wp2_with (fail)
      refine (HA.out _ HT.out).mono ?_
      rintro e W9 ⟨rfl, hb9⟩
      have HBX := Lib.hid (bstep HBX.out hb9)
      clear hb9
      go_wp2_with (fail)
      go_ret
      exact ⟨rfl, HBX.out⟩
    · have d2 : (printC l != 0) = true := by rw [bne_iff_ne]; exact h1
      rw [h2] at HPR
      obtain ⟨pc, hpc⟩ : ∃ x, printC l = x := ⟨_, rfl⟩
      rw [hpc] at HPR d2 h1
      clear h2 hpc
      go_wp2_with (fail)
      refine HPR.out.mono ?_
      rintro e W5 ⟨rfl, hb5⟩
      have HT := Lib.hid (HT.out.below hb5)
      have HBX := Lib.hid (bstep HBX.out hb5)
      clear hb5
      go_wp2_with (fail)
      refine (HA.out _ HT.out).mono ?_
      rintro e W9 ⟨rfl, hb9⟩
      have HBX := Lib.hid (bstep HBX.out hb9)
      clear hb9
      go_wp2_with (fail)
      go_ret
      exact ⟨rfl, HBX.out⟩
theorem law10r (a : Option Addr) (n c : Nat) (l : List Post) (s : Str) (w : World) (h : Posts w a n l ∧ n ≤ c) (_ : s.length ≤ 281474976710656) (ht : ET w) (hev : EV w) (hem : EM w) :
    Calls Tryz.prog 10 #[.slice a n c, .string (bs s)] w fun e w' => e = .returned (.bool true) ∧ Below w.heap.size w w' := law10 a n c l s w h.1 ht hev hem
end Go.Proofs.YtngdmpkoedpgdaaGreatDoor
