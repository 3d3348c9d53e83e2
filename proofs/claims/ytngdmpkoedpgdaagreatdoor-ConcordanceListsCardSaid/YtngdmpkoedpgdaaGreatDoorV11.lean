/-
  The law Lists: Merge, Find, Frequent, Print and Parse answer as the reference does.
-/
import Derived.Test.YtngdmpkoedpgdaaGreatDoorU7
import Derived.Test.YtngdmpkoedpgdaaGreatDoorU3
import Derived.Test.YtngdmpkoedpgdaaGreatDoorU5
import Derived.Test.YtngdmpkoedpgdaaGreatDoorU6
import Derived.Test.YtngdmpkoedpgdaaGreatDoorSm5
import Derived.Test.YtngdmpkoedpgdaaGreatDoorAw5
namespace Go.Proofs.YtngdmpkoedpgdaaGreatDoor
open Go.RowKit Go.Ap Go.Shelf Go.Proofs

attribute [local go_sem] Oper.semAt_some bs_toList empty_toList bs_size bs_extract
/-- what is kept from call to call -/
structure LsW (ls : List (List Post)) (l : List Post) (a : Option Addr) (n : Nat) (a1 : Option Addr) (n1 : Nat) (w : World) : Prop where
  many : Posts2 w a n ls
  one : Posts w a1 n1 l
  tab : ET w
  ev : EV w
  em : EM w
theorem LsW.below {ls : List (List Post)} {l : List Post} {a a1 : Option Addr} {n n1 : Nat} {w w' : World} (h : LsW ls l a n a1 n1 w) (hb : Below w.heap.size w w') : LsW ls l a n a1 n1 w' :=
  ⟨Posts2.mono h.many (Nat.le_refl _) hb, h.one.mono (Nat.le_refl _) hb, h.tab.mono (Nat.le_refl _) hb, h.ev.mono (Nat.le_refl _) hb, h.em.mono (Nat.le_refl _) hb⟩
/-- within the sizes -/
def FineP (u : List Post) : Prop := u.length ≤ 12 ∧ ∀ p ∈ u, p.1.1.length ≤ 70 ∧ p.1.2.length ≤ 30 ∧ p.2.length ≤ 12
theorem fine_sums {ls : List (List Post)} (h : ∀ u ∈ ls, FineP u) (h5 : ls.length ≤ 5 ∨ ∀ u ∈ ls, u.length = 0) : ls.flatten.length ≤ 4096 ∧ countL ls.flatten ≤ 100000 := by
  rcases h5 with h5 | h5
  · have h1 := flat_le (ls := ls) (k := 12) fun u hu => (h u hu).1
    have h2 := sum_le_mul (l := ls.flatten) (k := 12) fun p hp => by
      obtain ⟨u, hu, hpu⟩ := List.mem_flatten.1 hp
      exact ((h u hu).2 p hpu).2.2
    have h3 : ls.length * 12 ≤ 60 := by omega
    have h4 : ls.flatten.length * 12 ≤ 60 * 12 := Nat.mul_le_mul_right _ (by omega)
    omega
  · rw [flat_nil h5]
    simp [countL]
set_option maxRecDepth 100000 in
set_option maxHeartbeats 8000000 in
theorem law11 (a : Option Addr) (n c : Nat) (ls : List (List Post)) (a1 : Option Addr) (n1 c1 : Nat) (l : List Post) (t s : Str) (z : Int) (w : World) (h : Posts2 w a n ls) (h1 : Posts w a1 n1 l) (ht : ET w) (hev : EV w) (hem : EM w) :
    Calls Tryz.prog 11 #[.slice a n c, .slice a1 n1 c1, .string (bs t), .string (bs s), .int .i64 z] w fun e w' => e = .returned (.bool true) ∧ Below w.heap.size w w' := by
  have HT := Lib.hid (show LsW ls l a n a1 n1 w from ⟨h, h1, ht, hev, hem⟩)
  have HA := Lib.hid (fun W (h : LsW ls l a n a1 n1 W) => awake13 W h.tab)
  have hsm := h.small
  have hsm1 := h1.small
  have HLN := Lib.hid h.len
  have HLN1 := Lib.hid h1.len
  have HBX := Lib.hid (Below.refl w.heap.size w)
  have HC1 := Lib.hid (contPs2 (fun u => decide (0 < u.length)) a n c ls 51 #[] w h (enters_of Tryz.func51 (by kernel_rfl) rfl) fun u hu W a2 n2 c2 hp _ => by
    have := some51 u a2 n2 c2 W hp
    rw [hp.len]
    exact this)
  have HC2 := Lib.hid (fun W (h : LsW ls l a n a1 n1 W) => contPsQ FineP a n c ls 21 #[] W h.many (enters_of Tryz.func21 (by kernel_rfl) rfl) fun u hu W a2 n2 c2 hp _ => (great21 u a2 n2 c2 W hp).mono fun e w' ⟨⟨b, he, hq⟩, hw⟩ => ⟨⟨b, he, fun hb => by
    have := hq hb
    rw [← hp.len] at this
    exact this⟩, by rw [← hw]; exact Below.refl _ _⟩)
  have HC3 := Lib.hid (fun W (h : LsW ls l a n a1 n1 W) => great21 l a1 n1 c1 W h.one)
  have HSUM := Lib.hid (fun (hq : ∀ u ∈ ls, FineP u) (h5 : ls.length ≤ 5 ∨ ∀ u ∈ ls, u.length = 0) => fine_sums hq h5)
  clear h h1 ht hev hem
  by_cases g1 : 66 < n
  · have d1 : decide ((66 : Int) < (n : Int)) = true := decide_eq_true (by omega)
    go_enter Tryz.func11, Tryz.ntmps11
    go_wp2_with (fail)
    refine (HA.out _ HT.out).mono ?_
    rintro e W9 ⟨rfl, hb9⟩
    have HBX := Lib.hid (bstep HBX.out hb9)
    clear hb9
    go_wp2_with (fail)
    go_ret
    exact ⟨rfl, HBX.out⟩
  have d1 : decide ((66 : Int) < (n : Int)) = false := decide_eq_false (by omega)
  by_cases g2 : 5 < n
  · have d2 : decide ((5 : Int) < (n : Int)) = true := decide_eq_true (by omega)
    obtain ⟨B1, hB1⟩ : ∃ b, (ls.any fun u => decide (0 < u.length)) = b := ⟨_, rfl⟩
    rw [hB1] at HC1
    have HB1 := Lib.hid hB1
    clear hB1
    go_enter Tryz.func11, Tryz.ntmps11
    go_wp2_with (fail)
    refine HC1.out.mono ?_
    rintro e W0 ⟨rfl, hb0⟩
    have HT := Lib.hid (HT.out.below hb0)
    have HBX := Lib.hid (bstep HBX.out hb0)
    clear hb0
    cases B1
    rotate_left
    · go_wp2_with (fail)
      refine (HA.out _ HT.out).mono ?_
      rintro e W9 ⟨rfl, hb9⟩
      have HBX := Lib.hid (bstep HBX.out hb9)
      clear hb9
      go_wp2_with (fail)
      go_ret
      exact ⟨rfl, HBX.out⟩
    have H5 := Lib.hid (show ls.length ≤ 5 ∨ ∀ u ∈ ls, u.length = 0 from .inr fun u hu => by
      have := List.any_eq_false.1 HB1.out u hu
      simpa using this)
    go_wp2_with (fail)
    refine (HC2.out _ HT.out).mono ?_
    rintro e W10 ⟨⟨b10, rfl, hq10⟩, hb10⟩
    have HT := Lib.hid (HT.out.below hb10)
    have HBX := Lib.hid (bstep HBX.out hb10)
    have HQ := Lib.hid hq10
    clear hq10
    clear hb10
    cases b10
    rotate_left
    · go_wp2_with (fail)
      refine (HA.out _ HT.out).mono ?_
      rintro e W9 ⟨rfl, hb9⟩
      have HBX := Lib.hid (bstep HBX.out hb9)
      clear hb9
      go_wp2_with (fail)
      go_ret
      exact ⟨rfl, HBX.out⟩
    have HQ := Lib.hid (HQ.out rfl)
    have HSM := Lib.hid (HSUM.out HQ.out H5.out)
    go_wp2_with (fail)
    refine (HC3.out _ HT.out).mono ?_
    rintro e W11 ⟨⟨b11, rfl, hq11⟩, rfl⟩
    have HF := Lib.hid hq11
    clear hq11
    cases b11
    rotate_left
    · go_wp2_with (fail)
      refine (HA.out _ HT.out).mono ?_
      rintro e W9 ⟨rfl, hb9⟩
      have HBX := Lib.hid (bstep HBX.out hb9)
      clear hb9
      go_wp2_with (fail)
      go_ret
      exact ⟨rfl, HBX.out⟩
    have HF := Lib.hid (HF.out rfl)
    by_cases g3 : 70 < t.length
    · have d3 : decide ((70 : Int) < (t.length : Int)) = true := decide_eq_true (by omega)
      go_wp2_with (fail)
      refine (HA.out _ HT.out).mono ?_
      rintro e W9 ⟨rfl, hb9⟩
      have HBX := Lib.hid (bstep HBX.out hb9)
      clear hb9
      go_wp2_with (fail)
      go_ret
      exact ⟨rfl, HBX.out⟩
    have d3 : decide ((70 : Int) < (t.length : Int)) = false := decide_eq_false (by omega)
    by_cases g4 : 300 < s.length
    · have d4 : decide ((300 : Int) < (s.length : Int)) = true := decide_eq_true (by omega)
      go_wp2_with (fail)
      refine (HA.out _ HT.out).mono ?_
      rintro e W9 ⟨rfl, hb9⟩
      have HBX := Lib.hid (bstep HBX.out hb9)
      clear hb9
      go_wp2_with (fail)
      go_ret
      exact ⟨rfl, HBX.out⟩
    have d4 : decide ((300 : Int) < (s.length : Int)) = false := decide_eq_false (by omega)
    obtain ⟨mc, hmc⟩ : ∃ x, mergeC ls = x := ⟨_, rfl⟩
    obtain ⟨mi, hmi⟩ : ∃ x, shownP (mergeC ls) (mergeI ls) = x := ⟨_, rfl⟩
    obtain ⟨mn, hmn⟩ : ∃ x, mi.length = x := ⟨_, rfl⟩
    obtain ⟨fc, hfc⟩ : ∃ x, findC l t = x := ⟨_, rfl⟩
    obtain ⟨fi, hfi⟩ : ∃ x, shownP (findC l t) (findS l t) = x := ⟨_, rfl⟩
    obtain ⟨fn, hfn⟩ : ∃ x, fi.length = x := ⟨_, rfl⟩
    obtain ⟨qc, hqc⟩ : ∃ x, freqC l z = x := ⟨_, rfl⟩
    obtain ⟨qi, hqi⟩ : ∃ x, shownP (freqC l z) (freqL l z) = x := ⟨_, rfl⟩
    obtain ⟨qn, hqn⟩ : ∃ x, qi.length = x := ⟨_, rfl⟩
    obtain ⟨sc, hsc⟩ : ∃ x, parseC (parseS s) = x := ⟨_, rfl⟩
    obtain ⟨si, hsi⟩ : ∃ x, (parseS s).getD [] = x := ⟨_, rfl⟩
    obtain ⟨sn, hsn⟩ : ∃ x, si.length = x := ⟨_, rfl⟩
    obtain ⟨pc, hpc⟩ : ∃ x, printC l = x := ⟨_, rfl⟩
    obtain ⟨pt, hpt⟩ : ∃ x, printS l = x := ⟨_, rfl⟩
    have H1 := Lib.hid (fun W (h : LsW ls l a n a1 n1 W) => (mergeP ls a n c W h.many HSM.out.1 HSM.out.2).mono fun e w' h => WordsA.shows h hmc hmi hmn)
    have H2 := Lib.hid (fun W (h : LsW ls l a n a1 n1 W) => (mergeRR ls a n c W h.many HSM.out.1 HSM.out.2).mono fun e w' h => WordsA.shows h hmc hmi hmn)
    have H3 := Lib.hid (fun W (h : LsW ls l a n a1 n1 W) => (findP l t a1 n1 c1 W h.one (by omega)).mono fun e w' h => WordsA.shows h hfc hfi hfn)
    have H4 := Lib.hid (fun W (h : LsW ls l a n a1 n1 W) => (findR l t a1 n1 c1 W h.one (by omega)).mono fun e w' h => WordsA.shows h hfc hfi hfn)
    have H6 := Lib.hid (fun W (h : LsW ls l a n a1 n1 W) => (frequentP l z a1 n1 c1 W h.one HF.out.1).mono fun e w' h => FreqA.shows h hqc hqi hqn)
    have H7 := Lib.hid (fun W (h : LsW ls l a n a1 n1 W) => (frequentR l z a1 n1 c1 W h.one HF.out.1).mono fun e w' h => FreqA.shows h hqc hqi hqn)
    have H8 := Lib.hid (fun W (h : LsW ls l a n a1 n1 W) => printP l a1 n1 c1 W h.one h.tab)
    have H9 := Lib.hid (fun W (h : LsW ls l a n a1 n1 W) => printR l a1 n1 c1 W h.one)
    rw [hpc, hpt] at H8 H9
    have H10 := Lib.hid (fun W (h : LsW ls l a n a1 n1 W) => (callsIn_wide.1 (parseP s W (by omega) h.tab h.ev h.em)).mono fun e w' h => ParseA.shows h hsc hsi hsn)
    have H11 := Lib.hid (fun W => (parseR s W (by omega)).mono fun e w' h => ParseA.shows h hsc hsi hsn)
    have e1 : (mc != mc) = false := by simp
    have e2 : (fc != fc) = false := by simp
    have e3 : (qc == qc) = true := by simp
    have e4 : (pt == pt) = true := by simp
    have e5 : (pc == pc) = true := by simp
    have e6 : (sc == sc) = true := by simp
    clear hmc hmi hmn hfc hfi hfn hqc hqi hqn hsc hsi hsn hpc hpt HC2 HC3 HSUM HQ HF H5 g3 g4
    go_wp2_with (fail)
    refine (H1.out _ HT.out).mono ?_
    rintro e W1 ⟨aA1, kA1, rfl, hp1, hb1⟩
    have HT := Lib.hid (HT.out.below hb1)
    have HBX := Lib.hid (bstep HBX.out hb1)
    have HA1 := Lib.hid hp1
    clear hp1
    clear hb1
    go_wp2_with (fail)
    refine (H2.out _ HT.out).mono ?_
    rintro e W2 ⟨aA2, kA2, rfl, hp2, hb2⟩
    have HT := Lib.hid (HT.out.below hb2)
    have HBX := Lib.hid (bstep HBX.out hb2)
    have HA1 := Lib.hid (HA1.out.mono (Nat.le_refl _) hb2)
    have HA2 := Lib.hid hp2
    clear hp2
    clear hb2
    go_wp2_with (fail)
    refine (H3.out _ HT.out).mono ?_
    rintro e W3 ⟨aA3, kA3, rfl, hp3, hb3⟩
    have HT := Lib.hid (HT.out.below hb3)
    have HBX := Lib.hid (bstep HBX.out hb3)
    have HA1 := Lib.hid (HA1.out.mono (Nat.le_refl _) hb3)
    have HA2 := Lib.hid (HA2.out.mono (Nat.le_refl _) hb3)
    have HA3 := Lib.hid hp3
    clear hp3
    clear hb3
    go_wp2_with (fail)
    refine (H4.out _ HT.out).mono ?_
    rintro e W4 ⟨aA4, kA4, rfl, hp4, hb4⟩
    have HT := Lib.hid (HT.out.below hb4)
    have HBX := Lib.hid (bstep HBX.out hb4)
    have HA1 := Lib.hid (HA1.out.mono (Nat.le_refl _) hb4)
    have HA2 := Lib.hid (HA2.out.mono (Nat.le_refl _) hb4)
    have HA3 := Lib.hid (HA3.out.mono (Nat.le_refl _) hb4)
    have HA4 := Lib.hid hp4
    clear hp4
    clear hb4
    have HS1 := Lib.hid (same28 mi aA1 kA1 aA2 kA2 mn mn W4 HA1.out HA2.out)
    go_wp2_with (fail)
    refine (HS1.out).mono ?_
    rintro e W5 ⟨rfl, hb5⟩
    have HT := Lib.hid (HT.out.below hb5)
    have HBX := Lib.hid (bstep HBX.out hb5)
    have HA3 := Lib.hid (HA3.out.mono (Nat.le_refl _) hb5)
    have HA4 := Lib.hid (HA4.out.mono (Nat.le_refl _) hb5)
    clear hb5
    have HS2 := Lib.hid (same28 fi aA3 kA3 aA4 kA4 fn fn W5 HA3.out HA4.out)
    go_wp2_with (fail)
    refine (HS2.out).mono ?_
    rintro e W6 ⟨rfl, hb6⟩
    have HT := Lib.hid (HT.out.below hb6)
    have HBX := Lib.hid (bstep HBX.out hb6)
    clear hb6
    clear HA1 HA2 HA3 HA4 HS1 HS2 H1 H2 H3 H4
    go_wp2_with (fail)
    refine (H6.out _ HT.out).mono ?_
    rintro e W7 ⟨aB1, kB1, rfl, hp7, hb7⟩
    have HT := Lib.hid (HT.out.below hb7)
    have HBX := Lib.hid (bstep HBX.out hb7)
    have HB1 := Lib.hid hp7
    clear hp7
    clear hb7
    go_wp2_with (fail)
    refine (H7.out _ HT.out).mono ?_
    rintro e W8 ⟨aB2, kB2, rfl, hp8, hb8⟩
    have HT := Lib.hid (HT.out.below hb8)
    have HBX := Lib.hid (bstep HBX.out hb8)
    have HB1 := Lib.hid (HB1.out.mono (Nat.le_refl _) hb8)
    have HB2 := Lib.hid hp8
    clear hp8
    clear hb8
    go_wp2_with (fail)
    refine (H8.out _ HT.out).mono ?_
    rintro e W12 ⟨rfl, hb12⟩
    have HT := Lib.hid (HT.out.below hb12)
    have HBX := Lib.hid (bstep HBX.out hb12)
    have HB1 := Lib.hid (HB1.out.mono (Nat.le_refl _) hb12)
    have HB2 := Lib.hid (HB2.out.mono (Nat.le_refl _) hb12)
    clear hb12
    go_wp2_with (fail)
    refine (H9.out _ HT.out).mono ?_
    rintro e W13 ⟨rfl, hb13⟩
    have HT := Lib.hid (HT.out.below hb13)
    have HBX := Lib.hid (bstep HBX.out hb13)
    have HB1 := Lib.hid (HB1.out.mono (Nat.le_refl _) hb13)
    have HB2 := Lib.hid (HB2.out.mono (Nat.le_refl _) hb13)
    clear hb13
    go_wp2_with (fail)
    refine (H10.out _ HT.out).mono ?_
    rintro e W14 ⟨aB3, kB3, rfl, hp14, hb14⟩
    have HT := Lib.hid (HT.out.below hb14)
    have HBX := Lib.hid (bstep HBX.out hb14)
    have HB1 := Lib.hid (HB1.out.mono (Nat.le_refl _) hb14)
    have HB2 := Lib.hid (HB2.out.mono (Nat.le_refl _) hb14)
    have HB3 := Lib.hid hp14
    clear hp14
    clear hb14
    go_wp2_with (fail)
    refine (H11.out _).mono ?_
    rintro e W15 ⟨aB4, kB4, rfl, hp15, hb15⟩
    have HT := Lib.hid (HT.out.below hb15)
    have HBX := Lib.hid (bstep HBX.out hb15)
    have HB1 := Lib.hid (HB1.out.mono (Nat.le_refl _) hb15)
    have HB2 := Lib.hid (HB2.out.mono (Nat.le_refl _) hb15)
    have HB3 := Lib.hid (HB3.out.mono (Nat.le_refl _) hb15)
    have HB4 := Lib.hid hp15
    clear hp15
    clear hb15
    have HS3 := Lib.hid (eqStrs aB1 aB2 kB1 kB2 qn qn qi qi W15 HB1.out HB2.out)
    rw [decide_eq_true (rfl : qi = qi)] at HS3
    go_wp2_with (fail)
    refine HS3.out.mono ?_
    rintro e W16 ⟨rfl, hq16⟩
    have hb16 : Below W15.heap.size W15 W16 := by
      obtain ⟨q, rfl⟩ := hq16
      exact bdrewN _ _
    have HT := Lib.hid (HT.out.below hb16)
    have HBX := Lib.hid (bstep HBX.out hb16)
    have HB3 := Lib.hid (HB3.out.mono (Nat.le_refl _) hb16)
    have HB4 := Lib.hid (HB4.out.mono (Nat.le_refl _) hb16)
    clear hb16 hq16
    have HS4 := Lib.hid (same28 si aB3 kB3 aB4 kB4 sn sn W16 HB3.out HB4.out)
    go_wp2_with (fail)
    refine (HS4.out).mono ?_
    rintro e W17 ⟨rfl, hb17⟩
    have HT := Lib.hid (HT.out.below hb17)
    have HBX := Lib.hid (bstep HBX.out hb17)
    clear hb17
    go_wp2_with (fail)
    refine (HA.out _ HT.out).mono ?_
    rintro e W9 ⟨rfl, hb9⟩
    have HBX := Lib.hid (bstep HBX.out hb9)
    clear hb9
    go_wp2_with (fail)
    go_ret
    exact ⟨rfl, HBX.out⟩
  · have d2 : decide ((5 : Int) < (n : Int)) = false := decide_eq_false (by omega)
    have H5 := Lib.hid (show ls.length ≤ 5 ∨ ∀ u ∈ ls, u.length = 0 from .inl (by have := HLN.out; omega))
    go_enter Tryz.func11, Tryz.ntmps11
    go_wp2_with (fail)
    refine (HC2.out _ HT.out).mono ?_
    rintro e W10 ⟨⟨b10, rfl, hq10⟩, hb10⟩
    have HT := Lib.hid (HT.out.below hb10)
    have HBX := Lib.hid (bstep HBX.out hb10)
    have HQ := Lib.hid hq10
    clear hq10
    clear hb10
    cases b10
    rotate_left
    · go_wp2_with (fail)
      refine (HA.out _ HT.out).mono ?_
      rintro e W9 ⟨rfl, hb9⟩
      have HBX := Lib.hid (bstep HBX.out hb9)
      clear hb9
      go_wp2_with (fail)
      go_ret
      exact ⟨rfl, HBX.out⟩
    have HQ := Lib.hid (HQ.out rfl)
    have HSM := Lib.hid (HSUM.out HQ.out H5.out)
    go_wp2_with (fail)
    refine (HC3.out _ HT.out).mono ?_
    rintro e W11 ⟨⟨b11, rfl, hq11⟩, rfl⟩
    have HF := Lib.hid hq11
    clear hq11
    cases b11
    rotate_left
    · go_wp2_with (fail)
      refine (HA.out _ HT.out).mono ?_
      rintro e W9 ⟨rfl, hb9⟩
      have HBX := Lib.hid (bstep HBX.out hb9)
      clear hb9
      go_wp2_with (fail)
      go_ret
      exact ⟨rfl, HBX.out⟩
    have HF := Lib.hid (HF.out rfl)
    by_cases g3 : 70 < t.length
    · have d3 : decide ((70 : Int) < (t.length : Int)) = true := decide_eq_true (by omega)
      go_wp2_with (fail)
      refine (HA.out _ HT.out).mono ?_
      rintro e W9 ⟨rfl, hb9⟩
      have HBX := Lib.hid (bstep HBX.out hb9)
      clear hb9
      go_wp2_with (fail)
      go_ret
      exact ⟨rfl, HBX.out⟩
    have d3 : decide ((70 : Int) < (t.length : Int)) = false := decide_eq_false (by omega)
    by_cases g4 : 300 < s.length
    · have d4 : decide ((300 : Int) < (s.length : Int)) = true := decide_eq_true (by omega)
      go_wp2_with (fail)
      refine (HA.out _ HT.out).mono ?_
      rintro e W9 ⟨rfl, hb9⟩
      have HBX := Lib.hid (bstep HBX.out hb9)
      clear hb9
      go_wp2_with (fail)
      go_ret
      exact ⟨rfl, HBX.out⟩
    have d4 : decide ((300 : Int) < (s.length : Int)) = false := decide_eq_false (by omega)
    obtain ⟨mc, hmc⟩ : ∃ x, mergeC ls = x := ⟨_, rfl⟩
    obtain ⟨mi, hmi⟩ : ∃ x, shownP (mergeC ls) (mergeI ls) = x := ⟨_, rfl⟩
    obtain ⟨mn, hmn⟩ : ∃ x, mi.length = x := ⟨_, rfl⟩
    obtain ⟨fc, hfc⟩ : ∃ x, findC l t = x := ⟨_, rfl⟩
    obtain ⟨fi, hfi⟩ : ∃ x, shownP (findC l t) (findS l t) = x := ⟨_, rfl⟩
    obtain ⟨fn, hfn⟩ : ∃ x, fi.length = x := ⟨_, rfl⟩
    obtain ⟨qc, hqc⟩ : ∃ x, freqC l z = x := ⟨_, rfl⟩
    obtain ⟨qi, hqi⟩ : ∃ x, shownP (freqC l z) (freqL l z) = x := ⟨_, rfl⟩
    obtain ⟨qn, hqn⟩ : ∃ x, qi.length = x := ⟨_, rfl⟩
    obtain ⟨sc, hsc⟩ : ∃ x, parseC (parseS s) = x := ⟨_, rfl⟩
    obtain ⟨si, hsi⟩ : ∃ x, (parseS s).getD [] = x := ⟨_, rfl⟩
    obtain ⟨sn, hsn⟩ : ∃ x, si.length = x := ⟨_, rfl⟩
    obtain ⟨pc, hpc⟩ : ∃ x, printC l = x := ⟨_, rfl⟩
    obtain ⟨pt, hpt⟩ : ∃ x, printS l = x := ⟨_, rfl⟩
    have H1 := Lib.hid (fun W (h : LsW ls l a n a1 n1 W) => (mergeP ls a n c W h.many HSM.out.1 HSM.out.2).mono fun e w' h => WordsA.shows h hmc hmi hmn)
    have H2 := Lib.hid (fun W (h : LsW ls l a n a1 n1 W) => (mergeRR ls a n c W h.many HSM.out.1 HSM.out.2).mono fun e w' h => WordsA.shows h hmc hmi hmn)
    have H3 := Lib.hid (fun W (h : LsW ls l a n a1 n1 W) => (findP l t a1 n1 c1 W h.one (by omega)).mono fun e w' h => WordsA.shows h hfc hfi hfn)
    have H4 := Lib.hid (fun W (h : LsW ls l a n a1 n1 W) => (findR l t a1 n1 c1 W h.one (by omega)).mono fun e w' h => WordsA.shows h hfc hfi hfn)
    have H6 := Lib.hid (fun W (h : LsW ls l a n a1 n1 W) => (frequentP l z a1 n1 c1 W h.one HF.out.1).mono fun e w' h => FreqA.shows h hqc hqi hqn)
    have H7 := Lib.hid (fun W (h : LsW ls l a n a1 n1 W) => (frequentR l z a1 n1 c1 W h.one HF.out.1).mono fun e w' h => FreqA.shows h hqc hqi hqn)
    have H8 := Lib.hid (fun W (h : LsW ls l a n a1 n1 W) => printP l a1 n1 c1 W h.one h.tab)
    have H9 := Lib.hid (fun W (h : LsW ls l a n a1 n1 W) => printR l a1 n1 c1 W h.one)
    rw [hpc, hpt] at H8 H9
    have H10 := Lib.hid (fun W (h : LsW ls l a n a1 n1 W) => (callsIn_wide.1 (parseP s W (by omega) h.tab h.ev h.em)).mono fun e w' h => ParseA.shows h hsc hsi hsn)
    have H11 := Lib.hid (fun W => (parseR s W (by omega)).mono fun e w' h => ParseA.shows h hsc hsi hsn)
    have e1 : (mc != mc) = false := by simp
    have e2 : (fc != fc) = false := by simp
    have e3 : (qc == qc) = true := by simp
    have e4 : (pt == pt) = true := by simp
    have e5 : (pc == pc) = true := by simp
    have e6 : (sc == sc) = true := by simp
    clear hmc hmi hmn hfc hfi hfn hqc hqi hqn hsc hsi hsn hpc hpt HC2 HC3 HSUM HQ HF H5 g3 g4
    go_wp2_with (fail)
    refine (H1.out _ HT.out).mono ?_
    rintro e W1 ⟨aA1, kA1, rfl, hp1, hb1⟩
    have HT := Lib.hid (HT.out.below hb1)
    have HBX := Lib.hid (bstep HBX.out hb1)
    have HA1 := Lib.hid hp1
    clear hp1
    clear hb1
    go_wp2_with (fail)
    refine (H2.out _ HT.out).mono ?_
    rintro e W2 ⟨aA2, kA2, rfl, hp2, hb2⟩
    have HT := Lib.hid (HT.out.below hb2)
    have HBX := Lib.hid (bstep HBX.out hb2)
    have HA1 := Lib.hid (HA1.out.mono (Nat.le_refl _) hb2)
    have HA2 := Lib.hid hp2
    clear hp2
    clear hb2
    go_wp2_with (fail)
    refine (H3.out _ HT.out).mono ?_
    rintro e W3 ⟨aA3, kA3, rfl, hp3, hb3⟩
    have HT := Lib.hid (HT.out.below hb3)
    have HBX := Lib.hid (bstep HBX.out hb3)
    have HA1 := Lib.hid (HA1.out.mono (Nat.le_refl _) hb3)
    have HA2 := Lib.hid (HA2.out.mono (Nat.le_refl _) hb3)
    have HA3 := Lib.hid hp3
    clear hp3
    clear hb3
    go_wp2_with (fail)
    refine (H4.out _ HT.out).mono ?_
    rintro e W4 ⟨aA4, kA4, rfl, hp4, hb4⟩
    have HT := Lib.hid (HT.out.below hb4)
    have HBX := Lib.hid (bstep HBX.out hb4)
    have HA1 := Lib.hid (HA1.out.mono (Nat.le_refl _) hb4)
    have HA2 := Lib.hid (HA2.out.mono (Nat.le_refl _) hb4)
    have HA3 := Lib.hid (HA3.out.mono (Nat.le_refl _) hb4)
    have HA4 := Lib.hid hp4
    clear hp4
    clear hb4
    have HS1 := Lib.hid (same28 mi aA1 kA1 aA2 kA2 mn mn W4 HA1.out HA2.out)
    go_wp2_with (fail)
    refine (HS1.out).mono ?_
    rintro e W5 ⟨rfl, hb5⟩
    have HT := Lib.hid (HT.out.below hb5)
    have HBX := Lib.hid (bstep HBX.out hb5)
    have HA3 := Lib.hid (HA3.out.mono (Nat.le_refl _) hb5)
    have HA4 := Lib.hid (HA4.out.mono (Nat.le_refl _) hb5)
    clear hb5
    have HS2 := Lib.hid (same28 fi aA3 kA3 aA4 kA4 fn fn W5 HA3.out HA4.out)
    go_wp2_with (fail)
    refine (HS2.out).mono ?_
    rintro e W6 ⟨rfl, hb6⟩
    have HT := Lib.hid (HT.out.below hb6)
    have HBX := Lib.hid (bstep HBX.out hb6)
    clear hb6
    clear HA1 HA2 HA3 HA4 HS1 HS2 H1 H2 H3 H4
    go_wp2_with (fail)
    refine (H6.out _ HT.out).mono ?_
    rintro e W7 ⟨aB1, kB1, rfl, hp7, hb7⟩
    have HT := Lib.hid (HT.out.below hb7)
    have HBX := Lib.hid (bstep HBX.out hb7)
    have HB1 := Lib.hid hp7
    clear hp7
    clear hb7
    go_wp2_with (fail)
    refine (H7.out _ HT.out).mono ?_
    rintro e W8 ⟨aB2, kB2, rfl, hp8, hb8⟩
    have HT := Lib.hid (HT.out.below hb8)
    have HBX := Lib.hid (bstep HBX.out hb8)
    have HB1 := Lib.hid (HB1.out.mono (Nat.le_refl _) hb8)
    have HB2 := Lib.hid hp8
    clear hp8
    clear hb8
    go_wp2_with (fail)
    refine (H8.out _ HT.out).mono ?_
    rintro e W12 ⟨rfl, hb12⟩
    have HT := Lib.hid (HT.out.below hb12)
    have HBX := Lib.hid (bstep HBX.out hb12)
    have HB1 := Lib.hid (HB1.out.mono (Nat.le_refl _) hb12)
    have HB2 := Lib.hid (HB2.out.mono (Nat.le_refl _) hb12)
    clear hb12
    go_wp2_with (fail)
    refine (H9.out _ HT.out).mono ?_
    rintro e W13 ⟨rfl, hb13⟩
    have HT := Lib.hid (HT.out.below hb13)
    have HBX := Lib.hid (bstep HBX.out hb13)
    have HB1 := Lib.hid (HB1.out.mono (Nat.le_refl _) hb13)
    have HB2 := Lib.hid (HB2.out.mono (Nat.le_refl _) hb13)
    clear hb13
    go_wp2_with (fail)
    refine (H10.out _ HT.out).mono ?_
    rintro e W14 ⟨aB3, kB3, rfl, hp14, hb14⟩
    have HT := Lib.hid (HT.out.below hb14)
    have HBX := Lib.hid (bstep HBX.out hb14)
    have HB1 := Lib.hid (HB1.out.mono (Nat.le_refl _) hb14)
    have HB2 := Lib.hid (HB2.out.mono (Nat.le_refl _) hb14)
    have HB3 := Lib.hid hp14
    clear hp14
    clear hb14
    go_wp2_with (fail)
    refine (H11.out _).mono ?_
    rintro e W15 ⟨aB4, kB4, rfl, hp15, hb15⟩
    have HT := Lib.hid (HT.out.below hb15)
    have HBX := Lib.hid (bstep HBX.out hb15)
    have HB1 := Lib.hid (HB1.out.mono (Nat.le_refl _) hb15)
    have HB2 := Lib.hid (HB2.out.mono (Nat.le_refl _) hb15)
    have HB3 := Lib.hid (HB3.out.mono (Nat.le_refl _) hb15)
    have HB4 := Lib.hid hp15
    clear hp15
    clear hb15
    have HS3 := Lib.hid (eqStrs aB1 aB2 kB1 kB2 qn qn qi qi W15 HB1.out HB2.out)
    rw [decide_eq_true (rfl : qi = qi)] at HS3
    go_wp2_with (fail)
    refine HS3.out.mono ?_
    rintro e W16 ⟨rfl, hq16⟩
    have hb16 : Below W15.heap.size W15 W16 := by
      obtain ⟨q, rfl⟩ := hq16
      exact bdrewN _ _
    have HT := Lib.hid (HT.out.below hb16)
    have HBX := Lib.hid (bstep HBX.out hb16)
    have HB3 := Lib.hid (HB3.out.mono (Nat.le_refl _) hb16)
    have HB4 := Lib.hid (HB4.out.mono (Nat.le_refl _) hb16)
    clear hb16 hq16
    have HS4 := Lib.hid (same28 si aB3 kB3 aB4 kB4 sn sn W16 HB3.out HB4.out)
    go_wp2_with (fail)
    refine (HS4.out).mono ?_
    rintro e W17 ⟨rfl, hb17⟩
    have HT := Lib.hid (HT.out.below hb17)
    have HBX := Lib.hid (bstep HBX.out hb17)
    clear hb17
    go_wp2_with (fail)
    refine (HA.out _ HT.out).mono ?_
    rintro e W9 ⟨rfl, hb9⟩
    have HBX := Lib.hid (bstep HBX.out hb9)
    clear hb9
    go_wp2_with (fail)
    go_ret
    exact ⟨rfl, HBX.out⟩
theorem law11r (a : Option Addr) (n c : Nat) (ls : List (List Post)) (a1 : Option Addr) (n1 c1 : Nat) (l : List Post) (t s : Str) (z : Int) (w : World) (h : Posts2 w a n ls) (h1 : Posts w a1 n1 l ∧ n1 ≤ c1) (_ : t.length ≤ 281474976710656) (_ : s.length ≤ 281474976710656) (_ : I64 z) (ht : ET w) (hev : EV w) (hem : EM w) :
    Calls Tryz.prog 11 #[.slice a n c, .slice a1 n1 c1, .string (bs t), .string (bs s), .int .i64 z] w fun e w' => e = .returned (.bool true) ∧ Below w.heap.size w w' := law11 a n c ls a1 n1 c1 l t s z w h h1.1 ht hev hem
end Go.Proofs.YtngdmpkoedpgdaaGreatDoor
