/-
  The law of words, names and contexts.
-/
import Derived.Test.YtngdmpkoedpgdaaGreatDoorQw
import Derived.Test.YtngdmpkoedpgdaaGreatDoorRcx
import Derived.Test.YtngdmpkoedpgdaaGreatDoorSm5
import Derived.Test.YtngdmpkoedpgdaaGreatDoorQ7
namespace Go.Ap
open Go Go.RowKit
def shownP (c : Int) (l : List Post) : List Post := if c = 0 then l else []
end Go.Ap
namespace Go.Proofs.YtngdmpkoedpgdaaGreatDoor
open Go.RowKit Go.Ap Go.Shelf Go.Proofs

attribute [local go_sem] Oper.semAt_some bs_toList empty_toList bs_size bs_extract
/-- what is answered, as a slice of postings -/
def ShowsP (e : Ending) (w w' : World) (c : Int) (l : List Post) : Prop := ∃ a k, e = .returned (.tuple #[.slice a l.length k, .int .i64 c]) ∧ Posts w' a l.length l ∧ Below w.heap.size w w'
theorem WordsA.shows {e : Ending} {w w' : World} {c : Int} {l : List Post} (h : WordsA e w w' c l) : ShowsP e w w' c (shownP c l) := by
  obtain ⟨u, rfl, h1, h2, hb⟩ := h
  unfold shownP
  by_cases hc : c = 0
  · rw [if_pos hc]
    obtain ⟨a, k, rfl, hp, _⟩ := h1 hc
    exact ⟨a, k, rfl, hp, hb⟩
  · rw [if_neg hc, h2 hc]
    exact ⟨none, 0, rfl, SlM.nil _ _, hb⟩
theorem WordsR.shows {e : Ending} {w w' : World} {c : Int} {l : List Post} (h : WordsR e w w' c l) : ShowsP e w w' c (shownP c l) := by
  obtain ⟨u, rfl, h1, h2, hb⟩ := h
  unfold shownP
  by_cases hc : c = 0
  · rw [if_pos hc]
    obtain ⟨b, o, k, rfl, hp, _⟩ := h1 hc
    exact ⟨_, k, rfl, hp.plain, hb⟩
  · rw [if_neg hc, h2 hc]
    exact ⟨none, 0, rfl, SlM.nil _ _, hb⟩
theorem wlong43 (t : Wrd) (w : World) (hs : t.name.length ≤ 281474976710656) : Calls Tryz.prog 43 #[.agg (wrdC t)] w fun e w' => e = .returned (.bool (decide (70 < t.name.length))) ∧ Below w.heap.size w w' := by
  unfold wrdC
  obtain ⟨nm, hnm⟩ : ∃ nm, t.name = nm := ⟨_, rfl⟩
  rw [hnm] at hs ⊢
  by_cases h : 70 < nm.length
  · have d1 : decide ((70 : Int) < (nm.length : Int)) = true := by rw [decide_eq_true_eq]; omega
    rw [decide_eq_true h]
    clear h
    go_enter Tryz.func43, Tryz.ntmps43
    go_wp2_with (fail)
    go_ret
    exact ⟨rfl, balloc _ _⟩
  · have d1 : decide ((70 : Int) < (nm.length : Int)) = false := by rw [decide_eq_false_iff_not]; omega
    rw [decide_eq_false h]
    clear h
    go_enter Tryz.func43, Tryz.ntmps43
    go_wp2_with (fail)
    go_ret
    exact ⟨rfl, balloc _ _⟩
/-- both give one context -/
theorem ctxBoth (ws : List Str) (z1 z2 : Int) (a : Option Addr) (n c : Nat) (w : World) (h : StrsL w a n ws) (hc : n ≤ c) (hn : n ≤ 12) (hw : ∀ s ∈ ws, s.length ≤ 70) :
    ∃ s k, (∀ W, Below w.heap.size w W → Calls Tryz.prog 29 #[.slice a n c, .int .i64 z1, .int .i64 z2] W fun e w' => CtxA e W w' s k) ∧ ∀ W, Below w.heap.size w W → Calls Tryz.prog 46 #[.slice a n c, .int .i64 z1, .int .i64 z2] W fun e w' => CtxA e W w' s k := by
  cases hb : ctxB n z1 z2
  · exact ⟨[], 2, fun W _ => contextBad z1 z2 a n c W _ (.inl rfl) hb, fun W _ => contextBad z1 z2 a n c W _ (.inr rfl) hb⟩
  · unfold ctxB at hb
    simp only [Bool.not_eq_true', Bool.or_eq_false_iff, decide_eq_false_iff_not] at hb
    obtain ⟨⟨⟨b1, b2⟩, b3⟩, b4⟩ := hb
    obtain ⟨p, rfl⟩ := Int.eq_ofNat_of_zero_le (show 0 ≤ z1 by omega)
    obtain ⟨k, rfl⟩ := Int.eq_ofNat_of_zero_le (show 0 ≤ z2 by omega)
    have hl := ctxS_le (ws := ws) (by rw [h.len]; exact hn) hw p k
    exact ⟨ctxS ws p k, 0, fun W hb => contextOk ws p k a n c W (h.mono (Nat.le_refl _) hb) hc (by omega) (by omega) (by omega) (by omega), fun W hb => contextROk ws p k a n c W (h.mono (Nat.le_refl _) hb) hn (by omega) (by omega) hw⟩
set_option maxRecDepth 100000 in
set_option maxHeartbeats 4000000 in
theorem law9 (sec : Str) (x : Coll) (ax : Option Addr) (nx cx : Nat) (ay : Option Addr) (ny cy : Nat) (az : Option Addr) (nz cz : Nat) (a2 : Option Addr) (n2 c2 : Nat) (ws : List Str) (a3 : Option Addr) (n3 c3 : Nat) (bsl : List Wrd) (a4 : Option Addr) (n4 c4 : Nat) (ls : List Int) (z1 z2 : Int) (w : World)
    (hs : sec.length ≤ 4611686018427387903) (hx : CollM w ax ay az nx ny nz x) (hcx : nx ≤ cx) (h2 : StrsL w a2 n2 ws) (hc2 : n2 ≤ c2) (h3 : Wrds w a3 n3 bsl) (h4 : Ints w a4 n4 ls) (ht : ET w) (hev : EV w) :
    Calls Tryz.prog 9 #[.string (bs sec), collV x.sec ax nx cx ay ny cy az nz cz, .slice a2 n2 c2, .slice a3 n3 c3, .slice a4 n4 c4, .int .i64 z1, .int .i64 z2] w fun e w' => e = .returned (.bool true) ∧ Below w.heap.size w w' := by
  have HA := Lib.hid (fun W (hb : Below w.heap.size w W) => awake13 W (ht.mono (Nat.le_refl _) hb))
  have HGR := Lib.hid (fun W (hb : Below w.heap.size w W) => greatR x ax nx cx ay ny cy az nz cz W (hx.mono (Nat.le_refl _) hb))
  have HM := Lib.hid (fun W (hb : Below w.heap.size w W) => many12 ws a2 n2 c2 W (h2.mono (Nat.le_refl _) hb))
  have HLO := Lib.hid (fun W (hb : Below w.heap.size w W) => contWrd (fun t => decide (70 < t.name.length)) a3 n3 c3 bsl 43 #[] W (h3.mono (Nat.le_refl _) hb) (enters_of Tryz.func43 (by kernel_rfl) rfl) (fun t _ W' hs _ => wlong43 t W' hs))
  have HNP := Lib.hid (fun W (hb : Below w.heap.size w W) => (namesP x ax nx cx ay ny cy az nz cz bsl ls a3 n3 c3 a4 n4 c4 W (hx.mono (Nat.le_refl _) hb) hcx (hev.mono (Nat.le_refl _) hb) (h3.mono (Nat.le_refl _) hb) (h4.mono (Nat.le_refl _) hb)).mono fun _ _ h => h.shows)
  have HNR := Lib.hid (fun W (hb : Below w.heap.size w W) => (namesR x ax nx cx ay ny cy az nz cz bsl ls a3 n3 c3 a4 n4 c4 W (hx.mono (Nat.le_refl _) hb) (h3.mono (Nat.le_refl _) hb) (h4.mono (Nat.le_refl _) hb)).mono fun _ _ h => h.shows)
  have HX2 := Lib.hid h2
  have HX4 := Lib.hid h4
  have HC2 := Lib.hid hc2
  have HSL := Lib.hid hs
  clear hx hcx hev h3
  unfold collV at *
  obtain ⟨xs, hsc⟩ : ∃ s, x.sec = s := ⟨_, rfl⟩
  rw [hsc] at HGR HNP HNR ⊢
  obtain ⟨kn, hkn⟩ : ∃ k, namesC (collC x) n3 n4 ((bsl.map Wrd.name).zip ls) = k := ⟨_, rfl⟩
  obtain ⟨ln, hln⟩ : ∃ l, shownP kn (idxM mkB (namesEs xs ((bsl.map Wrd.name).zip ls))) = l := ⟨_, rfl⟩
  rw [hkn, hln] at HNP HNR
  have HB0 := Lib.hid (balloc w (.cells #[.string (bs xs), .slice ax nx cx, .slice ay ny cy, .slice az nz cz] 68))
  have HK0 := Lib.hid (BlkK.new w #[.string (bs xs), .slice ax nx cx, .slice ay ny cy, .slice az nz cz] 68)
  clear hsc hkn hln ht h2 h4 hc2
  have q0 := HK0.out.cell (i := 0) (u := .string (bs xs)) rfl
  have q1 := HK0.out.cell (i := 1) (u := .slice ax nx cx) rfl
  have q2 := HK0.out.cell (i := 2) (u := .slice ay ny cy) rfl
  have q3 := HK0.out.cell (i := 3) (u := .slice az nz cz) rfl
  have hs2 := HX2.out.small
  have hs4 := HX4.out.small
  by_cases g0 : 30 < sec.length
  · have d0 : decide ((30 : Int) < (sec.length : Int)) = true := by rw [decide_eq_true_eq]; omega
    have HBX := HB0
    clear g0 hs
    go_enter Tryz.func9, Tryz.ntmps9
    go_wp2_with (fail)
    refine (HA.out _ HBX.out).mono ?_
    rintro e W9 ⟨rfl, hb9⟩
    have HBX := Lib.hid (bstep HBX.out hb9)
    clear hb9
    go_wp2_with (fail)
    go_ret
    exact ⟨rfl, HBX.out⟩
  have d0 : decide ((30 : Int) < (sec.length : Int)) = false := by rw [decide_eq_false_iff_not]; omega
  clear g0 hs
  go_enter Tryz.func9, Tryz.ntmps9
  go_wp2_with (fail)
  refine (HGR.out _ HB0.out).mono ?_
  rintro e W1 ⟨⟨gb, rfl, _⟩, hb1⟩
  have HBX := Lib.hid (bstep HB0.out hb1)
  have HK1 := Lib.hid (HK0.out.below hb1)
  clear hb1 q0 q1 q2 q3
  cases gb
  rotate_left
  · go_wp2_with (fail)
    refine (HA.out _ HBX.out).mono ?_
    rintro e W9 ⟨rfl, hb9⟩
    have HBX := Lib.hid (bstep HBX.out hb9)
    clear hb9
    go_wp2_with (fail)
    go_ret
    exact ⟨rfl, HBX.out⟩
  go_wp2_with (fail)
  refine (HM.out _ HBX.out).mono ?_
  rintro e W2 ⟨rfl, hb2⟩
  have HBX := Lib.hid (bstep HBX.out hb2)
  have HK2 := Lib.hid (HK1.out.below hb2)
  clear hb2
  cases hm : manyB ws
  rotate_left
  · clear hm
    go_wp2_with (fail)
    refine (HA.out _ HBX.out).mono ?_
    rintro e W9 ⟨rfl, hb9⟩
    have HBX := Lib.hid (bstep HBX.out hb9)
    clear hb9
    go_wp2_with (fail)
    go_ret
    exact ⟨rfl, HBX.out⟩
  obtain ⟨m1, m2⟩ := manyB_no hm
  rw [HX2.out.len] at m1
  clear hm
  by_cases g1 : 12 < n3
  · have d1 : decide ((12 : Int) < (n3 : Int)) = true := by rw [decide_eq_true_eq]; omega
    clear g1
    go_wp2_with (fail)
    refine (HA.out _ HBX.out).mono ?_
    rintro e W9 ⟨rfl, hb9⟩
    have HBX := Lib.hid (bstep HBX.out hb9)
    clear hb9
    go_wp2_with (fail)
    go_ret
    exact ⟨rfl, HBX.out⟩
  have d1 : decide ((12 : Int) < (n3 : Int)) = false := by rw [decide_eq_false_iff_not]; omega
  have HWP := Lib.hid (fun W (hb : Below w.heap.size w W) => (wordsP sec ws ls a2 n2 c2 a4 n4 c4 W (HX2.out.mono (Nat.le_refl _) hb) (HX4.out.mono (Nat.le_refl _) hb) HSL.out (fun s hs => by have := m2 s hs; omega)).mono fun _ _ h => h.shows)
  have HWR := Lib.hid (fun W (hb : Below w.heap.size w W) => (wordsR sec ws ls a2 n2 c2 a4 n4 c4 W (HX2.out.mono (Nat.le_refl _) hb) (HX4.out.mono (Nat.le_refl _) hb) HSL.out (fun s hs => by have := m2 s hs; omega)).mono fun _ _ h => h.shows)
  obtain ⟨cs, ck, hcp, hcr⟩ := ctxBoth ws z1 z2 a2 n2 c2 w HX2.out HC2.out m1 m2
  have HCP := Lib.hid hcp
  have HCR := Lib.hid hcr
  obtain ⟨kw, hkw⟩ : ∃ k, wordsC sec ws ls = k := ⟨_, rfl⟩
  obtain ⟨lw, hlw⟩ : ∃ l, shownP kw (idxM mkB (wordsEs sec (ws.zip ls))) = l := ⟨_, rfl⟩
  rw [hkw, hlw] at HWP HWR
  clear g1 hcp hcr hkw hlw m1 m2
  go_wp2_with (fail)
  refine (HLO.out _ HBX.out).mono ?_
  rintro e W3 ⟨rfl, hb3⟩
  have HBX := Lib.hid (bstep HBX.out hb3)
  have HK3 := Lib.hid (HK2.out.below hb3)
  clear hb3
  cases hlg : bsl.any fun t => decide (70 < t.name.length)
  rotate_left
  · clear hlg
    go_wp2_with (fail)
    refine (HA.out _ HBX.out).mono ?_
    rintro e W9 ⟨rfl, hb9⟩
    have HBX := Lib.hid (bstep HBX.out hb9)
    clear hb9
    go_wp2_with (fail)
    go_ret
    exact ⟨rfl, HBX.out⟩
  clear hlg
  by_cases g2 : 14 < n4
  · have d2 : decide ((14 : Int) < (n4 : Int)) = true := by rw [decide_eq_true_eq]; omega
    clear g2
    go_wp2_with (fail)
    refine (HA.out _ HBX.out).mono ?_
    rintro e W9 ⟨rfl, hb9⟩
    have HBX := Lib.hid (bstep HBX.out hb9)
    clear hb9
    go_wp2_with (fail)
    go_ret
    exact ⟨rfl, HBX.out⟩
  have d2 : decide ((14 : Int) < (n4 : Int)) = false := by rw [decide_eq_false_iff_not]; omega
  clear g2
  go_wp2_with (fail)
  refine (HWP.out _ HBX.out).mono ?_
  rintro e W4 ⟨b1, k1, rfl, hp1, hb4⟩
  have HBX := Lib.hid (bstep HBX.out hb4)
  have HK4 := Lib.hid (HK3.out.below hb4)
  have HP1 := Lib.hid hp1
  clear hb4 hp1
  obtain ⟨lwn, hlwn⟩ : ∃ m, lw.length = m := ⟨_, rfl⟩
  obtain ⟨lnn, hlnn⟩ : ∃ m, ln.length = m := ⟨_, rfl⟩
  unfold ShowsP at HWR HNP HNR
  rw [hlwn] at HP1 ⊢
  rw [hlwn] at HWR
  rw [hlnn] at HNP HNR
  clear hlwn hlnn
  go_wp2_with (fail)
  refine (HWR.out _ HBX.out).mono ?_
  rintro e W5 ⟨b2, k2, rfl, hp2, hb5⟩
  have HBX := Lib.hid (bstep HBX.out hb5)
  have HK5 := Lib.hid (HK4.out.below hb5)
  have HP1 := Lib.hid (HP1.out.mono (Nat.le_refl _) hb5)
  have HP2 := Lib.hid hp2
  clear hb5 hp2
  have q0 := HK5.out.cell (i := 0) (u := .string (bs xs)) rfl
  have q1 := HK5.out.cell (i := 1) (u := .slice ax nx cx) rfl
  have q2 := HK5.out.cell (i := 2) (u := .slice ay ny cy) rfl
  have q3 := HK5.out.cell (i := 3) (u := .slice az nz cz) rfl
  go_wp2_with (fail)
  refine (HNP.out _ HBX.out).mono ?_
  rintro e W6 ⟨b3, k3, rfl, hp3, hb6⟩
  have HBX := Lib.hid (bstep HBX.out hb6)
  have HK6 := Lib.hid (HK5.out.below hb6)
  have HP1 := Lib.hid (HP1.out.mono (Nat.le_refl _) hb6)
  have HP2 := Lib.hid (HP2.out.mono (Nat.le_refl _) hb6)
  have HP3 := Lib.hid hp3
  clear hb6 hp3 q0 q1 q2 q3
  have q0 := HK6.out.cell (i := 0) (u := .string (bs xs)) rfl
  have q1 := HK6.out.cell (i := 1) (u := .slice ax nx cx) rfl
  have q2 := HK6.out.cell (i := 2) (u := .slice ay ny cy) rfl
  have q3 := HK6.out.cell (i := 3) (u := .slice az nz cz) rfl
  go_wp2_with (fail)
  refine (HNR.out _ HBX.out).mono ?_
  rintro e W7 ⟨b4, k4, rfl, hp4, hb7⟩
  have HBX := Lib.hid (bstep HBX.out hb7)
  have HP1 := Lib.hid (HP1.out.mono (Nat.le_refl _) hb7)
  have HP2 := Lib.hid (HP2.out.mono (Nat.le_refl _) hb7)
  have HP3 := Lib.hid (HP3.out.mono (Nat.le_refl _) hb7)
  have HP4 := Lib.hid hp4
  clear hb7 hp4 q0 q1 q2 q3
  go_wp2_with (fail)
  refine (HCP.out _ HBX.out).mono ?_
  rintro e W8 ⟨rfl, hb8⟩
  have HBX := Lib.hid (bstep HBX.out hb8)
  have HP1 := Lib.hid (HP1.out.mono (Nat.le_refl _) hb8)
  have HP2 := Lib.hid (HP2.out.mono (Nat.le_refl _) hb8)
  have HP3 := Lib.hid (HP3.out.mono (Nat.le_refl _) hb8)
  have HP4 := Lib.hid (HP4.out.mono (Nat.le_refl _) hb8)
  clear hb8
  go_wp2_with (fail)
  refine (HCR.out _ HBX.out).mono ?_
  rintro e W9 ⟨rfl, hb9⟩
  have HBX := Lib.hid (bstep HBX.out hb9)
  have HP3 := Lib.hid (HP3.out.mono (Nat.le_refl _) hb9)
  have HP4 := Lib.hid (HP4.out.mono (Nat.le_refl _) hb9)
  have HS1 := Lib.hid (same28 lw b1 k1 b2 k2 lwn lwn W9 (HP1.out.mono (Nat.le_refl _) hb9) (HP2.out.mono (Nat.le_refl _) hb9))
  have HS2 := Lib.hid (fun W (hb : Below W9.heap.size W9 W) => same28 ln b3 k3 b4 k4 lnn lnn W (HP3.out.mono (Nat.le_refl _) hb) (HP4.out.mono (Nat.le_refl _) hb))
  clear hb9
  go_wp2_with (fail)
  refine HS1.out.mono ?_
  rintro e W10 ⟨rfl, hb10⟩
  have HBX := Lib.hid (bstep HBX.out hb10)
  have HB10 := Lib.hid hb10
  clear hb10
  go_wp2_with (fail)
  refine (HS2.out _ HB10.out).mono ?_
  rintro e W11 ⟨rfl, hb11⟩
  have HBX := Lib.hid (bstep HBX.out hb11)
  clear hb11
  go_wp2_with (fail)
  refine (HA.out _ HBX.out).mono ?_
  rintro e W9 ⟨rfl, hb9⟩
  have HBX := Lib.hid (bstep HBX.out hb9)
  clear hb9
  go_wp2_with (fail)
  go_ret
  exact ⟨rfl, HBX.out⟩
theorem law9r (sec : Str) (x : Coll) (ax : Option Addr) (nx cx : Nat) (ay : Option Addr) (ny cy : Nat) (az : Option Addr) (nz cz : Nat) (a2 : Option Addr) (n2 c2 : Nat) (ws : List Str) (a3 : Option Addr) (n3 c3 : Nat) (bsl : List Wrd) (a4 : Option Addr) (n4 c4 : Nat) (ls : List Int) (z1 z2 : Int) (w : World)
    (hs : sec.length ≤ 281474976710656) (hx : CollM w ax ay az nx ny nz x) (hcx : nx ≤ cx) (h2 : StrsL w a2 n2 ws ∧ n2 ≤ c2 ∧ ∀ s ∈ ws, s.length ≤ 281474976710656) (h3 : Wrds w a3 n3 bsl) (h4 : Ints w a4 n4 ls) (_ : I64 z1) (_ : I64 z2) (ht : ET w) (hev : EV w) :
    Calls Tryz.prog 9 #[.string (bs sec), collV x.sec ax nx cx ay ny cy az nz cz, .slice a2 n2 c2, .slice a3 n3 c3, .slice a4 n4 c4, .int .i64 z1, .int .i64 z2] w fun e w' => e = .returned (.bool true) ∧ Below w.heap.size w w' :=
  law9 sec x ax nx cx ay ny cy az nz cz a2 n2 c2 ws a3 n3 c3 bsl a4 n4 c4 ls z1 z2 w (by omega) hx hcx h2.1 h2.2.1 h3 h4 ht hev
end Go.Proofs.YtngdmpkoedpgdaaGreatDoor
