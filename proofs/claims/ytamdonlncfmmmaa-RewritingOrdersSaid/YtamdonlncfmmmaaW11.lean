/-
  Trace, Normalize, Step, Normal, and the reference's.
-/
import Derived.Test.YtamdonlncfmmmaaW10
namespace Go.Proofs.Ytamdonlncfmmmaa
open Go.RowKit Go.Ap Go.Shelf Go.Proofs

attribute [local go_sem] Oper.semAt_some bs_toList empty_toList bs_size ext_drop ext_take bs_append

theorem ret3 {a b : Str} {c d : Bool} {e f : Int} (h : (a, c, e) = (b, d, f)) : Ending.returned (.tuple #[.string (bs a), .bool c, .int .i64 e]) = .returned (.tuple #[.string (bs b), .bool d, .int .i64 f]) := by
  injection h with h1 h2; injection h2 with h2 h3; rw [h1, h2, h3]
theorem ret3p {a : Str} {c : Bool} {e : Int} {p : Str × Bool × Int} (h : p = (a, c, e)) : Ending.returned (.tuple #[.string (bs a), .bool c, .int .i64 e]) = .returned (.tuple #[.string (bs p.1), .bool p.2.1, .int .i64 p.2.2]) := by rw [h]
theorem retBp {c : Bool} {e : Int} {p : Bool × Int} (h : p = (c, e)) : Ending.returned (.tuple #[.bool c, .int .i64 e]) = .returned (.tuple #[.bool p.1, .int .i64 p.2]) := by rw [h]
theorem retSp {a : Str} {e : Int} {p : Int × Str} (h : p = (e, a)) : Ending.returned (.tuple #[.string (bs a), .int .i64 e]) = .returned (.tuple #[.string (bs p.2), .int .i64 p.1]) := by rw [h]
theorem bs_nil : ({ data := #[] } : ByteArray) = bs [] := rfl

set_option maxRecDepth 100000 in
set_option maxHeartbeats 2000000 in
theorem trace26 (a : Option Addr) (n c : Nat) (rs : List Rule) (s : Str) (w : World) (h : Rls w a n rs) (hs : s.length ≤ 4611686018427387903) :
    Calls Try.prog 26 #[.slice a n c, .string (bs s)] w (GivesS w (TrE rs s).1 (TrE rs s).2) := by
  have H1 := Lib.hid (check36 a n c rs s w h hs)
  have HH := Lib.hid h
  clear h
  obtain ⟨q, hq⟩ : ∃ q, chkW rs s = q := ⟨_, rfl⟩
  have HQ := Lib.hid hq
  have H1o := H1.out
  rw [hq] at H1o
  have H1 := Lib.hid H1o
  clear hq H1o
  by_cases h0 : q = 0
  · subst h0
    have hc := chkW_ok HQ.out
    have HT := Lib.hid (fun W (hb : Below w.heap.size w W) => trace45 a n c rs s W (HH.out.mono (Nat.le_refl _) hb) (val_of hc.1) hs)
    have HE := Lib.hid (show TrE rs s = traceE rs s by rw [TrE, if_pos HQ.out])
    clear hc
    go_enter Try.func26, Try.ntmps26
    go_wp2_with (fail)
    refine H1.out.mono ?_
    rintro e w1 ⟨rfl, hb⟩
    have HB := Lib.hid hb
    clear hb
    go_wp2_with (fail)
    refine (HT.out _ HB.out).mono ?_
    rintro e w2 ⟨v, rfl, ho, hb2⟩
    have HO := Lib.hid ho
    have HB2 := Lib.hid hb2
    clear ho hb2
    go_wp2_with (fail)
    go_ret2
    exact ⟨v, by rw [HE.out]; rfl, by rw [HE.out]; exact HO.out.mono HB.out.size, bstep HB.out HB2.out⟩
  · have e1 : (q != 0) = true := by simpa using h0
    have HE := Lib.hid (show TrE rs s = (q, []) by rw [TrE, HQ.out, if_neg h0])
    clear h0
    go_enter Try.func26, Try.ntmps26
    go_wp2_with (fail)
    refine H1.out.mono ?_
    rintro e w1 ⟨rfl, hb⟩
    have HB := Lib.hid hb
    clear hb
    go_wp2_with (fail)
    go_ret2
    exact tr_ret HE.out (OwnS.nil _ _) HB.out

set_option maxRecDepth 100000 in
set_option maxHeartbeats 4000000 in
theorem reftrace27 (a : Option Addr) (n c : Nat) (rs : List Rule) (s : Str) (w : World) (h : Rls w a n rs) (hs : s.length ≤ 4611686018427387903) :
    Calls Try.prog 27 #[.slice a n c, .string (bs s)] w (GivesS w (TrE rs s).1 (TrE rs s).2) := by
  obtain ⟨i0, hi, hz0, hz1, hz2⟩ := info_parts info9
  have H1 := Lib.hid (refcheck38 a n c rs s w h hs)
  have HH := Lib.hid h
  clear h
  obtain ⟨q, hq⟩ : ∃ q, chkW rs s = q := ⟨_, rfl⟩
  have HQ := Lib.hid hq
  have H1o := H1.out
  rw [hq] at H1o
  have H1 := Lib.hid H1o
  clear hq H1o
  by_cases h0 : q = 0
  · subst h0
    have hc := chkW_ok HQ.out
    have HV := Lib.hid (val_of hc.1)
    have HE := Lib.hid (show TrE rs s = traceE rs s by rw [TrE, if_pos HQ.out])
    clear hc
    go_enter Try.func27, Try.ntmps27
    go_wp2_with (fail)
    refine H1.out.mono ?_
    rintro e w1 ⟨rfl, q1, rfl⟩
    go_wp2_with (fail)
    go_loopw [1, 7] (fun xv ov wr => ∃ (l : List Str) (x : Str), xv = .string (bs x) ∧ OwnS wr w.heap.size ov l ∧ AtT rs s l x ∧ x.length ≤ s.length ∧ Below w.heap.size w wr) (fun _ ov _ => 4096 - lenV ov)
    case atStart => exact ⟨[s], s, rfl, OwnS.one (w.drewN q1) (Nat.le_refl _) s, AtT.start, Nat.le_refl _, bstep (bdrewN _ _) (balloc _ _)⟩
    case round =>
      obtain ⟨l, x, rfl, ho, hat, hxl, hb⟩ := hrel
      obtain ⟨q1, q2, q3⟩ := hat.len
      obtain ⟨m, hm⟩ : ∃ m, l.length = m + 1 := ⟨l.length - 1, by omega⟩
      have hsz := hb.size
      have HO := Lib.hid ho
      obtain ⟨b, cc, rfl, hbb, hc⟩ := ho.addr (by omega)
      have HAT := Lib.hid hat
      have HB := Lib.hid hb
      have HM := Lib.hid hm
      have HST := Lib.hid (refstep44 a n c rs x wr (HH.out.mono (Nat.le_refl _) hb) (by omega))
      have hyl := stepL_len (rs := rs) (s := x) HV.out
      have hm4 : m ≤ 4095 := by omega
      rw [hm]
      clear ho hat hb hc q3 q1 q2 hm
      go_wp2_with (fail)
      refine HST.out.mono ?_
      rintro e w1 ⟨rfl, hb1⟩
      have HB1 := Lib.hid (bstep HB.out hb1)
      have HO1 := Lib.hid (HO.out.below hb1)
      have hsz1 := Nat.le_trans hsz hb1.size
      obtain ⟨⟨y, is⟩, hy⟩ : ∃ p, stepL rs x = p := ⟨_, rfl⟩
      rw [hy] at hyl ⊢
      have HY := Lib.hid hy
      clear hb1 hy HST
      cases is
      · have HD := Lib.hid (HE.out.trans (HAT.out.done HY.out))
        go_wp2_with (fail)
        go_ret2
        exact tr_ret HD.out (by have := HO1.out; rwa [HM.out] at this) HB1.out
      · by_cases h4 : m = 4095
        · have HD := Lib.hid (HE.out.trans (HAT.out.full HY.out (by rw [HM.out, h4])))
          have e4 : ((m : Int) + 1 == 4096) = true := by rw [beq_iff_eq]; omega
          clear h4
          go_wp2_with (fail)
          go_ret2
          exact tr_ret HD.out (OwnS.nil _ _) HB1.out
        · have HN := Lib.hid (HAT.out.next HY.out (by rw [HM.out]; omega))
          have hlt : m < 4095 := by omega
          have e4 : ((m : Int) + 1 == 4096) = false := by rw [beq_eq_false_iff_ne]; omega
          have hown0 : w1.ownsRow w.heap.size 9 1 (.slice (some ⟨b, 0, none⟩) (m + 1) cc) (m + 1) (l.map sv) := by have := HO1.out; unfold OwnS at this; rwa [HM.out] at this
          have HOW := Lib.hid hown0
          clear h4 hown0
          go_wp2_with (at_builtin; refine wpList_append_own _ rfl _ _ 26 rfl w.heap.size 9 i0 (.string { data := #[] }) 1 16 Try.underlying26 hi hz0 hz1 hz2 rfl (by decide) _ _ _ rfl (HOW.out.alloc _) ⟨w1.heap.size, 0, none⟩ 1 1 [.string (bs y)] rfl rfl (cell_one_new _ _ _) (by simp [Value.oneCell']) (by unfold maxLen; omega) (by omega) (by simp; omega) ?_; intro v1 w4 hown1 hgrow1 _; have HO2 := Lib.hid hown1; have HG := Lib.hid hgrow1; clear hown1 hgrow1)
          obtain ⟨k1, k2⟩ := OwnS.pushed (x := y) HO1.out hsz1 (by rw [HM.out]; exact HO2.out) (by rw [HM.out]; exact HG.out)
          obtain ⟨g', cap', rfl⟩ := ownsRow_succ HO2.out
          go_roundw
          case rel => exact ⟨l ++ [y], y, rfl, k1, HN.out, Nat.le_trans hyl hxl, HB1.out.trans k2⟩
          case measure => simp [lenV]; omega
  · have e1 : (q != 0) = true := by simpa using h0
    have HE := Lib.hid (show TrE rs s = (q, []) by rw [TrE, HQ.out, if_neg h0])
    clear h0
    go_enter Try.func27, Try.ntmps27
    go_wp2_with (fail)
    refine H1.out.mono ?_
    rintro e w1 ⟨rfl, q1, rfl⟩
    go_wp2_with (fail)
    go_ret2
    exact tr_ret HE.out (OwnS.nil _ _) (bdrewN _ _)

set_option maxRecDepth 100000 in
set_option maxHeartbeats 2000000 in
theorem normalize24 (a : Option Addr) (n c : Nat) (rs : List Rule) (s : Str) (w : World) (h : Rls w a n rs) (hs : s.length ≤ 4611686018427387903) :
    Calls Try.prog 24 #[.slice a n c, .string (bs s)] w fun e w' => e = .returned (.tuple #[.string (bs (NfE rs s).2), .int .i64 (NfE rs s).1]) ∧ Below w.heap.size w w' := by
  have H1 := Lib.hid (trace26 a n c rs s w h hs)
  have HNE := Lib.hid (fun h => TrE_ne (rs := rs) (s := s) h)
  have HLE := Lib.hid (TrE_len (rs := rs) (s := s))
  have HD := Lib.hid (show NfE rs s = if (TrE rs s).1 = 0 then (0, (TrE rs s).2.getLastD []) else ((TrE rs s).1, []) from rfl)
  clear h
  generalize TrE rs s = p at *
  obtain ⟨q, l⟩ := p
  go_enter Try.func24, Try.ntmps24
  go_wp2_with (fail)
  refine H1.out.mono ?_
  rintro e w1 ⟨v, rfl, ho, hb⟩
  have HO := Lib.hid ho
  have HB := Lib.hid hb
  clear ho hb
  by_cases h0 : q = 0
  · subst h0
    have hne := HNE.out rfl
    have hle := HLE.out
    obtain ⟨m, hm⟩ : ∃ m, l.length = m + 1 := ⟨l.length - 1, by have := List.length_pos_iff.2 hne; omega⟩
    have hx : l[m]? = some (l.getLastD []) := by
      rw [List.getLastD_eq_getLast?, List.getLast?_eq_getElem?, hm, Nat.add_sub_cancel]
      have hlt : m < l.length := by omega
      rw [List.getElem?_eq_getElem hlt]
      rfl
    obtain ⟨b, cc, rfl, hbb, hc⟩ := HO.out.addr (by omega)
    have hcl := hc m _ hx
    have HV := Lib.hid (show NfE rs s = (0, l.getLastD []) from HD.out.trans (if_pos rfl))
    have hm4 : m ≤ 4095 := by omega
    rw [hm]
    generalize l.getLastD [] = x at *
    clear hne hle hm hx hc HNE HLE HD HO
    go_wp2_with (fail)
    go_ret2
    exact ⟨retSp HV.out, HB.out⟩
  · have e1 : (q != 0) = true := by simpa using h0
    have HV := Lib.hid (show NfE rs s = (q, []) from HD.out.trans (if_neg h0))
    clear h0
    go_wp2_with (fail)
    go_ret2
    exact ⟨retSp HV.out, HB.out⟩

set_option maxRecDepth 100000 in
set_option maxHeartbeats 2000000 in
theorem refnormalize25 (a : Option Addr) (n c : Nat) (rs : List Rule) (s : Str) (w : World) (h : Rls w a n rs) (hs : s.length ≤ 4611686018427387903) :
    Calls Try.prog 25 #[.slice a n c, .string (bs s)] w fun e w' => e = .returned (.tuple #[.string (bs (NfE rs s).2), .int .i64 (NfE rs s).1]) ∧ Below w.heap.size w w' := by
  have H1 := Lib.hid (reftrace27 a n c rs s w h hs)
  have HNE := Lib.hid (fun h => TrE_ne (rs := rs) (s := s) h)
  have HLE := Lib.hid (TrE_len (rs := rs) (s := s))
  have HD := Lib.hid (show NfE rs s = if (TrE rs s).1 = 0 then (0, (TrE rs s).2.getLastD []) else ((TrE rs s).1, []) from rfl)
  clear h
  generalize TrE rs s = p at *
  obtain ⟨q, l⟩ := p
  go_enter Try.func25, Try.ntmps25
  go_wp2_with (fail)
  refine H1.out.mono ?_
  rintro e w1 ⟨v, rfl, ho, hb⟩
  have HO := Lib.hid ho
  have HB := Lib.hid hb
  clear ho hb
  by_cases h0 : q = 0
  · subst h0
    have hne := HNE.out rfl
    have hle := HLE.out
    obtain ⟨m, hm⟩ : ∃ m, l.length = m + 1 := ⟨l.length - 1, by have := List.length_pos_iff.2 hne; omega⟩
    have hx : l[m]? = some (l.getLastD []) := by
      rw [List.getLastD_eq_getLast?, List.getLast?_eq_getElem?, hm, Nat.add_sub_cancel]
      have hlt : m < l.length := by omega
      rw [List.getElem?_eq_getElem hlt]
      rfl
    obtain ⟨b, cc, rfl, hbb, hc⟩ := HO.out.addr (by omega)
    have hcl := hc m _ hx
    have HV := Lib.hid (show NfE rs s = (0, l.getLastD []) from HD.out.trans (if_pos rfl))
    have hm4 : m ≤ 4095 := by omega
    rw [hm]
    generalize l.getLastD [] = x at *
    clear hne hle hm hx hc HNE HLE HD HO
    go_wp2_with (fail)
    go_ret2
    exact ⟨retSp HV.out, HB.out⟩
  · have e1 : (q != 0) = true := by simpa using h0
    have HV := Lib.hid (show NfE rs s = (q, []) from HD.out.trans (if_neg h0))
    clear h0
    go_wp2_with (fail)
    go_ret2
    exact ⟨retSp HV.out, HB.out⟩

set_option maxRecDepth 100000 in
set_option maxHeartbeats 2000000 in
theorem step22 (a : Option Addr) (n c : Nat) (rs : List Rule) (s : Str) (w : World) (h : Rls w a n rs) (hs : s.length ≤ 4611686018427387903) :
    Calls Try.prog 22 #[.slice a n c, .string (bs s)] w fun e w' => e = .returned (.tuple #[.string (bs (StE rs s).1), .bool (StE rs s).2.1, .int .i64 (StE rs s).2.2]) ∧ Below w.heap.size w w' := by
  have H1 := Lib.hid (check36 a n c rs s w h hs)
  have HH := Lib.hid h
  clear h
  obtain ⟨q, hq⟩ : ∃ q, chkW rs s = q := ⟨_, rfl⟩
  have HQ := Lib.hid hq
  have H1o := H1.out
  rw [hq] at H1o
  have H1 := Lib.hid H1o
  clear hq H1o
  by_cases h0 : q = 0
  · subst h0
    have HT := Lib.hid (fun W (hb : Below w.heap.size w W) => callsIn_wide.1 (step43 a n c rs s W (HH.out.mono (Nat.le_refl _) hb) hs))
    have HE := Lib.hid (show StE rs s = ((stepL rs s).1, (stepL rs s).2, 0) by rw [StE, if_pos HQ.out])
    generalize stepL rs s = p at *
    obtain ⟨x, is⟩ := p
    go_enter Try.func22, Try.ntmps22
    go_wp2_with (fail)
    refine H1.out.mono ?_
    rintro e w1 ⟨rfl, hb⟩
    have HB := Lib.hid hb
    clear hb
    go_wp2_with (fail)
    refine (HT.out _ HB.out).mono ?_
    rintro e w2 ⟨rfl, hb2⟩
    have HB2 := Lib.hid hb2
    clear hb2
    go_wp2_with (fail)
    go_ret3
    exact ⟨ret3p HE.out, bstep HB.out HB2.out⟩
  · have e1 : (q != 0) = true := by simpa using h0
    have HE := Lib.hid (show StE rs s = ([], false, q) by rw [StE, HQ.out, if_neg h0])
    clear h0
    go_enter Try.func22, Try.ntmps22
    go_wp2_with (fail)
    refine H1.out.mono ?_
    rintro e w1 ⟨rfl, hb⟩
    have HB := Lib.hid hb
    clear hb
    go_wp2_with (fail)
    go_ret3
    exact ⟨ret3p HE.out, HB.out⟩

set_option maxRecDepth 100000 in
set_option maxHeartbeats 2000000 in
theorem refstep23 (a : Option Addr) (n c : Nat) (rs : List Rule) (s : Str) (w : World) (h : Rls w a n rs) (hs : s.length ≤ 4611686018427387903) :
    Calls Try.prog 23 #[.slice a n c, .string (bs s)] w fun e w' => e = .returned (.tuple #[.string (bs (StE rs s).1), .bool (StE rs s).2.1, .int .i64 (StE rs s).2.2]) ∧ Below w.heap.size w w' := by
  have H1 := Lib.hid (refcheck38 a n c rs s w h hs)
  have HH := Lib.hid h
  clear h
  obtain ⟨q, hq⟩ : ∃ q, chkW rs s = q := ⟨_, rfl⟩
  have HQ := Lib.hid hq
  have H1o := H1.out
  rw [hq] at H1o
  have H1 := Lib.hid H1o
  clear hq H1o
  by_cases h0 : q = 0
  · subst h0
    have HT := Lib.hid (fun W (hb : Below w.heap.size w W) => refstep44 a n c rs s W (HH.out.mono (Nat.le_refl _) hb) hs)
    have HE := Lib.hid (show StE rs s = ((stepL rs s).1, (stepL rs s).2, 0) by rw [StE, if_pos HQ.out])
    generalize stepL rs s = p at *
    obtain ⟨x, is⟩ := p
    go_enter Try.func23, Try.ntmps23
    go_wp2_with (fail)
    refine H1.out.mono ?_
    rintro e w1 ⟨rfl, q1, rfl⟩
    go_wp2_with (fail)
    refine (HT.out _ (bdrewN _ _)).mono ?_
    rintro e w2 ⟨rfl, hb2⟩
    have HB2 := Lib.hid hb2
    clear hb2
    go_wp2_with (fail)
    go_ret3
    exact ⟨ret3p HE.out, bstep (bdrewN _ _) HB2.out⟩
  · have e1 : (q != 0) = true := by simpa using h0
    have HE := Lib.hid (show StE rs s = ([], false, q) by rw [StE, HQ.out, if_neg h0])
    clear h0
    go_enter Try.func23, Try.ntmps23
    go_wp2_with (fail)
    refine H1.out.mono ?_
    rintro e w1 ⟨rfl, q1, rfl⟩
    go_wp2_with (fail)
    go_ret3
    exact ⟨ret3p HE.out, (bdrewN _ _)⟩

set_option maxRecDepth 100000 in
set_option maxHeartbeats 2000000 in
theorem refnormal29 (a : Option Addr) (n c : Nat) (rs : List Rule) (s : Str) (w : World) (h : Rls w a n rs) (hs : s.length ≤ 4611686018427387903) :
    Calls Try.prog 29 #[.slice a n c, .string (bs s)] w fun e w' => e = .returned (.tuple #[.bool (NoE rs s).1, .int .i64 (NoE rs s).2]) ∧ Below w.heap.size w w' := by
  have H1 := Lib.hid (refcheck38 a n c rs s w h hs)
  have HH := Lib.hid h
  clear h
  obtain ⟨q, hq⟩ : ∃ q, chkW rs s = q := ⟨_, rfl⟩
  have HQ := Lib.hid hq
  have H1o := H1.out
  rw [hq] at H1o
  have H1 := Lib.hid H1o
  clear hq H1o
  by_cases h0 : q = 0
  · subst h0
    have HT := Lib.hid (fun W (hb : Below w.heap.size w W) => refstep44 a n c rs s W (HH.out.mono (Nat.le_refl _) hb) hs)
    have HE := Lib.hid (show NoE rs s = (!(stepL rs s).2, 0) by rw [NoE, if_pos HQ.out])
    generalize stepL rs s = p at *
    obtain ⟨x, is⟩ := p
    go_enter Try.func29, Try.ntmps29
    go_wp2_with (fail)
    refine H1.out.mono ?_
    rintro e w1 ⟨rfl, q1, rfl⟩
    go_wp2_with (fail)
    refine (HT.out _ (bdrewN _ _)).mono ?_
    rintro e w2 ⟨rfl, hb2⟩
    have HB2 := Lib.hid hb2
    clear hb2
    go_wp2_with (fail)
    go_ret2
    exact ⟨retBp HE.out, bstep (bdrewN _ _) HB2.out⟩
  · have e1 : (q != 0) = true := by simpa using h0
    have HE := Lib.hid (show NoE rs s = (false, q) by rw [NoE, HQ.out, if_neg h0])
    clear h0
    go_enter Try.func29, Try.ntmps29
    go_wp2_with (fail)
    refine H1.out.mono ?_
    rintro e w1 ⟨rfl, q1, rfl⟩
    go_wp2_with (fail)
    go_ret2
    exact ⟨retBp HE.out, (bdrewN _ _)⟩

set_option maxRecDepth 100000 in
set_option maxHeartbeats 2000000 in
theorem normal28 (a : Option Addr) (n c : Nat) (rs : List Rule) (s : Str) (w : World) (h : Rls w a n rs) (hs : s.length ≤ 4611686018427387903) :
    Calls Try.prog 28 #[.slice a n c, .string (bs s)] w fun e w' => e = .returned (.tuple #[.bool (NoE rs s).1, .int .i64 (NoE rs s).2]) ∧ Below w.heap.size w w' := by
  have H1 := Lib.hid (step22 a n c rs s w h hs)
  clear h
  have HD := Lib.hid (show NoE rs s = (decide ((StE rs s).2.2 = 0) && !(StE rs s).2.1, (StE rs s).2.2) by
    unfold NoE StE
    by_cases h : chkW rs s = 0
    · simp [h]
    · simp [h])
  generalize StE rs s = p at *
  obtain ⟨x, is, q⟩ := p
  go_enter Try.func28, Try.ntmps28
  go_wp2_with (fail)
  refine H1.out.mono ?_
  rintro e w1 ⟨rfl, hb⟩
  have HB := Lib.hid hb
  clear hb
  by_cases h0 : q = 0
  · subst h0
    have HE := Lib.hid (show NoE rs s = (!is, 0) by rw [HD.out]; simp)
    clear HD H1
    go_wp2_with (fail)
    go_ret2
    exact ⟨retBp HE.out, HB.out⟩
  · have e1 : (q == 0) = false := by simpa using h0
    have HE := Lib.hid (show NoE rs s = (false, q) by rw [HD.out]; simp [h0])
    clear HD H1 h0
    go_wp2_with (fail)
    go_ret2
    exact ⟨retBp HE.out, HB.out⟩

end Go.Proofs.Ytamdonlncfmmmaa
