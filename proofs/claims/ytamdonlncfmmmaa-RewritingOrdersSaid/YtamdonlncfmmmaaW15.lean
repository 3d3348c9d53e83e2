/-
  All, and the reference's All.
-/
import Derived.Test.YtamdonlncfmmmaaW12
import Derived.Test.YtamdonlncfmmmaaW14
namespace Go.Proofs.Ytamdonlncfmmmaa
open Go.RowKit Go.Ap Go.Shelf Go.Proofs

attribute [local go_sem] Oper.semAt_some bs_toList empty_toList bs_size ext_drop ext_take bs_append
theorem chkR_len {rs : List Rule} (h : chkR rs = 0) : rs.length ≤ 64 := by
  unfold chkR at h
  split at h
  · cases h
  · omega
theorem nr_all (rs : List Rule) (s : Str) : ((nrE rs s).1 = false → allE rs s = (4, [])) ∧ ((nrE rs s).1 = true → allE rs s = (0, (nrE rs s).2)) := by
  unfold nrE allE
  cases normalsL rs s <;> simp

set_option maxRecDepth 100000 in
set_option maxHeartbeats 2000000 in
theorem all14 (a : Option Addr) (n c : Nat) (rs : List Rule) (s : Str) (w : World) (h : Rls w a n rs) (hs : s.length ≤ 4611686018427387903) :
    Calls Try.prog 14 #[.slice a n c, .string (bs s)] w (GivesS w (AllE rs s).1 (AllE rs s).2) := by
  have H1 := Lib.hid (check36 a n c rs s w h hs)
  have HH := Lib.hid h
  have HL := Lib.hid h.len
  clear h
  obtain ⟨q, hq⟩ : ∃ q, chkW rs s = q := ⟨_, rfl⟩
  have HQ := Lib.hid hq
  have H1o := H1.out
  rw [hq] at H1o
  have H1 := Lib.hid H1o
  clear hq H1o
  by_cases h0 : q = 0
  · subst h0
    have hc := chkW_ok HQ.out
    have hn : n ≤ 64 := by rw [← HL.out]; exact chkR_len hc.1
    have HT := Lib.hid (fun W (hb : Below w.heap.size w W) => callsIn_wide.1 (all37 a n c rs s W (HH.out.mono (Nat.le_refl _) hb) (val_of hc.1) hs))
    have HE := Lib.hid (show AllE rs s = allE rs s by rw [AllE, if_pos HQ.out])
    clear hc
    go_enter Try.func14, Try.ntmps14
    go_wp2_with (fail)
    refine H1.out.mono ?_
    rintro e w1 ⟨rfl, hb⟩
    have HB := Lib.hid hb
    clear hb
    go_wp2_with (fail)
    refine (HT.out _ HB.out).mono ?_
    rintro e w2 ⟨v, rfl, ho, hb2⟩
    have HO := Lib.hid ho
    have HB2 := Lib.hid hb2
    clear ho hb2
    go_wp2_with (fail)
    go_ret2
    exact ⟨v, by rw [HE.out]; rfl, by rw [HE.out]; exact HO.out.mono HB.out.size, bstep HB.out HB2.out⟩
  · have e1 : (q != 0) = true := by simpa using h0
    have HE := Lib.hid (show AllE rs s = (q, []) by rw [AllE, HQ.out, if_neg h0])
    clear h0
    go_enter Try.func14, Try.ntmps14
    go_wp2_with (fail)
    refine H1.out.mono ?_
    rintro e w1 ⟨rfl, hb⟩
    have HB := Lib.hid hb
    clear hb
    go_wp2_with (fail)
    go_ret2
    exact tr_ret HE.out (OwnS.nil _ _) HB.out

set_option maxRecDepth 100000 in
set_option maxHeartbeats 2000000 in
theorem refall15 (a : Option Addr) (n c : Nat) (rs : List Rule) (s : Str) (w : World) (h : Rls w a n rs) (hs : s.length ≤ 4611686018427387903) :
    Calls Try.prog 15 #[.slice a n c, .string (bs s)] w (GivesS w (AllE rs s).1 (AllE rs s).2) := by
  have H1 := Lib.hid (refcheck38 a n c rs s w h hs)
  have HH := Lib.hid h
  have HL := Lib.hid h.len
  clear h
  obtain ⟨q, hq⟩ : ∃ q, chkW rs s = q := ⟨_, rfl⟩
  have HQ := Lib.hid hq
  have H1o := H1.out
  rw [hq] at H1o
  have H1 := Lib.hid H1o
  clear hq H1o
  by_cases h0 : q = 0
  · subst h0
    have hc := chkW_ok HQ.out
    have hn : n ≤ 64 := by rw [← HL.out]; exact chkR_len hc.1
    have HT := Lib.hid (fun W (hb : Below w.heap.size w W) => normals39 a n c rs s W (HH.out.mono (Nat.le_refl _) hb) (val_of hc.1) (by omega) hn)
    have HE := Lib.hid (show AllE rs s = allE rs s by rw [AllE, if_pos HQ.out])
    clear hc
    go_enter Try.func15, Try.ntmps15
    go_wp2_with (fail)
    refine H1.out.mono ?_
    rintro e w1 ⟨rfl, q1, rfl⟩
    go_wp2_with (fail)
    refine (HT.out _ (bdrewN _ _)).mono ?_
    rintro e w2 ⟨v, rfl, ho, hb2⟩
    have HO := Lib.hid ho
    have HB2 := Lib.hid hb2
    clear ho hb2
    have HNR := Lib.hid (nr_all rs s)
    generalize nrE rs s = p at *
    obtain ⟨ok, l⟩ := p
    cases ok
    · have HE2 := Lib.hid (HE.out.trans (HNR.out.1 rfl))
      go_wp2_with (fail)
      go_ret2
      exact tr_ret HE2.out (OwnS.nil _ _) (bstep (bdrewN _ _) HB2.out)
    · have HE2 := Lib.hid (HE.out.trans (HNR.out.2 rfl))
      go_wp2_with (fail)
      go_ret2
      exact tr_ret HE2.out (HO.out.mono (Nat.le_refl _)) (bstep (bdrewN _ _) HB2.out)
  · have e1 : (q != 0) = true := by simpa using h0
    have HE := Lib.hid (show AllE rs s = (q, []) by rw [AllE, HQ.out, if_neg h0])
    clear h0
    go_enter Try.func15, Try.ntmps15
    go_wp2_with (fail)
    refine H1.out.mono ?_
    rintro e w1 ⟨rfl, q1, rfl⟩
    go_wp2_with (fail)
    go_ret2
    exact tr_ret HE.out (OwnS.nil _ _) (bdrewN _ _)

end Go.Proofs.Ytamdonlncfmmmaa
