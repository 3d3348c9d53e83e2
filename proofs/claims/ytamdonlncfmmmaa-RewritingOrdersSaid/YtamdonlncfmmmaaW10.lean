/-
  trace, Trace and the reference's Trace.
-/
import Derived.Test.YtamdonlncfmmmaaW9
import Derived.Test.YtamdonlncfmmmaaOwnS
namespace Go.Proofs.Ytamdonlncfmmmaa
open Go.RowKit Go.Ap Go.Shelf Go.Proofs

attribute [local go_sem] Oper.semAt_some bs_toList empty_toList bs_size ext_drop ext_take bs_append

theorem info9 : (Try.prog.info? 9).map (fun i => (i.zero, i.size, i.bytes)) = some (some (.string { data := #[] }), 1, 16) := by kernel_rfl
def lenV : Value → Nat
  | .slice _ n _ => n
  | _ => 0
theorem tr_ret {v : Value} {p : Int × List Str} {er : Int} {l : List Str} {w w' : World} (h : p = (er, l)) (ho : OwnS w' w.heap.size v l) (hb : Below w.heap.size w w') : GivesS w p.1 p.2 (.returned (.tuple #[v, .int .i64 er])) w' := by
  rw [h]; exact ⟨v, rfl, ho, hb⟩

set_option maxRecDepth 100000 in
set_option maxHeartbeats 2000000 in
theorem trace45 (a : Option Addr) (n c : Nat) (rs : List Rule) (s : Str) (w : World) (h : Rls w a n rs) (hv : Val rs) (hs : s.length ≤ 4611686018427387903) :
    Calls Try.prog 45 #[.slice a n c, .string (bs s)] w (GivesS w (traceE rs s).1 (traceE rs s).2) := by
  obtain ⟨i0, hi, hz0, hz1, hz2⟩ := info_parts info9
  have HH := Lib.hid h
  have HV := Lib.hid hv
  clear h hv
  go_enter Try.func45, Try.ntmps45
  go_wp2_with (fail)
  go_loopw [6] (fun ov wr => ∃ (l : List Str) (x : Str), OwnS wr w.heap.size ov l ∧ AtT rs s l x ∧ x.length ≤ s.length ∧ Below w.heap.size w wr) (fun ov _ => 4096 - lenV ov)
  case atStart => exact ⟨[s], s, OwnS.one w (Nat.le_refl _) s, AtT.start, Nat.le_refl _, balloc _ _⟩
  case round =>
    obtain ⟨l, x, ho, hat, hxl, hb⟩ := hrel
    obtain ⟨q1, q2, q3⟩ := hat.len
    obtain ⟨m, hm⟩ : ∃ m, l.length = m + 1 := ⟨l.length - 1, by omega⟩
    have hsz := hb.size
    have HO := Lib.hid ho
    obtain ⟨b, cc, rfl, hbb, hc⟩ := ho.addr (by omega)
    have hcl : wr.cell? ⟨b, m, none⟩ = some (.string (bs x)) := hc m x (by rw [← q3, hm]; rfl)
    have HAT := Lib.hid hat
    have HB := Lib.hid hb
    have HM := Lib.hid hm
    have HST := Lib.hid (callsIn_wide.1 (step43 a n c rs x wr (HH.out.mono (Nat.le_refl _) hb) (by omega)))
    have hyl := stepL_len (rs := rs) (s := x) HV.out
    have hm4 : m ≤ 4095 := by omega
    rw [hm]
    clear ho hat hb hc q3 q1 q2 hm
    go_wp2_with (fail)
    refine HST.out.mono ?_
    rintro e w1 ⟨rfl, hb1⟩
    have HB1 := Lib.hid (bstep HB.out hb1)
    have HO1 := Lib.hid (HO.out.below hb1)
    have hsz1 := Nat.le_trans hsz hb1.size
    obtain ⟨⟨y, is⟩, hy⟩ : ∃ p, stepL rs x = p := ⟨_, rfl⟩
    rw [hy] at hyl ⊢
    have HY := Lib.hid hy
    clear hb1 hy HST
    cases is
    · have HD := Lib.hid (HAT.out.done HY.out)
      go_wp2_with (fail)
      go_ret2
      exact tr_ret HD.out (by have := HO1.out; rwa [HM.out] at this) HB1.out
    · by_cases h4 : m = 4095
      · have HD := Lib.hid (HAT.out.full HY.out (by rw [HM.out, h4]))
        have e4 : ((m : Int) + 1 == 4096) = true := by rw [beq_iff_eq]; omega
        clear h4
        go_wp2_with (fail)
        go_ret2
        exact tr_ret HD.out (OwnS.nil _ _) HB1.out
      · have HN := Lib.hid (HAT.out.next HY.out (by rw [HM.out]; omega))
        have hlt : m < 4095 := by omega
        have e4 : ((m : Int) + 1 == 4096) = false := by rw [beq_eq_false_iff_ne]; omega
        have HOX := HO1.out
        rw [HM.out] at HOX
        have hown0 : w1.ownsRow w.heap.size 9 1 (.slice (some ⟨b, 0, none⟩) (m + 1) cc) (m + 1) (l.map sv) := by have := HO1.out; unfold OwnS at this; rwa [HM.out] at this
        have HOW := Lib.hid hown0
        clear h4 HOX hown0
        go_wp2_with (at_builtin; refine wpList_append_own _ rfl _ _ 26 rfl w.heap.size 9 i0 (.string { data := #[] }) 1 16 Try.underlying26 hi hz0 hz1 hz2 rfl (by decide) _ _ _ rfl (HOW.out.alloc _) ⟨w1.heap.size, 0, none⟩ 1 1 [.string (bs y)] rfl rfl (cell_one_new _ _ _) (by simp [Value.oneCell']) (by unfold maxLen; omega) (by omega) (by simp; omega) ?_; intro v1 w4 hown1 hgrow1 _; have HO2 := Lib.hid hown1; have HG := Lib.hid hgrow1; clear hown1 hgrow1)
        obtain ⟨k1, k2⟩ := OwnS.pushed (x := y) HO1.out hsz1 (by rw [HM.out]; exact HO2.out) (by rw [HM.out]; exact HG.out)
        obtain ⟨g', cap', rfl⟩ := ownsRow_succ HO2.out
        go_roundw
        case rel => exact ⟨l ++ [y], y, k1, HN.out, Nat.le_trans hyl hxl, HB1.out.trans k2⟩
        case measure => simp [lenV]; omega

end Go.Proofs.Ytamdonlncfmmmaa
