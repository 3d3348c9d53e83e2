/-
  RewritingForms.
-/
import Derived.Test.YtamdonlncfmmmaaL5
import Derived.Shelf.SlCmpFuncs.IsSortedFunc
namespace Go.Proofs.Ytamdonlncfmmmaa
open Go.RowKit Go.Ap Go.Shelf Go.Proofs

attribute [local go_sem] Oper.semAt_some bs_toList empty_toList bs_size ext_drop ext_take bs_append
attribute [local go_sem high] run_max3 run_max4

theorem contains34 (a : Option Addr) (n c : Nat) (xs : List Str) (x : Str) (w : World) (h : StrsL w a n xs) (hx : x ∈ xs) : Calls Try.prog 34 #[.slice a n c, .string (bs x)] w fun e w' => e = .returned (.bool true) ∧ w' = w := by
  have hl := h.len
  have hs := h.small
  have hn : 0 < n := by rw [← hl]; exact List.length_pos_of_mem hx
  obtain ⟨b, off, rfl, hc⟩ := h.at hn
  refine (Try.slices_Contains_string b off n c (xs.map bs) (bs x) w (by simp [hl]) (by omega) (fun j hj => ?_)).mono fun e w' ⟨he, hw⟩ => ⟨?_, hw⟩
  · have hj' : j < xs.length := by simpa using hj
    rw [hc j xs[j] (List.getElem?_eq_getElem hj')]
    simp [List.getD, hj']
  · rw [he, List.take_of_length_le (by simp [hl]), (Lib.containsS_iff _ _).2 (List.mem_map.2 ⟨x, hx, rfl⟩)]
theorem sorted35 (a : Option Addr) (n c : Nat) (xs : List Str) (w : World) (h : StrsL w a n xs) (hp : xs.Pairwise (· ≤ ·)) (hm : n ≤ 4096) : Calls Try.prog 35 #[.slice a n c] w fun e w' => e = .returned (.bool true) ∧ ∃ q, w' = w.drewN q := by
  have hl := h.len
  rcases Nat.eq_zero_or_pos n with h0 | h0
  · subst h0
    exact (AnyO.slices_IsSorted_string_none Try.issorted35 a c w).mono fun e w' ⟨he, hw⟩ => ⟨he, 0, hw⟩
  · obtain ⟨b, off, rfl, hc⟩ := h.at h0
    have hz : ((xs.map bs).toArray).size = n := by simp [hl]
    have hg : ∀ i (hi : i < xs.length), (xs.map bs).toArray[i]! = bs xs[i] := fun i hi => by simp [hi]
    have := AnyO.slices_IsSorted_string Try.issorted35 b off c (xs.map bs).toArray w (fun i hi => by
      have hi' : i < xs.length := by simpa using hi
      rw [hc i xs[i] (List.getElem?_eq_getElem hi'), hg i hi']) (by rw [hz]; omega)
    rw [hz] at this
    refine this.mono fun e w' ⟨he, hw⟩ => ⟨?_, hw⟩
    rw [he]
    refine ret_b ((Lib.downOK_iff _ _ _).2 fun i hi => ?_)
    have h1 : i < xs.length := by omega
    have h2 : i + 1 < xs.length := by omega
    rw [hg i h1, hg (i + 1) h2]
    have h3 := (List.pairwise_iff_getElem.1 hp) i (i + 1) h1 h2 (by omega)
    rw [decide_eq_false_iff_not]
    exact List.not_lt.2 h3
set_option maxRecDepth 100000 in
set_option maxHeartbeats 2000000 in
theorem law10 (a : Option Addr) (n c : Nat) (rs : List Rule) (s : Str) (w : World) (h : Rls w a n rs) (hs : s.length ≤ 4611686018427387903) :
    Calls Try.prog 10 #[.slice a n c, .string (bs s)] w fun e w' => e = .returned (.bool true) ∧ Below w.heap.size w w' := by
  have B0 := Lib.hid ((Below.refl _ w).alloc (Nat.le_refl _) (.cells #[.string (bs s)] 9))
  have HX := fun W (hb : Below w.heap.size w W) => h.mono (Nat.le_refl _) hb
  have H32 := Lib.hid (fine32 a (some ⟨w.heap.size, 0, none⟩) n 1 c 1 rs [s] _ (HX _ B0.out) (StrsL.lit1 w s) (by intro u hu; simp at hu; subst hu; exact hs))
  have H13 := Lib.hid awake13
  cases hf : fineB rs [s]
  · rw [hf] at H32
    clear hf HX h
    go_enter Try.func10, Try.ntmps10
    go_wp2_with (fail)
    refine H32.out.mono ?_
    rintro e w1 ⟨rfl, hb⟩
    have B1 := Lib.hid (B0.out.trans (hb.mono (by simp)))
    clear hb
    go_wp2_with (fail)
    refine (H13.out _).mono ?_
    rintro e w2 ⟨rfl, hb⟩
    go_wp2_with (fail)
    go_ret
    exact ⟨rfl, bstep B1.out hb⟩
  · rw [hf] at H32
    rcases forms_law hf with e4 | ⟨x, e1, lx, e2, e3, hall⟩
    · have HN := Lib.hid (fun W hb => e4 ▸ normalize24 a n c rs s W (HX W hb) hs)
      clear hf e4 HX h hs
      go_enter Try.func10, Try.ntmps10
      go_wp2_with (fail)
      refine H32.out.mono ?_
      rintro e w1 ⟨rfl, hb⟩
      have B1 := Lib.hid (B0.out.trans (hb.mono (by simp)))
      clear hb
      go_wp2_with (fail)
      refine (HN.out _ B1.out).mono ?_
      rintro e w2 ⟨rfl, hb⟩
      have B2 := Lib.hid (bstep B1.out hb)
      clear hb B1
      go_wp2_with (fail)
      refine (H13.out _).mono ?_
      rintro e w6 ⟨rfl, hb⟩
      go_wp2_with (fail)
      go_ret
      exact ⟨rfl, bstep B2.out hb⟩
    · have HN := Lib.hid (fun W hb => e1 ▸ normalize24 a n c rs s W (HX W hb) hs)
      have HO := Lib.hid (fun W hb => e2 ▸ normal28 a n c rs x W (HX W hb) (by omega))
      have HM := Lib.hid (fun W hb => e3 ▸ normalize24 a n c rs x W (HX W hb) (by omega))
      have HA := Lib.hid (fun W hb => all14 a n c rs s W (HX W hb) hs)
      have HB := Lib.hid hall
      clear hf e1 e2 e3 lx HX h hs hall
      go_enter Try.func10, Try.ntmps10
      go_wp2_with (fail)
      refine H32.out.mono ?_
      rintro e w1 ⟨rfl, hb⟩
      have B1 := Lib.hid (B0.out.trans (hb.mono (by simp)))
      clear hb
      go_wp2_with (fail)
      refine (HN.out _ B1.out).mono ?_
      rintro e w2 ⟨rfl, hb⟩
      have B2 := Lib.hid (bstep B1.out hb)
      clear hb B1
      go_wp2_with (fail)
      refine (HO.out _ B2.out).mono ?_
      rintro e w3 ⟨rfl, hb⟩
      have B3 := Lib.hid (bstep B2.out hb)
      clear hb B2
      go_wp2_with (fail)
      refine (HM.out _ B3.out).mono ?_
      rintro e w4 ⟨rfl, hb⟩
      have B4 := Lib.hid (bstep B3.out hb)
      clear hb B3
      rcases HB.out with e4 | ⟨l, el, hxl, hp, hll⟩
      · have HA2 := Lib.hid (e4 ▸ HA.out w4 B4.out)
        clear HA HB e4
        go_wp2_with (fail)
        refine HA2.out.mono ?_
        rintro e w5 ⟨v, rfl, _, hb⟩
        have B5 := Lib.hid (bstep B4.out hb)
        clear hb
        go_wp2_with (fail)
        refine (H13.out _).mono ?_
        rintro e w6 ⟨rfl, hb⟩
        go_wp2_with (fail)
        go_ret
        exact ⟨rfl, bstep B5.out hb⟩
      · have HA2 := Lib.hid (el ▸ HA.out w4 B4.out)
        have HXL := Lib.hid hxl
        have HP := Lib.hid hp
        have HL := Lib.hid hll
        clear HA HB el hxl hp hll
        go_wp2_with (fail)
        refine HA2.out.mono ?_
        rintro e w5 ⟨v, rfl, ho, hb⟩
        have B5 := Lib.hid (bstep B4.out hb)
        obtain ⟨av, cv, rfl, hv⟩ := ho.strs (Nat.le_trans HL.out (by omega))
        have HV := Lib.hid hv
        clear hb ho hv HA2
        go_wp2_with (fail)
        refine (contains34 av _ cv l x w5 HV.out HXL.out).mono ?_
        rintro e w' ⟨rfl, rfl⟩
        go_wp2_with (fail)
        refine (sorted35 av _ cv l _ HV.out HP.out HL.out).mono ?_
        rintro e w6 ⟨rfl, q, hq⟩
        have hb6 : Below w'.heap.size w' w6 := by rw [hq]; exact bdrewN _ _
        have B6 := Lib.hid (bstep B5.out hb6)
        clear hq hb6
        go_wp2_with (fail)
        refine (H13.out _).mono ?_
        rintro e w6 ⟨rfl, hb⟩
        go_wp2_with (fail)
        go_ret
        exact ⟨rfl, bstep B6.out hb⟩
end Go.Proofs.Ytamdonlncfmmmaa
