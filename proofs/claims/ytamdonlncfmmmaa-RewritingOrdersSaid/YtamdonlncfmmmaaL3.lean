/-
  RewritingOrders.
-/
import Derived.Test.YtamdonlncfmmmaaW27
import Derived.Test.YtamdonlncfmmmaaPForm
namespace Go.Proofs.Ytamdonlncfmmmaa
open Go.RowKit Go.Ap Go.Shelf Go.Proofs

attribute [local go_sem] Oper.semAt_some bs_toList empty_toList bs_size ext_drop ext_take bs_append

theorem AllE_len (rs : List Rule) (s : Str) : (AllE rs s).2.length ≤ 4611686018427387903 := by
  unfold AllE
  split
  · have := allE_len rs s; omega
  · simp
theorem CrE_len (rs : List Rule) : ((CrE rs).2.map tripS).length ≤ 4611686018427387903 := by
  rw [List.length_map]
  unfold CrE
  split
  · split
    · simp only; omega
    · simp
  · simp
theorem trip_len {l : List Trip} : ∀ xs ∈ l.map tripS, xs.length ≤ 4611686018427387903 := fun xs hx => by
  obtain ⟨z, _, rfl⟩ := List.mem_map.1 hx
  simp [tripS]
set_option maxRecDepth 100000 in
set_option maxHeartbeats 2000000 in
theorem law3 (a : Option Addr) (n c : Nat) (rs : List Rule) (s : Str) (w : World) (h : Rls w a n rs) (hs : s.length ≤ 4611686018427387903) :
    Calls Try.prog 3 #[.slice a n c, .string (bs s)] w fun e w' => e = .returned (.bool true) ∧ Below w.heap.size w w' := by
  have HX := fun W (hb : Below w.heap.size w W) => h.mono (Nat.le_refl _) hb
  have H11 := Lib.hid (great11 a n c rs w h)
  have H12 := Lib.hid (long12 s 10 w hs)
  have H13 := Lib.hid awake13
  have H14 := Lib.hid (fun W hb => all14 a n c rs s W (HX W hb) hs)
  have H15 := Lib.hid (fun W hb => refall15 a n c rs s W (HX W hb) hs)
  have H16 := Lib.hid (fun W hb => callsIn_wide.1 (critical16 a n c rs W (HX W hb)))
  have H17 := Lib.hid (fun W hb => refcritical17 a n c rs W (HX W hb))
  have H18 := Lib.hid (fun W hb => confluent18 a n c rs W (HX W hb))
  have H19 := Lib.hid (fun W hb => refconfluent19 a n c rs W (HX W hb))
  have HAL := Lib.hid (AllE_len rs s)
  have HCL := Lib.hid (CrE_len rs)
  have HTL := Lib.hid (trip_len (l := (CrE rs).2))
  generalize greatB rs = g at *
  generalize longB s 10 = l at *
  generalize AllE rs s = al at *
  generalize CrE rs = cr at *
  generalize CoE rs = co at *
  generalize (List.map tripS cr.2) = CL at *
  clear HX h
  cases g
  · cases l
    · go_enter Try.func3, Try.ntmps3
      go_wp2_with (fail)
      refine H11.out.mono ?_
      rintro e w' ⟨rfl, rfl⟩
      go_wp2_with (fail)
      refine H12.out.mono ?_
      rintro e w' ⟨rfl, rfl⟩
      go_wp2_with (fail)
      refine (H14.out _ (Below.refl _ _)).mono ?_
      rintro e w1 ⟨v1, rfl, ho, hb⟩
      obtain ⟨a1, c1, rfl, hv⟩ := ho.strs HAL.out
      have B1 := Lib.hid hb
      have V1 := Lib.hid hv
      clear hb hv ho
      go_wp2_with (fail)
      refine (H15.out _ B1.out).mono ?_
      rintro e w2 ⟨v2, rfl, ho, hb⟩
      obtain ⟨a2, c2, rfl, hv⟩ := ho.strs HAL.out
      have B2 := Lib.hid (bstep B1.out hb)
      have V2 := Lib.hid (And.intro (V1.out.mono (Nat.le_refl _) hb) hv)
      clear hb hv ho B1 V1
      go_wp2_with (fail)
      refine (H16.out _ B2.out).mono ?_
      rintro e w3 ⟨v3, rfl, ho, hb⟩
      obtain ⟨a3, c3, rfl, hv⟩ := OwnSS.strsLL ho HCL.out HTL.out
      have B3 := Lib.hid (bstep B2.out hb)
      have V3 := Lib.hid (And.intro (V2.out.1.mono (Nat.le_refl _) hb) (And.intro (V2.out.2.mono (Nat.le_refl _) hb) hv))
      clear hb hv ho B2 V2
      go_wp2_with (fail)
      refine (H17.out _ B3.out).mono ?_
      rintro e w4 ⟨v4, rfl, ho, hb⟩
      obtain ⟨a4, c4, rfl, hv⟩ := OwnSS.strsLL ho HCL.out HTL.out
      have B4 := Lib.hid (bstep B3.out hb)
      have V4 := Lib.hid (And.intro (V3.out.1.mono (Nat.le_refl _) hb) (And.intro (V3.out.2.1.mono (Nat.le_refl _) hb) (And.intro (StrsLL.mono_all V3.out.2.2 (Nat.le_refl _) hb) hv)))
      clear hb hv ho B3 V3
      go_wp2_with (fail)
      refine (H18.out _ B4.out).mono ?_
      rintro e w5 ⟨rfl, hb⟩
      have B5 := Lib.hid (bstep B4.out hb)
      have V5 := Lib.hid (And.intro (V4.out.1.mono (Nat.le_refl _) hb) (And.intro (V4.out.2.1.mono (Nat.le_refl _) hb) (And.intro (StrsLL.mono_all V4.out.2.2.1 (Nat.le_refl _) hb) (StrsLL.mono_all V4.out.2.2.2 (Nat.le_refl _) hb))))
      clear hb B4 V4
      go_wp2_with (fail)
      refine (H19.out _ B5.out).mono ?_
      rintro e w6 ⟨rfl, hb⟩
      have B6 := Lib.hid (bstep B5.out hb)
      have E1 := Lib.hid (equal20 a1 a2 c1 c2 _ _ _ _ w6 (V5.out.1.mono (Nat.le_refl _) hb) (V5.out.2.1.mono (Nat.le_refl _) hb))
      have V6 := Lib.hid (And.intro (StrsLL.mono_all V5.out.2.2.1 (Nat.le_refl _) hb) (StrsLL.mono_all V5.out.2.2.2 (Nat.le_refl _) hb))
      clear hb B5 V5
      go_wp2_with (fail)
      refine E1.out.mono ?_
      rintro e w7 ⟨rfl, q, hq⟩
      have hb : Below w6.heap.size w6 w7 := by rw [hq]; exact bdrewN _ _
      have B7 := Lib.hid (bstep B6.out hb)
      have E2 := Lib.hid (samelists21 a3 a4 c3 c4 _ _ _ _ w7 (StrsLL.mono_all V6.out.1 (Nat.le_refl _) hb) (StrsLL.mono_all V6.out.2 (Nat.le_refl _) hb))
      clear hq hb B6 V6 E1
      go_wp2_with (fail)
      refine E2.out.mono ?_
      rintro e w8 ⟨rfl, q, hq⟩
      have hb : Below w7.heap.size w7 w8 := by rw [hq]; exact bdrewN _ _
      have B8 := Lib.hid (bstep B7.out hb)
      clear hq hb B7 E2
      go_wp2_with (fail)
      refine (H13.out w8).mono ?_
      rintro e w12 ⟨rfl, hb⟩
      have B12 := Lib.hid (bstep B8.out hb)
      clear hb
      go_wp2_with (fail)
      go_ret
      exact ⟨rfl, B12.out⟩
    · go_enter Try.func3, Try.ntmps3
      go_wp2_with (fail)
      refine H11.out.mono ?_
      rintro e w' ⟨rfl, rfl⟩
      go_wp2_with (fail)
      refine H12.out.mono ?_
      rintro e w' ⟨rfl, rfl⟩
      go_wp2_with (fail)
      refine (H13.out _).mono ?_
      rintro e w12 ⟨rfl, hb⟩
      go_wp2_with (fail)
      go_ret
      exact ⟨rfl, hb⟩
  · go_enter Try.func3, Try.ntmps3
    go_wp2_with (fail)
    refine H11.out.mono ?_
    rintro e w' ⟨rfl, rfl⟩
    go_wp2_with (fail)
    refine (H13.out _).mono ?_
    rintro e w12 ⟨rfl, hb⟩
    go_wp2_with (fail)
    go_ret
    exact ⟨rfl, hb⟩
end Go.Proofs.Ytamdonlncfmmmaa
