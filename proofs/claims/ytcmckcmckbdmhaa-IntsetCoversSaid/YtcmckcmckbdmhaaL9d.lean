import Derived.Test.YtcmckcmckbdmhaaL9c
namespace Go.Proofs.Ytcmckcmckbdmhaa
open Go.RowKit Go.Ap Go.Shelf

theorem law9_far (a b : Option Addr) (n m c d : Nat) (z : Int) (w : World) (hm : 7 < m) (hs : m ≤ 4611686018427387903) :
    Calls Try.prog 9 #[.slice a n c, .slice b m d, .int .u8 z] w fun e w' => e = .returned (.bool true) ∧ Below w.heap.size w w' := by
  have d7 : decide (7 < m) = true := by simpa using hm
  have hba := (balloc w (.cells #[.slice a n c] 22)).trans ((balloc (w.alloc (.cells #[.slice a n c] 22)) (.cells #[.slice b m d] 34)).mono (by simp))
  have HBA := Lib.hid hba
  clear hba
  go_enter Try.func9, Try.ntmps9
  go_wp2_with (fail)
  refine (awake12 _).mono ?_
  rintro e w8 ⟨rfl, k8⟩
  go_wp2_with (fail)
  go_ret
  exact ⟨rfl, bstep HBA.out k8⟩

set_option maxRecDepth 100000 in
set_option maxHeartbeats 4000000 in
theorem law9 (a b : Option Addr) (n m c d : Nat) (t : List Int) (xss : List (List Int)) (z : Int) (w : World) (ht : Ints w a n t) (hx : Rows2 w b m xss) (hz : 0 ≤ z ∧ z ≤ 255) :
    Calls Try.prog 9 #[.slice a n c, .slice b m d, .int .u8 z] w fun e w' => e = .returned (.bool true) ∧ Below w.heap.size w w' := by
  by_cases hm : 7 < m
  · exact law9_far a b n m c d z w hm hx.small
  · have hm7 : m ≤ 7 := by omega
    cases hg : greatL xss
    · cases h1 : bad1 t
      · cases h2 : xss.any bad1
        · cases ho : coverO t xss with
          | none => exact law9_none a b n m c d t xss z w ht hx hz hm7 hg h1 h2 ho
          | some l => exact law9_some a b n m c d t xss z w ht hx hz hm7 hg h1 h2 l ho
        · have HT := Lib.hid ht
          have HX := Lib.hid hx
          have HG := Lib.hid hg
          have HB1 := Lib.hid h1
          have HB2 := Lib.hid h2
          have d7 : decide (7 < (m : Int)) = false := by simp; omega
          clear ht hx hg h1 h2
          have hba := (balloc w (.cells #[.slice a n c] 22)).trans ((balloc (w.alloc (.cells #[.slice a n c] 22)) (.cells #[.slice b m d] 34)).mono (by simp))
          have k1 : ((w.alloc (.cells #[.slice a n c] 22)).alloc (.cells #[.slice b m d] 34)).cell? ⟨w.heap.size, 0, none⟩ = some (.slice a n c) := ((balloc (w.alloc (.cells #[.slice a n c] 22)) (.cells #[.slice b m d] 34)).cell (p := ⟨w.heap.size, 0, none⟩) (by simp)).trans (cell_fresh rfl rfl)
          have k2 : ((w.alloc (.cells #[.slice a n c] 22)).alloc (.cells #[.slice b m d] 34)).cell? ⟨w.heap.size + 1, 0, none⟩ = some (.slice b m d) := cell_fresh (by simp) rfl
          have K1 := Lib.hid k1
          have K2 := Lib.hid k2
          have HBA := Lib.hid hba
          have hsB : w.heap.size + 1 < ((w.alloc (.cells #[.slice a n c] 22)).alloc (.cells #[.slice b m d] 34)).heap.size := by simp
          clear k1 k2 hba
          go_enter Try.func9, Try.ntmps9
          go_wp2_with (fail)
          generalize (w.alloc (.cells #[.slice a n c] 22)).alloc (.cells #[.slice b m d] 34) = W0 at *
          have H21 := great21 b m d xss W0 (HX.out.mono (Nat.le_refl _) HBA.out)
          rw [HG.out] at H21
          have c1 := K1.out
          have c2 := K2.out
          refine H21.mono ?_
          clear H21
          rintro e w' ⟨rfl, rfl⟩
          go_wp2_with (fail)
          have H11 := fine_one a n c t W0 (HT.out.mono (Nat.le_refl _) HBA.out)
          rw [HB1.out] at H11
          refine H11.mono ?_
          clear H11
          rintro e w1 ⟨rfl, k1⟩
          have c2' := (k1.cell (p := ⟨w.heap.size + 1, 0, none⟩) hsB).trans c2
          have HBA1 := Lib.hid (HBA.out.trans (k1.mono HBA.out.size))
          clear k1 K1 K2 c1 c2
          go_wp2_with (fail)
          have H11 := fine11 b m d xss w1 (HX.out.mono (Nat.le_refl _) HBA1.out)
          rw [HB2.out] at H11
          refine H11.mono ?_
          clear H11
          rintro e w' ⟨rfl, q, rfl⟩
          have HBA2 := Lib.hid (HBA1.out.trans ((bdrewN w1 q).mono HBA1.out.size))
          go_wp2_with (fail)
          refine (awake12 _).mono ?_
          rintro e w8 ⟨rfl, k8⟩
          go_wp2_with (fail)
          go_ret
          exact ⟨rfl, bstep HBA2.out k8⟩
      · have HT := Lib.hid ht
        have HX := Lib.hid hx
        have HG := Lib.hid hg
        have HB1 := Lib.hid h1
        have d7 : decide (7 < (m : Int)) = false := by simp; omega
        clear ht hx hg h1
        have hba := (balloc w (.cells #[.slice a n c] 22)).trans ((balloc (w.alloc (.cells #[.slice a n c] 22)) (.cells #[.slice b m d] 34)).mono (by simp))
        have k1 : ((w.alloc (.cells #[.slice a n c] 22)).alloc (.cells #[.slice b m d] 34)).cell? ⟨w.heap.size, 0, none⟩ = some (.slice a n c) := ((balloc (w.alloc (.cells #[.slice a n c] 22)) (.cells #[.slice b m d] 34)).cell (p := ⟨w.heap.size, 0, none⟩) (by simp)).trans (cell_fresh rfl rfl)
        have K1 := Lib.hid k1
        have HBA := Lib.hid hba
        clear k1 hba
        go_enter Try.func9, Try.ntmps9
        go_wp2_with (fail)
        generalize (w.alloc (.cells #[.slice a n c] 22)).alloc (.cells #[.slice b m d] 34) = W0 at *
        have H21 := great21 b m d xss W0 (HX.out.mono (Nat.le_refl _) HBA.out)
        rw [HG.out] at H21
        have c1 := K1.out
        refine H21.mono ?_
        clear H21
        rintro e w' ⟨rfl, rfl⟩
        go_wp2_with (fail)
        have H11 := fine_one a n c t W0 (HT.out.mono (Nat.le_refl _) HBA.out)
        rw [HB1.out] at H11
        refine H11.mono ?_
        clear H11
        rintro e w1 ⟨rfl, k1⟩
        have HBA1 := Lib.hid (HBA.out.trans (k1.mono HBA.out.size))
        clear k1 K1 c1
        go_wp2_with (fail)
        refine (awake12 _).mono ?_
        rintro e w8 ⟨rfl, k8⟩
        go_wp2_with (fail)
        go_ret
        exact ⟨rfl, bstep HBA1.out k8⟩
    · have HX := Lib.hid hx
      have HG := Lib.hid hg
      have d7 : decide (7 < (m : Int)) = false := by simp; omega
      clear ht hx hg
      have hba := (balloc w (.cells #[.slice a n c] 22)).trans ((balloc (w.alloc (.cells #[.slice a n c] 22)) (.cells #[.slice b m d] 34)).mono (by simp))
      have HBA := Lib.hid hba
      clear hba
      go_enter Try.func9, Try.ntmps9
      go_wp2_with (fail)
      generalize (w.alloc (.cells #[.slice a n c] 22)).alloc (.cells #[.slice b m d] 34) = W0 at *
      have H21 := great21 b m d xss W0 (HX.out.mono (Nat.le_refl _) HBA.out)
      rw [HG.out] at H21
      refine H21.mono ?_
      clear H21
      rintro e w' ⟨rfl, rfl⟩
      go_wp2_with (fail)
      refine (awake12 _).mono ?_
      rintro e w8 ⟨rfl, k8⟩
      go_wp2_with (fail)
      go_ret
      exact ⟨rfl, bstep HBA.out k8⟩

end Go.Proofs.Ytcmckcmckbdmhaa
