import Derived.Test.YtcmckcmckbdmhaaW10
namespace Go.Proofs.Ytcmckcmckbdmhaa
open Go.RowKit Go.Ap Go.Shelf

theorem chooseG_mem (bs : List Nat) (want : Nat) (go : Nat → Nat → Option (List Int)) (N hv : Nat) (hgo : ∀ i hv l, go i hv = some l → ∀ x ∈ l, (i : Int) ≤ x ∧ x < N) :
    ∀ f i l, i + f ≤ N → chooseG bs want go hv f i = some l → ∀ x ∈ l, (i : Int) ≤ x ∧ x < N
  | 0, _, _, _, h => by simp [chooseG] at h
  | f + 1, i, l, hf, h => by
    have hrec := chooseG_mem bs want go N hv hgo f (i + 1) l (by omega)
    have wide : chooseG bs want go hv f (i + 1) = some l → ∀ x ∈ l, (i : Int) ≤ x ∧ x < N := fun h x hx => by have := hrec h x hx; omega
    rw [chooseG] at h
    split at h
    · split at h
      · rename_i l' hl'
        cases h
        intro x hx
        rcases List.mem_cons.1 hx with rfl | hx
        · omega
        · have := hgo _ _ _ hl' x hx; omega
      · exact wide h
    · exact wide h

theorem chooseL_mem (bs : List Nat) (want : Nat) : ∀ left i hv l, chooseL bs want left i hv = some l → ∀ x ∈ l, (i : Int) ≤ x ∧ x < bs.length
  | 0, i, hv, l, h => by
    rw [chooseL] at h
    split at h
    · cases h; simp
    · cases h
  | left + 1, i, hv, l, h => by
    rw [chooseL] at h
    by_cases hi : i ≤ bs.length
    · exact chooseG_mem bs want _ bs.length hv (fun i hv l h => chooseL_mem bs want left i hv l h) _ i l (by omega) h
    · rw [show bs.length - i = 0 by omega] at h; simp [chooseG] at h

theorem chooseL_len (bs : List Nat) (want : Nat) : ∀ left i hv l, chooseL bs want left i hv = some l → l.length = left
  | 0, i, hv, l, h => by
    rw [chooseL] at h
    split at h
    · cases h; rfl
    · cases h
  | left + 1, i, hv, l, h => by
    rw [chooseL] at h
    have key : ∀ f i, chooseG bs want (chooseL bs want left) hv f i = some l → l.length = left + 1 := by
      intro f
      induction f with
      | zero => intro i h; simp [chooseG] at h
      | succ f ih =>
        intro i h
        rw [chooseG] at h
        split at h
        · split at h
          · rename_i l' hl'
            cases h
            rw [List.length_cons, chooseL_len bs want left _ _ _ hl']
          · exact ih _ h
        · exact ih _ h
    exact key _ _ h

set_option maxHeartbeats 1000000 in
theorem cover26_bad (a b : Option Addr) (n m c d : Nat) (t : List Int) (xss : List (List Int)) (w : World) (ht : Ints w a n t) (hx : Rows2 w b m xss) (hle : m ≤ 16) (hbad : coverB t xss = true) :
    Calls Try.prog 26 #[.slice a n c, .slice b m d] w (GivesE w [] 1) := by
  have hbl : Below w.heap.size w (w.alloc (.cells #[.slice b m d] 34)) := (Below.refl _ w).alloc (Nat.le_refl _) _
  have hx1 := hx.mono (Nat.le_refl _) hbl
  have H1 := Lib.hid (check_any a n c t _ (ht.mono (Nat.le_refl _) hbl))
  have H2 := Lib.hid (contf42 (fun xs => chk xs != 0) b m d xss 54 #[] _ hx1 (enters_of Try.func54 (by kernel_rfl) rfl) (by
    rintro q x v hx ⟨a', n', c', rfl, hr⟩
    exact cover54 a' n' c' x _ hr.drewN))
  go_enter Try.func26, Try.ntmps26
  go_wp2_with (fail)
  refine (H1.out).mono ?_
  rintro e w' ⟨rfl, rfl⟩
  by_cases h1 : chk t = 0
  · have h1' : (chk t != 0) = false := by simpa using h1
    have h2 : (xss.any fun xs => chk xs != 0) = true := by unfold coverB at hbad; rw [h1', Bool.false_or] at hbad; exact hbad
    rw [h2] at H2
    clear h2 hbad h1
    go_wp2_with (fail)
    refine (H2.out).mono ?_
    rintro e w' ⟨rfl, q, rfl⟩
    go_wp2_with (fail)
    go_ret2
    exact ⟨none, 0, 0, rfl, Sl.nil _ _, bstep hbl (bdrewN _ _)⟩
  · have h1' : (chk t != 0) = true := by simpa using h1
    clear h1 hbad
    go_wp2_with (fail)
    go_ret2
    exact ⟨none, 0, 0, rfl, Sl.nil _ _, hbl⟩

set_option maxRecDepth 100000 in
set_option maxHeartbeats 1000000 in
theorem cover26_ok (a b : Option Addr) (n m c d : Nat) (t : List Int) (xss : List (List Int)) (w : World) (ht : Ints w a n t) (hx : Rows2 w b m xss) (hle : m ≤ 16) (hok : coverB t xss = false) :
    Calls Try.prog 26 #[.slice a n c, .slice b m d] w (GivesE w ((coverO t xss).getD []) (covE (coverO t xss))) := by
  have hbl : Below w.heap.size w (w.alloc (.cells #[.slice b m d] 34)) := (Below.refl _ w).alloc (Nat.le_refl _) _
  have hx1 := hx.mono (Nat.le_refl _) hbl
  have ht1 := ht.mono (Nat.le_refl _) hbl
  have H1 := Lib.hid (check_any a n c t _ ht1)
  have H2 := Lib.hid (contf42 (fun xs => chk xs != 0) b m d xss 54 #[] _ hx1 (enters_of Try.func54 (by kernel_rfl) rfl) (by
    rintro q x v hx ⟨a', n', c', rfl, hr⟩
    exact cover54 a' n' c' x _ hr.drewN))
  have hcc : (chk t != 0) = false ∧ (xss.any fun xs => chk xs != 0) = false := by
    unfold coverB at hok
    exact Bool.or_eq_false_iff.1 hok
  have h1' := hcc.1
  have hst : ∀ x ∈ t, 0 ≤ x ∧ x ≤ 63 := ((chk_iff t).1 (by simpa using hcc.1)).2
  have hsx : ∀ xs ∈ xss, ∀ x ∈ xs, 0 ≤ x ∧ x ≤ 63 := fun xs hxs => ((chk_iff xs).1 (by
    have := List.any_eq_false.1 hcc.2 xs hxs
    simpa using this)).2
  rw [hcc.2] at H2
  have HST := Lib.hid hst
  have HSX := Lib.hid hsx
  have HXL := Lib.hid hx.len
  have hd16 : decide (16 < (m : Int)) = false := by simp; omega
  clear hcc hok hst hsx
  obtain ⟨O, hO⟩ : ∃ O, O = coverO t xss := ⟨_, rfl⟩
  rw [← hO]
  have HO := Lib.hid hO
  clear hO
  go_enter Try.func26, Try.ntmps26
  go_wp2_with (fail)
  refine (H1.out).mono ?_
  rintro e w' ⟨rfl, rfl⟩
  go_wp2_with (fail)
  refine (H2.out).mono ?_
  rintro e w' ⟨rfl, q, rfl⟩
  have H3 := Lib.hid (bits55 a n c t _ (ht1.drewN (q := q)) HST.out)
  go_wp2_with (fail)
  refine (H3.out).mono ?_
  rintro e w' ⟨rfl, rfl⟩
  have hb64 := bitsN_lt t HST.out
  generalize hbt : bitsN t = want at *
  have HBT := Lib.hid hbt
  clear hbt
  go_wp2_with (fail)
  obtain ⟨wA, hwA⟩ : ∃ wA, ((w.alloc (Obj.cells #[Value.slice b m d] 34)).drewN q).alloc (Obj.cells #[Value.int IntKind.u64 ↑want] 59) = wA := ⟨_, rfl⟩
  have hsz : wA.heap.size = w.heap.size + 1 + 1 := by rw [← hwA]; simp [World.drewN]
  have hbA : Below w.heap.size w wA := by
    rw [← hwA]
    exact (bstep hbl (bdrewN _ q)).alloc (by simp [World.drewN]) _
  have cw : wA.cell? ⟨w.heap.size + 1, 0, none⟩ = some (.int .u64 (want : Nat)) := by
    rw [← hwA]; exact cell_fresh (by simp [World.drewN]) rfl
  have cs : wA.cell? ⟨w.heap.size, 0, none⟩ = some (.slice b m d) := by
    rw [← hwA, World.cell?_alloc_lt _ _ _ (by simp [World.drewN])]; exact cell_fresh (w := w) rfl rfl
  rw [hwA]
  clear hwA
  have hch := choose56 wA (w.heap.size + 1) w.heap.size want m d b xss cw cs (hx.mono (Nat.le_refl _) hbA) HSX.out hle hb64
  rw [hsz] at hch
  have hC0 : ChSt wA (w.heap.size + 1) w.heap.size ((wA.alloc (.cells #[.slice none 0 0] 22)).alloc (.cells #[fv56 (w.heap.size + 1) w.heap.size (w.heap.size + 1 + 1) (w.heap.size + 1 + 1 + 1)] 61)) [] := by
    rw [← hsz]
    refine ⟨⟨.slice none 0 0, (Boxed.new wA 22 _).alloc _, World.ownsRow_nil _ _ _ _⟩, ?_, ((Below.refl _ wA).alloc (Nat.le_refl _) _).alloc (by simp) _⟩
    have := Boxed.new (wA.alloc (.cells #[.slice none 0 0] 22)) 61 (fv56 (w.heap.size + 1) w.heap.size wA.heap.size (wA.heap.size + 1))
    rw [World.size_alloc] at this
    exact this
  unfold fv56 at hC0
  have HCH := Lib.hid hch
  have HC0 := Lib.hid hC0
  clear hch hC0 cw cs
  have e1 : (callFunc 56 #[]).run Try.prog w = .ok (.enter 56 #[]) w := enters_of Try.func56 (by kernel_rfl) rfl _ _
  clear e1
  go_loopw [26] (fun t wr => ∃ k f : Nat, k + f = m + 1 ∧ t = .int .i64 k ∧ ChSt wA (w.heap.size + 1) w.heap.size wr [] ∧ coverF (xss.map bitsN) want f k = O) (fun t _ => m + 1 - (intOf t).toNat)
  case atStart => exact ⟨0, m + 1, by omega, rfl, HC0.out, by rw [HO.out, coverO, HBT.out, HXL.out]⟩
  case round =>
    obtain ⟨k, f, hkf, rfl, hst, hcv⟩ := hrel
    have hcf := hst.fn.cell
    rw [hsz] at hcf
    unfold fv56 at hcf
    have HKF := Lib.hid hkf
    have HST1 := Lib.hid hst
    have HCV := Lib.hid hcv
    clear hkf hst hcv
    by_cases hlt : k < m + 1
    · obtain ⟨f, rfl⟩ : ∃ g, f = g + 1 := ⟨f - 1, by have := HKF.out; omega⟩
      go_wp2_with (fail)
      have hcall := HCH.out k 0 0 wr [] (by omega) (by omega) (by simp; omega) HST1.out
      obtain ⟨G, hG⟩ : ∃ G, chooseL (xss.map bitsN) want k 0 0 = G := ⟨_, rfl⟩
      rw [hG] at hcall
      have HG := Lib.hid hG
      clear hG
      refine hcall.mono ?_
      clear hcall
      cases G with
      | some l =>
        rintro e w2 ⟨rfl, hst3⟩
        obtain ⟨v3, hb3, hr3⟩ := hst3.box
        rw [List.nil_append] at hr3
        have hO2 : O = some l := by rw [← HCV.out, coverF_hit HG.out]
        obtain ⟨a3, c3, rfl, hI⟩ := ints_of_owns hr3 (fun x hx => by
          have := chooseL_mem _ _ _ _ _ _ HG.out x hx
          rw [List.length_map, HXL.out] at this
          exact ⟨by omega, by omega⟩) (by
          have := chooseL_len _ _ _ _ _ _ HG.out
          omega)
        have hc3 := hb3.cell
        rw [hsz] at hc3
        have HI := Lib.hid hI
        have HB3 := Lib.hid hst3.below
        have HO2 := Lib.hid hO2
        clear hI hst3 hb3 hr3 hO2
        go_wp2_with (fail)
        go_ret2
        rw [HO2.out]
        exact ⟨a3, _, c3, rfl, HI.out, hbA.trans (HB3.out.mono hbA.size)⟩
      | none =>
        rintro e w2 ⟨rfl, hst3⟩
        have HP := Lib.hid hst3
        clear hst3
        go_wp2_with (fail)
        exact ⟨⟨k + 1, f, by have := HKF.out; omega, by go_num, HP.out, by rw [← HCV.out, coverF_miss HG.out]⟩, by simp [intOf]; omega⟩
    · go_wp2_with (fail)
      go_ret2
      have hf0 : f = 0 := by have := HKF.out; omega
      have hOn : O = none := by rw [← HCV.out, hf0]; rfl
      rw [hOn]
      exact ⟨none, 0, 0, rfl, Sl.nil _ _, hbA.trans (HST1.out.below.mono hbA.size)⟩

theorem cover26 (a b : Option Addr) (n m c d : Nat) (t : List Int) (xss : List (List Int)) (w : World) (ht : Ints w a n t) (hx : Rows2 w b m xss) :
    Calls Try.prog 26 #[.slice a n c, .slice b m d] w (GivesE w (coverR t xss) (coverE t xss)) := by
  unfold coverR coverE
  rw [hx.len]
  by_cases h1 : 16 < m
  · rw [if_pos h1, if_pos h1]
    exact cover26_great a b n m c d w hx.small h1
  · rw [if_neg h1, if_neg h1]
    cases h2 : coverB t xss
    · exact cover26_ok a b n m c d t xss w ht hx (by omega) h2
    · exact cover26_bad a b n m c d t xss w ht hx (by omega) h2

end Go.Proofs.Ytcmckcmckbdmhaa
