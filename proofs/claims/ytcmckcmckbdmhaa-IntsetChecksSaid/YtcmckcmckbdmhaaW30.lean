import Derived.Test.YtcmckcmckbdmhaaL7
import Derived.Test.YtcmckcmckbdmhaaArr
namespace Go.Proofs.Ytcmckcmckbdmhaa
open Go.RowKit Go.Ap Go.Shelf

theorem part60 (a : Option Addr) (n c : Nat) (xs : List Int) (w : World) (h : Ints w a n xs) :
    Calls Try.prog 60 #[.slice a n c] w fun e w' => e = .returned (.bool (chk xs != 0)) ∧ ∃ q, w' = w.drewN q := by
  have H := Lib.hid (check_any a n c xs w h)
  go_enter Try.func60, Try.ntmps60
  go_wp2_with (fail)
  refine (H.out).mono ?_
  rintro e w' ⟨rfl, rfl⟩
  go_wp2_with (fail)
  go_ret
  exact ⟨ret_b rfl, 0, rfl⟩

/-- an integer k is right in a partition of those below N -/
def okP (N : Nat) (flat : List Int) (k : Nat) : Bool := if k < N then flat.count (k : Int) == 1 else flat.count (k : Int) == 0
def partB (N : Nat) (xss : List (List Int)) : Bool := !(xss.any fun xs => xs.length == 0) && (List.range' 0 64).all (okP N xss.flatten)

theorem setL_len {xs : List Int} (h : SetL xs) : xs.length ≤ 64 := by rw [← canon h]; exact memb_len _ _
theorem flat_len : ∀ (xss : List (List Int)), (∀ xs ∈ xss, SetL xs) → xss.flatten.length ≤ 64 * xss.length
  | [], _ => by simp
  | xs :: xss, h => by
    have h1 := setL_len (h xs (List.mem_cons_self ..))
    have h2 := flat_len xss (fun ys hy => h ys (List.mem_cons_of_mem _ hy))
    simp only [List.flatten_cons, List.length_append, List.length_cons]
    omega

theorem run_index64 (C : List Int) (hC : C.length = 64) (k : Nat) (hk : k < 64) (w : World) :
    (Instr.index 64 (.agg (C.map (Value.int .i64)).toArray) (.int .i64 k)).run Try.prog w = .ok (.int .i64 (nth C k)) w := by
  have hu : Try.prog.underlying 64 = some (.array 64 3) := by kernel_rfl
  have hs : (sizeOf 3).run Try.prog w = .ok 1 w := Try.sizeOf3 w
  have hg : ((C.map (Value.int .i64)).toArray)[k]? = some (.int .i64 (nth C k)) := by
    simp [nth_eq (xs := C) (k := k) (by omega), show k < C.length by omega]
  have hg' : (List.map (Value.int IntKind.i64) C)[k]? = some (.int .i64 (nth C k)) := by simpa using hg
  simp [Instr.index, asIntOf, run_underlying hu, hs, part, -List.getElem?_map, hg']
  intro h; omega

set_option maxRecDepth 100000 in
set_option maxHeartbeats 2000000 in
theorem part30_ok (b : Option Addr) (m d N : Nat) (xss : List (List Int)) (w : World) (hx : Rows2 w b m xss) (hN : N ≤ 64) (hm : m ≤ 1000) (sx : (xss.any fun xs => chk xs != 0) = false) :
    Calls Try.prog 30 #[.int .i64 N, .slice b m d] w fun e w' => e = .returned (.tuple #[.bool (partB N xss), .int .i64 0]) ∧ Below w.heap.size w w' := by
  have HX := Lib.hid hx
  have HXL := Lib.hid hx.len
  have SX := Lib.hid (show ∀ xs ∈ xss, SetL xs from fun xs hxs => (chk_iff xs).1 (by
    have := List.any_eq_false.1 sx xs hxs
    simpa using this))
  have d1 : decide ((N : Int) < 0) = false := by simp
  have d2 : decide (64 < (N : Int)) = false := by simp; omega
  have H42 := contf42 (fun xs => chk xs != 0) b m d xss 60 #[] _ hx (enters_of Try.func60 (by kernel_rfl) rfl) (by
    rintro q x v hx ⟨a', n', c', rfl, hr⟩
    exact part60 a' n' c' x _ hr.drewN)
  rw [sx] at H42
  have H42 := Lib.hid H42
  generalize hR : partB N xss = R
  have HR := Lib.hid hR
  clear hx sx hR
  go_enter Try.func30, Try.ntmps30
  go_wp2_with (fail)
  refine (H42.out).mono ?_
  rintro e w' ⟨rfl, q, rfl⟩
  go_wp2_with (fail)
  obtain ⟨W0, hW0⟩ : ∃ W0, (w.drewN q).alloc (.cells ((List.replicate 64 (0 : Int)).map (Value.int .i64)).toArray 64) = W0 := ⟨_, rfl⟩
  have hA0 : Arr W0 w.heap.size 64 (List.replicate 64 0) := by rw [← hW0]; exact heap_fresh (by simp [World.drewN])
  have hb0 : Below w.heap.size w W0 := by rw [← hW0]; exact bstep (bdrewN _ _) (balloc _ _)
  change Code.wp _ _ _ _ ((w.drewN q).alloc (.cells ((List.replicate 64 (0 : Int)).map (Value.int .i64)).toArray 64))
  rw [hW0]
  generalize hBB : w.heap.size = B at hA0 ⊢
  have HBB := Lib.hid hBB
  have HA0 := Lib.hid hA0
  have HB0 := Lib.hid hb0
  clear hW0 hA0 hb0 hBB
  go_loopw [23] (fun i wr => ∃ (k : Nat) (C : List Int), k ≤ m ∧ i = .int .i64 k ∧ Arr wr B 64 C ∧ C.length = 64 ∧ Cnt C (xss.take k).flatten ∧ Below w.heap.size w wr ∧ ((xss.take k).any fun xs => xs.length == 0) = false) (fun i _ => m - (intOf i).toNat)
  case atStart => exact ⟨0, _, by omega, rfl, HA0.out, by simp, Cnt.zero, HB0.out, rfl⟩
  case round =>
    obtain ⟨k, C, hk, rfl, hA, hC, hcnt, hb, hne⟩ := hrel
    have HA := Lib.hid hA
    have HC := Lib.hid hC
    have HCN := Lib.hid hcnt
    have HB := Lib.hid hb
    have HNE := Lib.hid hne
    clear hA hC hcnt hb hne
    by_cases hlt : k < m
    · obtain ⟨xs, b2, o2, v2, hxs, rfl, hc2, a3, n3, c3, rfl, hI3⟩ := Sl.at HX.out hlt
      have hcw : wr.cell? ⟨b2, o2 + k, none⟩ = some (.slice a3 n3 c3) := (HB.out.cell (p := ⟨b2, o2 + k, none⟩) (World.block_lt_of_cell? w _ hc2)).trans hc2
      have hmem := List.mem_of_getElem? hxs
      have sxs := SX.out xs hmem
      have ht : xss.take (k + 1) = xss.take k ++ [xs] := by
        have hkl : k < xss.length := by rw [HXL.out]; exact hlt
        rw [List.take_succ_eq_append_getElem hkl]
        rw [List.getElem?_eq_getElem hkl] at hxs
        cases hxs
        rfl
      have HT := Lib.hid ht
      have HI3 := Lib.hid hI3
      have HL3 := Lib.hid hI3.len
      have SXS := Lib.hid sxs
      have HMEM := Lib.hid hmem
      clear hxs hmem sxs ht hI3 hc2
      by_cases h0 : n3 = 0
      · subst h0
        have HRF := Lib.hid (show R = false by
          rw [← HR.out, partB]
          rw [show (xss.any fun xs => xs.length == 0) = true from List.any_eq_true.2 ⟨xs, HMEM.out, by rw [HL3.out]; rfl⟩]
          rfl)
        go_wp2_with (fail)
        go_ret2
        exact ⟨by rw [HRF.out]; rfl, HB.out⟩
      · have hb0 : ((n3 : Int) == 0) = false := by rw [beq_eq_false_iff_ne]; omega
        have hs3 := HI3.out.small
        have hfl : (xss.take k).flatten.length ≤ 64 * 1000 := by
          have h1 := flat_len (xss.take k) (fun ys hy => SX.out ys (List.mem_of_mem_take hy))
          have h2 := List.length_take_le k xss
          omega
        have h64 : n3 ≤ 64 := by rw [← HL3.out]; exact setL_len SXS.out
        go_wp2_with (fail)
        obtain ⟨wo, rfl⟩ : ∃ wo, wo = wr := ⟨_, rfl⟩
        go_loopw [32] (fun i wi => ∃ (j : Nat) (D : List Int), j ≤ n3 ∧ i = .int .i64 j ∧ Arr wi B 64 D ∧ D.length = 64 ∧ Cnt D ((xss.take k).flatten ++ xs.take j) ∧ Below w.heap.size w wi) (fun i _ => n3 - (intOf i).toNat)
        case atStart => exact ⟨0, C, by omega, rfl, HA.out, HC.out, by simpa using HCN.out, HB.out⟩
        case round =>
          obtain ⟨j, D, hj, rfl, hD, hDl, hcnt, hbi⟩ := hrel
          have HD := Lib.hid hD
          have HDL := Lib.hid hDl
          have HDC := Lib.hid hcnt
          have HBI := Lib.hid hbi
          have hI := Ints.mono HI3.out (Nat.le_refl _) hbi
          clear hD hDl hcnt hbi
          by_cases hjl : j < n3
          · have hjx : j < xs.length := by rw [HL3.out]; exact hjl
            have hx := SXS.out.2 _ (nth_mem hjx)
            obtain ⟨x, hxe⟩ : ∃ x : Nat, nth xs j = x := ⟨(nth xs j).toNat, by omega⟩
            have hx64 : x < 64 := by omega
            obtain ⟨b4, o4, rfl, hc4⟩ := Ints.at hI (by omega)
            have hcell0 := hc4 j hjl
            rw [hxe] at hcell0
            have HTJ := Lib.hid (show xs.take (j + 1) = xs.take j ++ [(x : Int)] by rw [take_nth hjx, hxe])
            have hct := HDC.out x hx64
            have hcl : (nth D x) ≤ 64 * 1000 + 64 := by
              rw [hct]
              have h1 := List.count_le_length (a := (x : Int)) (l := (xss.take k).flatten ++ xs.take j)
              have h2 := List.length_take_le j xs
              rw [List.length_append] at h1
              omega
            have hcl0 : 0 ≤ nth D x := by rw [hct]; omega
            have hcellD := HD.out.cell (k := x) (by rw [HDL.out]; exact hx64)
            have hfreeD := HD.out.free x
            have HSET := Lib.hid (HD.out.set x (nth D x + 1))
            have HSC := Lib.hid (HDC.out.step hx64 HDL.out)
            have HSB := Lib.hid (HBI.out.setCell (p := ⟨B, x, none⟩) (show w.heap.size ≤ B by rw [HBB.out]; exact Nat.le_refl _) (.int .i64 (nth D x + 1)))
            clear hc4 hx hxe hct hI hjx
            go_wp2_with (fail)
            exact ⟨⟨j + 1, _, by omega, by go_num, HSET.out, by rw [List.length_set]; exact HDL.out, by rw [HTJ.out, ← List.append_assoc]; exact HSC.out, HSB.out⟩, by simp [intOf]; omega⟩
          · have HE := Lib.hid (show xs.take j = xs from List.take_of_length_le (by rw [HL3.out]; omega))
            go_wp2_with (fail)
            exact ⟨⟨k + 1, _, by omega, by go_num, HD.out, HDL.out, by rw [HT.out, List.flatten_append]; simpa [HE.out] using HDC.out, HBI.out, by rw [HT.out, List.any_append, HNE.out]; simp [HL3.out, h0]⟩, by simp [intOf]; omega⟩
    · have HE := Lib.hid (show xss.take k = xss from List.take_of_length_le (by rw [HXL.out]; omega))
      have hi64 : (Try.prog.info? 64).map (·.size) = some (C.map (Value.int .i64)).toArray.size := by
        simp only [List.size_toArray, List.length_map, HC.out]; kernel_rfl
      go_wp2_with (refine wpList_load_row rfl 64 _ rfl B rfl 64 (C.map (Value.int .i64)).toArray (0, 0) (.array 64 3) HA.out Try.underlying64 rfl hi64 ?_)
      have hall : (List.range' 0 64).all (okP N xss.flatten) = R := by
        have := HNE.out
        rw [HE.out] at this
        rw [← HR.out, partB, this]; rfl
      have HALL := Lib.hid hall
      clear hall
      have hcnt := HCN.out
      rw [HE.out] at hcnt
      have HCNT := Lib.hid hcnt
      clear hcnt hi64
      go_loop [44] (fun i => ∃ j : Nat, j ≤ 64 ∧ i = .int .i64 j ∧ (List.range' j (64 - j)).all (okP N xss.flatten) = R) (fun i => 64 - (intOf i).toNat)
      case atStart => exact ⟨0, by omega, rfl, HALL.out⟩
      case round =>
        obtain ⟨j, hj, rfl, hrest⟩ := hrel
        have HRE := Lib.hid hrest
        clear hrest
        by_cases hj64 : j < 64
        · obtain ⟨cn, hcn⟩ : ∃ cn : Nat, xss.flatten.count (j : Int) = cn := ⟨_, rfl⟩
          have hnc : nth C j = cn := by rw [HCNT.out j hj64, hcn]
          have hidx : ∀ w, (Instr.index 64 (.agg (C.map (Value.int .i64)).toArray) (.int .i64 j)).run Try.prog w = .ok (.int .i64 cn) w := fun w => by rw [run_index64 C HC.out j hj64 w, hnc]
          have hstep : (List.range' j (64 - j)).all (okP N xss.flatten) = (okP N xss.flatten j && (List.range' (j + 1) (64 - (j + 1))).all (okP N xss.flatten)) := by
            rw [show 64 - j = (64 - (j + 1)) + 1 by omega, List.range'_succ, List.all_cons]
          have HST := Lib.hid hstep
          have HCE := Lib.hid hcn
          clear hcn hnc hstep
          by_cases hjN : j < N
          · have dN : decide ((j : Int) < (N : Int)) = true := by simp; omega
            have dN' : decide (j < N) = true := by simpa using hjN
            by_cases hc1 : cn = 1
            · subst hc1
              have HNX := Lib.hid (show (List.range' (j + 1) (64 - (j + 1))).all (okP N xss.flatten) = R by
                rw [← HRE.out, HST.out, okP, if_pos hjN, HCE.out]; rfl)
              go_wp2_with (fail)
              exact ⟨⟨j + 1, by omega, by go_num, HNX.out⟩, by simp [intOf]; omega⟩
            · have hb : ((cn : Int) != 1) = true := by rw [bne_iff_ne]; omega
              have HF := Lib.hid (show R = false by
                rw [← HRE.out, HST.out, okP, if_pos hjN, HCE.out, show (cn == 1) = false by simpa using hc1]; rfl)
              go_wp2_with (fail)
              go_ret2
              exact ⟨by rw [HF.out]; rfl, HB.out⟩
          · have dN : decide ((j : Int) < (N : Int)) = false := by simp; omega
            have dN' : decide (j < N) = false := by simpa using hjN
            have dM : decide ((N : Int) ≤ (j : Int)) = true := by simp; omega
            have dM' : decide (N ≤ j) = true := by simp; omega
            by_cases hc0 : cn = 0
            · subst hc0
              have HNX := Lib.hid (show (List.range' (j + 1) (64 - (j + 1))).all (okP N xss.flatten) = R by
                rw [← HRE.out, HST.out, okP, if_neg hjN, HCE.out]; rfl)
              go_wp2_with (fail)
              exact ⟨⟨j + 1, by omega, by go_num, HNX.out⟩, by simp [intOf]; omega⟩
            · have hb : decide (0 < (cn : Int)) = true := by simp; omega
              have hb' : decide (0 < cn) = true := by simp; omega
              have HF := Lib.hid (show R = false by
                rw [← HRE.out, HST.out, okP, if_neg hjN, HCE.out, show (cn == 0) = false by simpa using hc0]; rfl)
              go_wp2_with (fail)
              go_ret2
              exact ⟨by rw [HF.out]; rfl, HB.out⟩
        · have HT := Lib.hid (show R = true by rw [← HRE.out, show 64 - j = 0 by omega]; rfl)
          go_wp2_with (fail)
          go_ret2
          exact ⟨by rw [HT.out]; rfl, HB.out⟩

/-- what Partition answers -/
def partE (n : Int) (xss : List (List Int)) : Int := if n < 0 ∨ 64 < n then 2 else if (xss.any fun xs => chk xs != 0) = true then 1 else 0
def partR (n : Int) (xss : List (List Int)) : Bool := if partE n xss = 0 then partB n.toNat xss else false

theorem part30 (b : Option Addr) (m d : Nat) (n : Int) (xss : List (List Int)) (w : World) (hn : I64 n) (hx : Rows2 w b m xss) (hm : m ≤ 1000) :
    Calls Try.prog 30 #[.int .i64 n, .slice b m d] w fun e w' => e = .returned (.tuple #[.bool (partR n xss), .int .i64 (partE n xss)]) ∧ Below w.heap.size w w' := by
  have H42 := contf42 (fun xs => chk xs != 0) b m d xss 60 #[] _ hx (enters_of Try.func60 (by kernel_rfl) rfl) (by
    rintro q x v hx ⟨a', n', c', rfl, hr⟩
    exact part60 a' n' c' x _ hr.drewN)
  by_cases h1 : n < 0 ∨ 64 < n
  · have hE : partE n xss = 2 := by rw [partE, if_pos h1]
    have hR : partR n xss = false := by rw [partR, hE]; rfl
    rw [hE, hR]
    clear hE hR hx H42
    by_cases h2 : n < 0
    · have d1 : decide (n < 0) = true := by simpa using h2
      go_enter Try.func30, Try.ntmps30
      go_wp2_with (fail)
      go_ret2
      exact ⟨rfl, Below.refl _ _⟩
    · have d1 : decide (n < 0) = false := by simpa using h2
      have d2 : decide (64 < n) = true := by simp; omega
      go_enter Try.func30, Try.ntmps30
      go_wp2_with (fail)
      go_ret2
      exact ⟨rfl, Below.refl _ _⟩
  · cases h3 : (xss.any fun xs => chk xs != 0)
    · have hE : partE n xss = 0 := by rw [partE, if_neg h1, h3]; rfl
      have hR : partR n xss = partB n.toNat xss := by rw [partR, hE]; rfl
      rw [hE, hR]
      obtain ⟨N, rfl⟩ : ∃ N : Nat, n = N := ⟨n.toNat, by omega⟩
      rw [Int.toNat_natCast]
      exact part30_ok b m d N xss w hx (by omega) hm h3
    · have hE : partE n xss = 1 := by rw [partE, if_neg h1, h3]; rfl
      have hR : partR n xss = false := by rw [partR, hE]; rfl
      rw [hE, hR]
      rw [h3] at H42
      have H := Lib.hid H42
      have d1 : decide (n < 0) = false := by simp; omega
      have d2 : decide (64 < n) = false := by simp; omega
      clear hE hR hx H42 h1 h3
      go_enter Try.func30, Try.ntmps30
      go_wp2_with (fail)
      refine (H.out).mono ?_
      rintro e w' ⟨rfl, q, rfl⟩
      go_wp2_with (fail)
      go_ret2
      exact ⟨rfl, bdrewN _ _⟩

end Go.Proofs.Ytcmckcmckbdmhaa
