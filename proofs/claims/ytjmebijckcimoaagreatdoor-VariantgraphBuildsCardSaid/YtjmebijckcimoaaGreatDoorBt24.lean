/-
 Build (reference): the graph of a collation.
-/
import Derived.Test.YtjmebijckcimoaaGreatDoorBs24
import Derived.Test.YtjmebijckcimoaaGreatDoorBd24
import Derived.Test.YtjmebijckcimoaaGreatDoorPlM24
namespace Go.Proofs.YtjmebijckcimoaaGreatDoor
open Go.RowKit Go.Ap Go.Shelf Go.Proofs Go.Maps

/-- the paths of the sources below i have their ends -/
def rowsE (cs : List (List (Option Str))) (n k i : Nat) : List (List Int) := (List.range n).map fun s => if s < i then Vg.fullP cs s else Vg.pathB cs k 0 s
theorem rowsE_zero (cs : List (List (Option Str))) (n k : Nat) : rowsE cs n k 0 = rowsB cs n k 0 := by
 unfold rowsE rowsB
 refine List.map_congr_left fun s _ => ?_
 rw [if_neg (Nat.not_lt_zero _)]
theorem rowsE_all (cs : List (List (Option Str))) (n k : Nat) : rowsE cs n k n = Vg.pathsC cs n := by
 unfold rowsE Vg.pathsC
 refine List.map_congr_left fun s hs => ?_
 rw [if_pos (List.mem_range.1 hs)]
theorem rowsE_at {cs : List (List (Option Str))} {n k i s : Nat} (hs : s < n) : (rowsE cs n k i)[s]? = some (if s < i then Vg.fullP cs s else Vg.pathB cs k 0 s) := by
 unfold rowsE
 rw [List.getElem?_map, List.getElem?_range hs]
 rfl
theorem rowsE_len (cs : List (List (Option Str))) (n k i : Nat) : (rowsE cs n k i).length = n := by simp [rowsE]
theorem rowsE_set {cs : List (List (Option Str))} {n k i : Nat} {e : Int} (h : Vg.pathB cs k 0 i ++ [e] = Vg.fullP cs i) : (rowsE cs n k i).set i (Vg.pathB cs k 0 i ++ [e]) = rowsE cs n k (i + 1) := by
 apply List.ext_getElem?
 intro s
 by_cases hs : s < n
 · rw [rowsE_at hs]
   by_cases e : i = s
   · subst e
     rw [List.getElem?_set_self (by rw [rowsE_len]; exact hs), if_pos (by omega), h]
   · rw [List.getElem?_set_ne e, rowsE_at hs]
     by_cases h2 : s < i
     · rw [if_pos h2, if_pos (by omega)]
     · rw [if_neg h2, if_neg (by omega)]
 · rw [List.getElem?_eq_none (by rw [List.length_set, rowsE_len]; omega), List.getElem?_eq_none (by rw [rowsE_len]; omega)]
theorem nodeN_first {α : Type} [DecidableEq α] (cs : List (List (Option α))) (k : Nat) (t : α) : nodeN cs k t = Vg.firstB cs k + (Vg.colN (cs.getD k [])).idxOf t := rfl
attribute [local go_sem] Oper.semAt_some bs_toList empty_toList bs_size bs_extract
set_option maxRecDepth 100000 in
set_option maxHeartbeats 8000000 in
theorem buildROk (x : Coll) (a1 : Option Addr) (n1 c1 : Nat) (a2 : Option Addr) (n2 c2 : Nat) (a3 : Option Addr) (n3 c3 : Nat) (w : World) (h : CollM w a1 a2 a3 n1 n2 n3 x) (hok : collC x = 0) (h24 : n3 ≤ 24) :
 Calls Tryz.prog 14 #[collV x.sec a1 n1 c1 a2 n2 c2 a3 n3 c3] w fun e w' => ∃ b1 m1 k1 b2 m2 k2, e = .returned (.tuple #[graphV b1 m1 k1 b2 m2 k2, .int .i64 0]) ∧ GraphM w' b1 m1 b2 m2 (Vg.wordsL [] (optC x)) (Vg.arcsG (optC x) n1) ∧ Below w.heap.size w w' := by
 obtain ⟨i0, hi0, hz0, hz1, hz2⟩ := info_parts infoStr24
 obtain ⟨i9, hi9, hy0, hy1, hy2⟩ := info_parts infoI24
 obtain ⟨iA, hiA, hx0, hx1, hx2⟩ := info_parts infoArc
 have hv := val_of hok
 have hl1 := h.sigla.len
 have hl3 := h.columns.len
 have hpos := hv.pos
 have h32 := hv.le
 have HCK := Lib.hid (fun W (hb : Below w.heap.size w W) => collR x a1 n1 c1 a2 n2 c2 a3 n3 c3 W (h.mono (Nat.le_refl _) hb))
 rw [hok] at HCK
 have HCO := Lib.hid (fun k (hk : k < n3) => col_lies h hv k (by omega))
 obtain ⟨cs, hcs⟩ : ∃ cs, optC x = cs := ⟨_, rfl⟩
 have HRW := Lib.hid (show ∀ c ∈ cs, c.length = n1 by rw [← hcs, ← hl1]; exact optC_row)
 have HCL := Lib.hid (show cs.length = n3 by rw [← hcs, optC_len, hl3])
 have HCA := Lib.hid (show ∀ k, k < n3 → cs[k]? = some (optK x k) from fun k hk => by rw [← hcs]; exact optC_at (by omega))
 have HCE := Lib.hid (show ∀ k s, s < n1 → (optK x k)[s]? = some (cellO x k s) from fun k s hs => optK_at (by omega))
 have HLS := Lib.hid hl1
 have HN2 := Lib.hid (show n2 = n1 by have := h.tokens.len; have := hv.toks; omega)
 have HKL := Lib.hid (show ∀ k, (optK x k).length = n1 from fun k => by rw [optK_len, hl1])
 have HTX := Lib.hid (@text44 x.sec a1 n1 c1)
 rw [hcs]
 rw [hl1] at hpos h32
 obtain ⟨W4, hW4⟩ : ∃ W4, (w.alloc (.cells #[.string (bs x.sec), .slice a1 n1 c1, .slice a2 n2 c2, .slice a3 n3 c3] 26)).alloc (.cells #[.slice none 0 0, .slice none 0 0] 31) = W4 := ⟨_, rfl⟩
 have bA := balloc w (.cells #[.string (bs x.sec), .slice a1 n1 c1, .slice a2 n2 c2, .slice a3 n3 c3] 26)
 have bB := balloc (w.alloc (.cells #[.string (bs x.sec), .slice a1 n1 c1, .slice a2 n2 c2, .slice a3 n3 c3] 26)) (.cells #[.slice none 0 0, .slice none 0 0] 31)
 have HB4 := Lib.hid (show Below w.heap.size w W4 by rw [← hW4]; exact bstep bA bB)
 have HBX := Lib.hid (show BoxC W4 w.heap.size x.sec a1 n1 c1 a2 n2 c2 a3 n3 c3 by rw [← hW4]; exact (BoxC.new w _ _ _ _ _ _ _ _ _ _).below bB)
 have HRS := Lib.hid (show BlkK W4 (w.heap.size + 1) #[.slice none 0 0, .slice none 0 0] 31 by
  rw [← hW4]
  have := BlkK.new (w.alloc (.cells #[.string (bs x.sec), .slice a1 n1 c1, .slice a2 n2 c2, .slice a3 n3 c3] 26)) #[.slice none 0 0, .slice none 0 0] 31
  rwa [World.size_alloc] at this)
 have HMK := Lib.hid (make_rows n1 (by omega))
 have HW4 := Lib.hid hW4
 clear h hok hv hl1 hl3 hcs bA bB hW4
 unfold collV at HCK ⊢
 go_enter Tryz.func14, Tryz.ntmps14
 obtain ⟨k0, k1, k2, k3⟩ := HBX.out
 rw [← HW4.out] at k0 k1 k2 k3
 go_wp2_with (fail)
 rw [HW4.out]
 refine (HCK.out _ HB4.out).mono ?_
 rintro e w1 ⟨rfl, hb1⟩
 have HB1 := Lib.hid (bstep HB4.out hb1)
 have HX1 := Lib.hid (HBX.out.below hb1)
 have HR1 := Lib.hid (HRS.out.below hb1)
 clear k0 k1 k2 k3 hb1
 obtain ⟨k0, k1, k2, k3⟩ := HX1.out
 obtain ⟨S, hS⟩ : ∃ S, w1.heap.size = S := ⟨_, rfl⟩
 have HSS := Lib.hid hS
 have HSW := Lib.hid (show w.heap.size + 1 < S by rw [← hS]; exact HR1.out.lt)
 obtain ⟨V1, hV1⟩ : ∃ V, (w1.alloc (.cells #[.string { data := #[] }] 9)).alloc (.cells #[.slice (some ⟨w1.heap.size, 0, none⟩) 1 1, .slice none 0 0] 31) = V := ⟨_, rfl⟩
 have ka := balloc w1 (.cells #[.string { data := #[] }] 9)
 have kb := balloc (w1.alloc (.cells #[.string { data := #[] }] 9)) (.cells #[.slice (some ⟨w1.heap.size, 0, none⟩) 1 1, .slice none 0 0] 31)
 have hbx1 : BlkK V1 (S + 1) #[.slice (some ⟨S, 0, none⟩) 1 1, .slice none 0 0] 31 := by
  rw [← hV1, hS, ← hS]
  have := BlkK.new (w1.alloc (.cells #[.string { data := #[] }] 9)) #[.slice (some ⟨w1.heap.size, 0, none⟩) 1 1, .slice none 0 0] 31
  rwa [World.size_alloc] at this
 have HBV := Lib.hid (show Below S w1 V1 from (by
  have h1 := bstep ka kb
  rw [hV1, hS] at h1
  exact h1))
 have hsz1 : V1.heap.size = S + 2 := by rw [← hV1, ← hS]; simp
 have HOW := Lib.hid (show OwnS V1 S (.slice (some ⟨S, 0, none⟩) 1 1) [[]] by
  have o1 : OwnS (w1.alloc (.cells #[.string { data := #[] }] 9)) S (.slice (some ⟨S, 0, none⟩) 1 1) [[]] := by
   have := OwnS.one w1 (base := S) (by omega) []
   rw [hS] at this
   exact this
  have o2 := o1.below kb
  rw [hV1] at o2
  exact o2)
 have kc := balloc V1 (.cells (Array.replicate n1 (.slice none 0 0)) 44)
 have HI0 := Lib.hid (show BrI w1 S n1 (.slice (some ⟨S, 0, none⟩) 1 1) [[]] (firstR n1 0) (V1.alloc (.cells (Array.replicate n1 (.slice none 0 0)) 44)) from by
  have t1 := OwnTb.made V1 (base := S) (by omega) n1 (by omega)
  rw [hsz1] at t1
  exact ⟨HOW.out.below kc, hbx1.below kc, by rw [firstR_zero]; exact t1, by simp [firstR], HBV.out.trans (kc.mono (by omega)), by simp; omega⟩)
 have hmk := HMK.out
 have HBW := Lib.hid (show ∀ W, Below S w1 W → Below w.heap.size w W from fun W hb => HB1.out.trans (hb.mono (by have := HSW.out; omega)))
 have HXW := Lib.hid (show ∀ W, Below S w1 W → BoxC W w.heap.size x.sec a1 n1 c1 a2 n2 c2 a3 n3 c3 from fun W hb => HX1.out.below (by rw [HSS.out]; exact hb))
 have q1 := (HXW.out _ HBV.out).k1
 rw [← hV1] at q1
 have HVV := Lib.hid hV1
 have HSZ1 := Lib.hid hsz1
 clear ka kb kc hbx1 hV1 hsz1 hS
 go_wp2_with (fail)
 rw [HVV.out, HSS.out, show S + 1 + 1 = S + 2 from rfl]
 clear hmk q1 k0 k1 k2 k3
 have hSW := HSW.out
 go_loopw [6] (fun iv wr => ∃ i : Nat, i ≤ n1 ∧ iv = .int .i64 i ∧ BrI w1 S n1 (.slice (some ⟨S, 0, none⟩) 1 1) [[]] (firstR n1 i) wr) (fun iv _ => n1 - (intOf iv).toNat)
 case atStart => exact ⟨0, Nat.zero_le _, rfl, HI0.out⟩
 case round =>
  obtain ⟨wi, rfl⟩ : ∃ wi : World, wi = wr := ⟨_, rfl⟩
  obtain ⟨i, hi, rfl, hI⟩ := hrel
  have HI := Lib.hid hI
  obtain ⟨k0, k1, k2, k3⟩ := HXW.out _ hI.bel
  by_cases hin : i < n1
  · obtain ⟨u, hu, ho, hn⟩ := hI.row (i := i) (xs := []) (by rw [firstR_at hin, if_neg (by omega)])
    have hone : OwnI 3 (wi.alloc (.cells #[.int .i64 0] 3)) S (.slice (some ⟨wi.heap.size, 0, none⟩) 1 1) [0] := ⟨World.ownsRow_lit wi #[.int .i64 0] 1 hI.sz (by unfold maxLen; omega) rfl, fun y hy => by rw [List.mem_singleton] at hy; subst hy; unfold I64; omega⟩
    obtain ⟨e1, e2, e3⟩ := hn (.cells #[.int .i64 0] 3) (wi.alloc (.cells #[.int .i64 0] 3)) (.slice (some ⟨wi.heap.size, 0, none⟩) 1 1) 0 (by unfold I64; omega) hone.1 ⟨rfl, rfl, rfl, Nat.le_refl _, fun _ _ _ => rfl⟩ (.inr ⟨_, Nat.le_refl _, rfl⟩)
    rw [firstR_set hin] at e3
    have HE := Lib.hid e3
    have i1 : (i : Int) < (n1 : Int) := by omega
    clear hI hu ho hn hone e3
    go_wp2_with (fail)
    go_roundw
    case rel => exact ⟨i + 1, by omega, by simp, HE.out⟩
    case measure => simp [intOf]; omega
  · obtain rfl : n1 = i := by omega
    rw [firstR_all cs] at HI
    have HI2 := Lib.hid (show BrI w1 S n1 (.slice (some ⟨S, 0, none⟩) 1 1) (Vg.wordsB [] cs 0 0) (rowsB cs n1 0 0) wi by rw [Vg.wordsB_zero]; exact HI.out)
    clear hI HI HI0
    go_wp2_with (fail)
    clear k0 k1 k2 k3
    go_loopw [7] (fun kv wr => ∃ (k : Nat) (v : Value), k ≤ n3 ∧ kv = .int .i64 k ∧ BrI w1 S n1 v (Vg.wordsB [] cs k 0) (rowsB cs n1 k 0) wr) (fun kv _ => n3 - (intOf kv).toNat)
    case atStart => exact ⟨0, _, Nat.zero_le _, rfl, HI2.out⟩
    case round =>
     obtain ⟨wk, rfl⟩ : ∃ wk : World, wk = wr := ⟨_, rfl⟩
     obtain ⟨k, v, hk, rfl, hI⟩ := hrel
     have HI := Lib.hid hI
     obtain ⟨k0, k1, k2, k3⟩ := HXW.out _ hI.bel
     have hwl : (Vg.wordsB [] cs k 0).length ≤ 1000 := by
      have h1 := wordsB_len HRW.out [] k 0
      have h2 : k * n1 ≤ 24 * 32 := Nat.mul_le_mul (by omega) h32
      omega
     have hfb := Vg.firstB_len ([] : Str) cs k
     by_cases hkn : k < n3
     · obtain ⟨b, o, bc, oc, cc, rfl, gc0, hcl⟩ := HCO.out k hkn
       have HG0 := Lib.hid gc0
       have HCC := Lib.hid hcl
       have HAT := Lib.hid (HCA.out k hkn)
       obtain ⟨F, hF⟩ : ∃ F, Vg.firstB cs k = F := ⟨_, rfl⟩
       obtain ⟨av, cv, rfl, _⟩ := OwnS.cap hI.words (by omega)
       rw [hfb, hF] at HI hI
       rw [hfb, hF] at hwl
       have b0 := hI.box.cell (i := 0) (u := .slice av F cv) rfl
       have HF := Lib.hid hF
       have hcd : cs.getD k [] = optK x k := by simp [List.getD, HAT.out]
       have HCD := Lib.hid hcd
       have hk1 : (k : Int) < (n3 : Int) := by omega
       have HKN := Lib.hid hkn
       clear hI hcl hfb hF hcd gc0 hkn hk
       have gk := cell_keep (HBW.out _ HI.out.bel) HG0.out
       go_wp2_with (fail)
       clear b0 gk k0 k1 k2 k3
       go_loopw [9] (fun iv wr => ∃ (i : Nat) (v : Value), i ≤ n1 ∧ iv = .int .i64 i ∧ BrI w1 S n1 v (Vg.wordsB [] cs k i) (rowsB cs n1 k i) wr) (fun iv _ => n1 - (intOf iv).toNat)
       case atStart => exact ⟨0, _, Nat.zero_le _, rfl, HI.out⟩
       case round =>
        obtain ⟨wi, rfl⟩ : ∃ wi : World, wi = wr := ⟨_, rfl⟩
        obtain ⟨i, v, hi, rfl, hI⟩ := hrel
        have HI := Lib.hid hI
        have hbw := HBW.out _ hI.bel
        obtain ⟨k0, k1, k2, k3⟩ := HXW.out _ hI.bel
        by_cases hin : i < n1
        · obtain ⟨y, c0, hor⟩ := HCC.out i (by rw [HLS.out]; exact hin)
          have hce := HCE.out k i hin
          have i1 : (i : Int) < (n1 : Int) := by omega
          have d0 := cell_keep hbw c0
          have gk := cell_keep hbw HG0.out
          rcases hor with ⟨rfl, hno⟩ | ⟨mt, b5, o5, n5, c5, b6, o6, u, rfl, rfl, p1, p2, p3, p4, hno⟩
          · rw [hno] at hce
            have HW := Lib.hid (Vg.wordsB_gap ([] : Str) HAT.out hce)
            have HR := Lib.hid (rowsB_gap (n := n1) HAT.out hce)
            clear hI hbw c0 hce hno
            go_wp2_with (fail)
            go_roundw
            case rel => exact ⟨i + 1, v, by omega, by simp, by rw [HW.out, HR.out]; exact HI.out⟩
            case measure => simp [intOf]; omega
          · rw [hno] at hce
            obtain ⟨t1, t2⟩ := Vg.wordsB_text ([] : Str) HAT.out hce
            have hR0 := rowsB_text (n := n1) HAT.out hce
            have HSE := Lib.hid (fun a => @Vg.seek_end Str _ [] cs k i u a)
            have hFl := Vg.firstB_le ([] : Str) cs k i
            have hwl2 : (Vg.wordsB [] cs k i).length ≤ 1000 := by
             have h1 := wordsB_len HRW.out [] k i
             have h2 : k * n1 ≤ 24 * 32 := Nat.mul_le_mul (by have := HKN.out; omega) h32
             omega
            obtain ⟨us, hus⟩ : ∃ us, Vg.wordsB [] cs k i = us := ⟨_, rfl⟩
            obtain ⟨M, hM⟩ : ∃ M, us.length = M := ⟨_, rfl⟩
            have HM := Lib.hid hM
            rw [hus, HF.out, HCD.out, hM] at HSE
            rw [hus] at t1 t2 hFl hwl2 HI hI
            rw [hM, HF.out] at hFl
            rw [hM] at t2 hwl2
            obtain ⟨aw, cw, rfl, _⟩ := OwnS.cap hI.words (by omega)
            rw [hM] at HI hI
            obtain ⟨N, hN⟩ : ∃ N, nodeN cs k u = N := ⟨_, rfl⟩
            rw [hN] at hR0
            have HR := Lib.hid hR0
            have hN1 := nodeN_first cs k u
            rw [hN, HF.out, HCD.out] at hN1
            have HNL := Lib.hid (show N ≤ 100000 by
             rw [← hN]
             have h1 := nodeN_le HRW.out (by rw [HCL.out]; exact HKN.out) u
             have h2 : k * n1 ≤ 24 * 32 := Nat.mul_le_mul (by have := HKN.out; omega) h32
             omega)
            have HT1 := Lib.hid t1
            have HT2 := Lib.hid t2
            have HN1 := Lib.hid hN1
            have HFN := Lib.hid (show Vg.firstB cs k = 1 + (Vg.nodesL (cs.take k)).length from rfl)
            have HT := Lib.hid (fun W (hb : Below w.heap.size w W) => HTX.out b5 o5 n2 c2 (some ⟨b, o, none⟩) n3 c3 i mt b6 o6 n5 c5 u W (by rw [HN2.out]; exact hin) (cell_keep hb p1) p2 (cell_keep hb p4))
            have m0 : ¬((mt : Int) < 0) := by omega
            have HM1 := Lib.hid hwl2
            have HFL := Lib.hid hFl
            clear hI hbw c0 hce hno t1 t2 hR0 hN hN1 hus hM p1 p2 p3 p4 hwl2 hFl
            go_wp2_with (fail)
            clear k0 k1 k2 k3 d0 gk
            go_loopw [11, 12] (fun av nv W => ∃ (n : Nat) (a : Int), F ≤ n ∧ n ≤ M ∧ av = .int .i64 a ∧ nv = .int .i64 n ∧ Vg.SeekI us u F n a ∧ Below wi.heap.size wi W) (fun _ nv _ => M - (intOf nv).toNat)
            case atStart => exact ⟨F, -1, Nat.le_refl _, HFL.out, rfl, rfl, Vg.SeekI.zero _ _ _, Below.refl _ _⟩
            case round =>
             obtain ⟨wn, rfl⟩ : ∃ wn : World, wn = wr := ⟨_, rfl⟩
             obtain ⟨n, a, hFn, hn, rfl, rfl, hs, hb⟩ := hrel
             have HN := Lib.hid (HI.out.below hb)
             have HBN := Lib.hid hb
             have HSK := Lib.hid hs
             have HB0 := Lib.hid (HN.out.box.cell (i := 0) (u := .slice aw M cw) rfl)
             have b0 := HB0.out
             by_cases hnM : n < M
             · obtain ⟨aq, cq, heq, hsl, _⟩ := OwnS.cap HN.out.words (by rw [HM.out]; have := HM1.out; omega)
               rw [HM.out] at heq hsl
               cases heq
               obtain ⟨u', b7, o7, v7, hu', rfl, hc7, rfl⟩ := Sl.at hsl hnM
               have HC7 := Lib.hid (show wn.cell? ⟨b7, o7 + n, none⟩ = some (.string (bs u')) from hc7)
               have HXN := Lib.hid (HXW.out _ HN.out.bel)
               have HBWn := Lib.hid (HBW.out _ HN.out.bel)
               have i2 : (n : Int) < (M : Int) := by omega
               have HUU := Lib.hid hu'
               have HNM := Lib.hid hnM
               have hn9 : n ≤ 100000 := by have := HM1.out; omega
               have HFN2 := Lib.hid hFn
               have hq : ∃ q, (u' == u) = q := ⟨_, rfl⟩
               obtain ⟨q, hq⟩ := hq
               have HQ := Lib.hid hq
               clear hb hs hsl hc7 hu' hnM hn hFn
               go_wp2_with (fail)
               clear b0
               have HSX := Lib.hid (show Below wn.heap.size wn wn.drew from bdrewN _ 1)
               refine (wpIn_wide (n := 20)).1 ?_
               refine wpIn_region_planM (fun W' => Below wn.heap.size wn W') 10 (.take 0 <| .take 1 <| .take 2 <| .take 3 <| .take 4 <| .take 5 <| .take 6 <| .take 7 <| .one 8 <| .take 9 <| .fin) (fun _ => trivial) (by kernel_rfl) (by kernel_rfl) (bdrewN wn 1) ?_
               apply pm_take rfl rfl (by rfl)
               case hy =>
                rintro W' hb'
                clear hb'
                go_simp
                first | done | with_reducible rfl
               simp only [List.setIfInBounds_toArray, List.set_cons_zero, List.set_cons_succ]
               apply pm_take rfl rfl (by rfl)
               case hy =>
                rintro W' hb'
                have e0 := cell_keep hb' HB0.out
                have e1 := cell_keep hb' HC7.out
                obtain ⟨y0, y1, y2, y3⟩ := HXN.out.below hb'
                clear hb'
                go_simp
                first | done | with_reducible rfl
               simp only [List.setIfInBounds_toArray, List.set_cons_zero, List.set_cons_succ]
               iterate 2
                apply pm_take rfl rfl (by rfl)
                case hy =>
                 rintro W' hb'
                 clear hb'
                 go_simp
                 first | done | with_reducible rfl
                simp only [List.setIfInBounds_toArray, List.set_cons_zero, List.set_cons_succ]
               iterate 2
                apply pm_take rfl rfl (by rfl)
                case hy =>
                 rintro W' hb'
                 have e0 := cell_keep hb' HB0.out
                 have e1 := cell_keep hb' HC7.out
                 obtain ⟨y0, y1, y2, y3⟩ := HXN.out.below hb'
                 clear hb'
                 go_simp
                 first | done | with_reducible rfl
                simp only [List.setIfInBounds_toArray, List.set_cons_zero, List.set_cons_succ]
               iterate 2
                apply pm_take rfl rfl (by rfl)
                case hy =>
                 rintro W' hb'
                 clear hb'
                 go_simp
                 first | done | with_reducible rfl
                simp only [List.setIfInBounds_toArray, List.set_cons_zero, List.set_cons_succ]
               refine pm_one rfl ?_
               gi_wp2_with (fail)
               refine ⟨trivial, (callsIn_wide.2 (HT.out _ (bstep HBWn.out HSX.out))).mono ?_⟩
               rintro e W9 ⟨rfl, hb9⟩
               have HSX := Lib.hid (bstep HSX.out hb9)
               clear hb9
               gi_wp2_with (fail)
               refine ⟨fun _ => HSX.out, ?_⟩
               apply pm_take rfl rfl (by rfl)
               case hy =>
                rintro W' hb'
                clear hb'
                go_simp
                first | done | with_reducible rfl
               simp only [List.setIfInBounds_toArray, List.set_cons_zero, List.set_cons_succ]
               refine pm_fin ?_
               cases q
               case true =>
                have huu : u' = u := by exact beq_iff_eq.1 HQ.out
                have HHIT := Lib.hid (Vg.SeekI.hit (us := us) (u := u) HFN2.out (by rw [HUU.out, huu]))
                clear huu
                gi_wp2_with (fail)
                go_wp2_with (fail)
                go_roundw
                case rel => exact ⟨n + 1, n, by have := HFN2.out; omega, by have := HNM.out; omega, rfl, by simp, HHIT.out, bstep HBN.out HSX.out⟩
                case measure => have := HNM.out; simp [intOf]; omega
               case false =>
                have HMISS := Lib.hid (HSK.out.miss (by
                 rw [HUU.out]
                 intro e
                 have h1 := HQ.out
                 rw [Option.some.inj e] at h1
                 simp at h1))
                gi_wp2_with (fail)
                go_wp2_with (fail)
                go_roundw
                case rel => exact ⟨n + 1, a, by have := HFN2.out; omega, by have := HNM.out; omega, rfl, by simp, HMISS.out, bstep HBN.out HSX.out⟩
                case measure => have := HNM.out; simp [intOf]; omega
             · obtain rfl : M = n := by omega
               have HIX := Lib.hid (show I64 (N : Int) by have := HNL.out; unfold I64; omega)
               rcases HSE.out a hs with ⟨hm, ha⟩ | ⟨hm, ha⟩
               · obtain ⟨e1, e2⟩ := HT1.out hm
                 rw [← e2, ← HN1.out] at ha
                 subst ha
                 have HU := Lib.hid e1
                 have e3 : ¬((N : Int) < 0) := by omega
                 obtain ⟨wz, rfl⟩ : ∃ wz : World, wz = wn := ⟨_, rfl⟩
                 have HZ := HN
                 clear hb hs hm e1 e2 hFn hn hnM
                 obtain ⟨ur, hur, hor, hnr⟩ := HZ.out.row (i := i) (xs := Vg.pathB cs k i i) (rowsB_at hin)
                 have hpl := pathB_len cs k i i
                 obtain ⟨ar, cr, rfl, _⟩ := hor.ints (by omega)
                 have HOR := Lib.hid hor
                 have HNR := Lib.hid hnr
                 obtain ⟨pl, hp⟩ : ∃ p, (Vg.pathB cs k i i).length = p := ⟨_, rfl⟩
                 have HPL := Lib.hid hp
                 rw [hp] at hur hpl
                 have HOW := Lib.hid (show wz.ownsRow S 3 1 (.slice ar pl cr) pl ((Vg.pathB cs k i i).map (Value.int .i64)) by have := HOR.out.1; rw [hp] at this; exact this)
                 have hszx := HZ.out.sz
                 have hur2 := cell_keep (balloc wz (.cells #[.int .i64 (N : Int)] 3)) hur
                 clear hor hnr hp
                 go_wp2_with (at_builtin; refine wpList_append_own_at _ rfl _ _ 44 rfl S 3 i9 (.int .i64 0) 1 8 Tryz.underlying44 hi9 hy0 hy1 hy2 rfl (by decide) _ _ _ rfl (HOW.out.alloc _) ⟨wz.heap.size, 0, none⟩ 1 1 [.int .i64 (N : Int)] rfl rfl (cell_one_new _ _ _) (by simp [Value.oneCell']) (by unfold maxLen; omega) (by omega) (by simp; omega) ?_; intro v1 w4 hown1 hgrow1 _ hblk1; obtain ⟨e1, e2, e3⟩ := HNR.out _ w4 _ _ HIX.out (by rw [HPL.out]; exact hown1) (by rw [HPL.out]; exact hgrow1) (by rw [HPL.out]; exact hblk1.imp id fun h => ⟨_, by simp, h⟩); rw [HPL.out] at e1; obtain ⟨g', cap', rfl⟩ := ownsRow_succ hown1; have HE3 := Lib.hid e3; clear hown1 hgrow1 hblk1 e3)
                 go_roundw
                 case rel => exact ⟨i + 1, _, by omega, by simp, by rw [HU.out, ← HR.out]; exact HE3.out⟩
                 case measure => simp [intOf]; omega
               · subst ha
                 obtain ⟨e1, e2⟩ := HT2.out hm
                 have hNM : N = M := by
                  have h5 := HN1.out
                  have h6 := HF.out
                  have h7 := HFN.out
                  omega
                 subst hNM
                 have HU := Lib.hid e1
                 have HXN := Lib.hid (HXW.out _ HN.out.bel)
                 have HBWn := Lib.hid (HBW.out _ HN.out.bel)
                 clear hb hs hm e1 e2 hFn hn hnM
                 go_wp2_with (fail)
                 clear b0
                 have HSX := Lib.hid (show Below wn.heap.size wn wn.drew from bdrewN _ 1)
                 refine (wpIn_wide (n := 20)).1 ?_
                 refine wpIn_region_planM (fun W' => BlkK W' (S + 1) #[.slice aw N cw, .slice none 0 0] 31 ∧ BoxC W' w.heap.size x.sec a1 n1 c1 (some ⟨b5, o5, none⟩) n2 c2 (some ⟨b, o, none⟩) n3 c3) 7 (.take 0 <| .take 1 <| .take 2 <| .take 3 <| .take 4 <| .one 5 <| .one 6 <| .one 7 <| .one 8 <| .one 9 <| .fin) (fun _ => trivial) (by kernel_rfl) (by kernel_rfl) (⟨HN.out.box.below (bdrewN wn 1), HXN.out.below (bdrewN wn 1)⟩) ?_
                 apply pm_take rfl rfl (by rfl)
                 case hy =>
                  rintro W' hb'
                  clear hb'
                  go_simp
                  first | done | with_reducible rfl
                 simp only [List.setIfInBounds_toArray, List.set_cons_zero, List.set_cons_succ]
                 iterate 2
                  apply pm_take rfl rfl (by rfl)
                  case hy =>
                   rintro W' hb'
                   have x0 := hb'.1.cell (i := 0) (u := .slice aw N cw) rfl
                   obtain ⟨y0, y1, y2, y3⟩ := hb'.2
                   clear hb'
                   go_simp
                   first | done | with_reducible rfl
                  simp only [List.setIfInBounds_toArray, List.set_cons_zero, List.set_cons_succ]
                 iterate 2
                  apply pm_take rfl rfl (by rfl)
                  case hy =>
                   rintro W' hb'
                   clear hb'
                   go_simp
                   first | done | with_reducible rfl
                  simp only [List.setIfInBounds_toArray, List.set_cons_zero, List.set_cons_succ]
                 refine pm_one rfl ?_
                 gi_wp2_with (fail)
                 refine ⟨trivial, (callsIn_wide.2 (HT.out _ (bstep HBWn.out HSX.out))).mono ?_⟩
                 rintro e W9 ⟨rfl, hb9⟩
                 have HQ := Lib.hid (HN.out.below (bstep (bdrewN wn 1) hb9))
                 have HXQ := Lib.hid (HXN.out.below (bstep (bdrewN wn 1) hb9))
                 clear hb9
                 gi_wp2_with (fail)
                 refine ⟨fun _ => ⟨HQ.out.box, HXQ.out⟩, ?_⟩
                 refine pm_one rfl ?_
                 gi_wp2_with (fail)
                 refine ⟨fun _ => ⟨HQ.out.box.below (balloc _ _), HXQ.out.below (balloc _ _)⟩, ?_⟩
                 have hszq := HQ.out.sz
                 refine pm_one rfl ?_
                 refine wpListIn_append_own _ rfl _ _ 22 rfl S 9 i0 (.string { data := #[] }) 1 16 Tryz.underlying22 hi0 hz0 hz1 hz2 rfl (by decide) _ _ _ rfl (World.ownsRow.alloc HQ.out.words _) ⟨W9.heap.size, 0, none⟩ 1 1 [.string (bs u)] rfl rfl (cell_one_new _ _ _) (by simp [Value.oneCell']) (by rw [HM.out]; have := HM1.out; unfold maxLen; omega) (by rw [HM.out]; have := HM1.out; omega) (by simp; omega) ?_
                 intro vw w6 hown1 hgrow1 _
                 obtain ⟨q1, q2⟩ := HQ.out.word (us' := us ++ [u]) hgrow1 (by unfold OwnS; simpa [sv] using hown1)
                 rw [HM.out] at hown1
                 obtain ⟨gw, cw2, rfl⟩ := ownsRow_succ hown1
                 have HZ := Lib.hid q2
                 have cx := q1.cell (i := 0) (u := .slice aw N cw) rfl
                 have fx := q1.hard (i := 0)
                 clear hown1 hgrow1 q1 q2
                 gi_wp2_with (fail)
                 refine ⟨fun h => absurd h (by omega), ?_⟩
                 iterate 2
                  refine pm_one rfl ?_
                  gi_wp2_with (fail)
                  refine ⟨fun h => absurd h (by omega), ?_⟩
                 refine pm_fin ?_
                 gi_wp2_with (fail)
                 clear cx fx
                 obtain ⟨wz, hwz⟩ : ∃ wz, w6.setCell ⟨S + 1, 0, none⟩ (.slice (some ⟨gw, 0, none⟩) (N + 1) cw2) = wz := ⟨_, rfl⟩
                 rw [hwz] at HZ ⊢
                 clear hwz
                 obtain ⟨ur, hur, hor, hnr⟩ := HZ.out.row (i := i) (xs := Vg.pathB cs k i i) (rowsB_at hin)
                 have hpl := pathB_len cs k i i
                 obtain ⟨ar, cr, rfl, _⟩ := hor.ints (by omega)
                 have HOR := Lib.hid hor
                 have HNR := Lib.hid hnr
                 obtain ⟨pl, hp⟩ : ∃ p, (Vg.pathB cs k i i).length = p := ⟨_, rfl⟩
                 have HPL := Lib.hid hp
                 rw [hp] at hur hpl
                 have HOW := Lib.hid (show wz.ownsRow S 3 1 (.slice ar pl cr) pl ((Vg.pathB cs k i i).map (Value.int .i64)) by have := HOR.out.1; rw [hp] at this; exact this)
                 have hszx := HZ.out.sz
                 have hur2 := cell_keep (balloc wz (.cells #[.int .i64 (N : Int)] 3)) hur
                 clear hor hnr hp
                 go_wp2_with (at_builtin; refine wpList_append_own_at _ rfl _ _ 44 rfl S 3 i9 (.int .i64 0) 1 8 Tryz.underlying44 hi9 hy0 hy1 hy2 rfl (by decide) _ _ _ rfl (HOW.out.alloc _) ⟨wz.heap.size, 0, none⟩ 1 1 [.int .i64 (N : Int)] rfl rfl (cell_one_new _ _ _) (by simp [Value.oneCell']) (by unfold maxLen; omega) (by omega) (by simp; omega) ?_; intro v1 w4 hown1 hgrow1 _ hblk1; obtain ⟨e1, e2, e3⟩ := HNR.out _ w4 _ _ HIX.out (by rw [HPL.out]; exact hown1) (by rw [HPL.out]; exact hgrow1) (by rw [HPL.out]; exact hblk1.imp id fun h => ⟨_, by simp, h⟩); rw [HPL.out] at e1; obtain ⟨g', cap', rfl⟩ := ownsRow_succ hown1; have HE3 := Lib.hid e3; clear hown1 hgrow1 hblk1 e3)
                 go_roundw
                 case rel => exact ⟨i + 1, _, by omega, by simp, by rw [HU.out, ← HR.out]; exact HE3.out⟩
                 case measure => simp [intOf]; omega
        · obtain rfl : n1 = i := by omega
          have HW := Lib.hid (show Vg.wordsB [] cs k n1 = Vg.wordsB [] cs (k + 1) 0 by
           have := Vg.wordsB_col ([] : Str) HAT.out
           rwa [HKL.out] at this)
          have HR := Lib.hid (rowsB_col HAT.out (HKL.out k))
          rw [HW.out, HR.out] at HI
          clear hI hbw
          go_wp2_with (fail)
          go_roundw
          case rel => exact ⟨k + 1, v, by have := HKN.out; omega, by simp, HI.out⟩
          case measure => have := HKN.out; simp [intOf]; omega
     · obtain rfl : n3 = k := by omega
       obtain ⟨wl, hwl2⟩ : ∃ l, (Vg.wordsB [] cs n3 0) = l := ⟨_, rfl⟩
       have HWE := Lib.hid (show wl ++ [[]] = Vg.wordsL [] cs by rw [← hwl2, ← HCL.out]; exact Vg.wordsB_end _ _)
       rw [hwl2] at HI hI hwl
       obtain ⟨aw, cw, rfl, _⟩ := OwnS.cap hI.words (by omega)
       obtain ⟨nw, hnw⟩ : ∃ n, wl.length = n := ⟨_, rfl⟩
       rw [hnw] at HI hI hwl
       have HNW := Lib.hid hnw
       have b0 := hI.box.cell (i := 0) (u := .slice aw nw cw) rfl
       have b1 := cell_keep (balloc wk (.cells #[.string { data := #[] }] 9)) b0
       have hszk := hI.sz
       clear hI hfb hkn hk hwl2 hnw
       go_wp2_with (at_builtin; refine wpList_append_own _ rfl _ _ 22 rfl S 9 i0 (.string { data := #[] }) 1 16 Tryz.underlying22 hi0 hz0 hz1 hz2 rfl (by decide) _ _ _ rfl (World.ownsRow.alloc HI.out.words _) ⟨wk.heap.size, 0, none⟩ 1 1 [.string { data := #[] }] rfl rfl (cell_one_new _ _ _) (by simp [Value.oneCell']) (by rw [HNW.out]; unfold maxLen; omega) (by rw [HNW.out]; omega) (by simp; omega) ?_; intro vw w6 hown1 hgrow1 _; obtain ⟨q1, q2⟩ := HI.out.word (us' := wl ++ [[]]) hgrow1 (by unfold OwnS; simpa [sv, bs] using hown1); rw [HNW.out] at hown1; obtain ⟨gw, cw2, rfl⟩ := ownsRow_succ hown1; have cx := q1.cell (i := 0) (u := .slice aw nw cw) rfl; have fx := q1.hard (i := 0); have cy := q2.box.cell (i := 0) (u := .slice (some ⟨gw, 0, none⟩) (nw + 1) cw2) rfl; have HQ2 := Lib.hid q2; clear hown1 hgrow1 q1 q2)
       clear b0 b1 k0 k1 k2 k3
       obtain ⟨wq, hwq⟩ : ∃ wq, w6.setCell ⟨S + 1, 0, none⟩ (.slice (some ⟨gw, 0, none⟩) (nw + 1) cw2) = wq := ⟨_, rfl⟩
       rw [hwq] at HQ2 cy ⊢
       clear hwq cx fx
       rw [HWE.out] at HQ2
       obtain ⟨uw, huw⟩ : ∃ us, Vg.wordsL [] cs = us := ⟨_, rfl⟩
       have HUW := Lib.hid huw
       have HUL := Lib.hid (show uw.length = nw + 1 by
        have h1 := congrArg List.length HWE.out
        rw [huw, List.length_append, HNW.out] at h1
        simp at h1
        omega)
       have HEN := Lib.hid (show (nw : Int) = Vg.endN cs by
        have h1 := congrArg List.length HWE.out
        rw [List.length_append, HNW.out] at h1
        unfold Vg.wordsL at h1
        unfold Vg.endN
        simp at h1
        omega)
       rw [huw, ← rowsE_zero cs] at HQ2
       have HFP := Lib.hid (show ∀ s, Vg.pathB cs n3 0 s ++ [(nw : Int)] = Vg.fullP cs s from fun s => by rw [HEN.out, ← HCL.out]; exact Vg.pathB_end cs s)
       have HIX := Lib.hid (show I64 (nw : Int) by unfold I64; omega)
       have z4 : ¬((4096 : Int) < (nw : Int) + 1) := by omega
       clear huw
       go_wp2_with (fail)
       clear cy z4
       go_loopw [14] (fun sv wr => ∃ s : Nat, s ≤ n1 ∧ sv = .int .i64 s ∧ BrI w1 S n1 (.slice (some ⟨gw, 0, none⟩) (nw + 1) cw2) uw (rowsE cs n1 n3 s) wr) (fun sv _ => n1 - (intOf sv).toNat)
       case atStart => exact ⟨0, Nat.zero_le _, rfl, HQ2.out⟩
       case round =>
        obtain ⟨wz, rfl⟩ : ∃ wz : World, wz = wr := ⟨_, rfl⟩
        obtain ⟨s, hs, rfl, hI⟩ := hrel
        have HZ := Lib.hid hI
        by_cases hsn : s < n1
        · obtain ⟨ur, hur, hor, hnr⟩ := HZ.out.row (i := s) (xs := Vg.pathB cs n3 0 s) (by rw [rowsE_at hsn, if_neg (Nat.lt_irrefl _)])
          have hpl := pathB_len cs n3 0 s
          obtain ⟨ar, cr, rfl, _⟩ := hor.ints (by omega)
          have HOR := Lib.hid hor
          have HNR := Lib.hid hnr
          have HR := Lib.hid (rowsE_set (n := n1) (HFP.out s))
          obtain ⟨pl, hp⟩ : ∃ p, (Vg.pathB cs n3 0 s).length = p := ⟨_, rfl⟩
          have HPL := Lib.hid hp
          rw [hp] at hur hpl
          have HOW := Lib.hid (show wz.ownsRow S 3 1 (.slice ar pl cr) pl ((Vg.pathB cs n3 0 s).map (Value.int .i64)) by have := HOR.out.1; rw [hp] at this; exact this)
          have hszx := HZ.out.sz
          have hur2 := cell_keep (balloc wz (.cells #[.int .i64 (nw : Int)] 3)) hur
          have i1 : (s : Int) < (n1 : Int) := by omega
          clear hor hnr hp hI
          go_wp2_with (at_builtin; refine wpList_append_own_at _ rfl _ _ 44 rfl S 3 i9 (.int .i64 0) 1 8 Tryz.underlying44 hi9 hy0 hy1 hy2 rfl (by decide) _ _ _ rfl (HOW.out.alloc _) ⟨wz.heap.size, 0, none⟩ 1 1 [.int .i64 (nw : Int)] rfl rfl (cell_one_new _ _ _) (by simp [Value.oneCell']) (by unfold maxLen; omega) (by omega) (by simp; omega) ?_; intro v1 w4 hown1 hgrow1 _ hblk1; obtain ⟨e1, e2, e3⟩ := HNR.out _ w4 _ _ HIX.out (by rw [HPL.out]; exact hown1) (by rw [HPL.out]; exact hgrow1) (by rw [HPL.out]; exact hblk1.imp id fun h => ⟨_, by simp, h⟩); rw [HPL.out] at e1; obtain ⟨g', cap', rfl⟩ := ownsRow_succ hown1; have HE3 := Lib.hid e3; clear hown1 hgrow1 hblk1 e3)
          go_roundw
          case rel => exact ⟨s + 1, by omega, by simp, by rw [← HR.out]; exact HE3.out⟩
          case measure => simp [intOf]; omega
        · obtain rfl : n1 = s := by omega
          rw [rowsE_all] at hI
          obtain ⟨ps, hps⟩ : ∃ ps, Vg.pathsC cs n1 = ps := ⟨_, rfl⟩
          rw [hps] at hI
          have HA0 := Lib.hid (BrA.new hI)
          have HPS := Lib.hid hps
          have HPA := Lib.hid (show ∀ s, s < n1 → ps[s]? = some (Vg.fullP cs s) from fun s hs => by rw [← hps]; exact Vg.pathsC_at hs)
          have HPN := Lib.hid (show ps.length = n1 by rw [← hps]; simp [Vg.pathsC])
          have HPM := Lib.hid (show ∀ l ∈ ps, l.length ≤ n3 + 2 from fun l hl => by
           rw [← hps] at hl
           unfold Vg.pathsC at hl
           obtain ⟨s, _, rfl⟩ := List.mem_map.1 hl
           have := fullP_len cs s
           rw [HCL.out] at this
           exact this)
          obtain ⟨B, hB⟩ : ∃ B, wz.heap.size = B := ⟨_, rfl⟩
          rw [hB] at HA0
          clear hI hps hB HZ HQ2 hsn hs
          go_wp2_with (fail)
          go_loopw [15] (fun fv wr => ∃ (f : Nat) (v2 : Value), f ≤ nw + 1 ∧ fv = .int .i64 f ∧ BrA w1 S n1 B (.slice (some ⟨gw, 0, none⟩) (nw + 1) cw2) uw ps v2 (Vg.gridR (nw + 1) ps f 0) wr) (fun fv _ => nw + 1 - (intOf fv).toNat)
          case atStart => exact ⟨0, _, Nat.zero_le _, rfl, HA0.out⟩
          case round =>
           obtain ⟨wf, rfl⟩ : ∃ wf : World, wf = wr := ⟨_, rfl⟩
           obtain ⟨f, v2, hf, rfl, hA⟩ := hrel
           have HA := Lib.hid hA
           have b0 := hA.box.cell (i := 0) (u := .slice (some ⟨gw, 0, none⟩) (nw + 1) cw2) rfl
           by_cases hfn : f < nw + 1
           · have i1 : (f : Int) < (nw : Int) + 1 := by omega
             have i2 : (f : Int) < ((nw + 1 : Nat) : Int) := by omega
             have HFN1 := Lib.hid hfn
             clear hA hf hfn
             go_wp2_with (fail)
             clear b0 i1 i2
             go_loopw [16] (fun tv wr => ∃ (t : Nat) (v2 : Value), f + 1 ≤ t ∧ t ≤ nw + 1 ∧ tv = .int .i64 t ∧ BrA w1 S n1 B (.slice (some ⟨gw, 0, none⟩) (nw + 1) cw2) uw ps v2 (Vg.gridR (nw + 1) ps f t) wr) (fun tv _ => nw + 1 - (intOf tv).toNat)
             case atStart => exact ⟨f + 1, v2, Nat.le_refl _, HFN1.out, by simp, by rw [Vg.gridR_skip (f + 1) (Nat.le_refl _)]; exact HA.out⟩
             case round =>
              obtain ⟨wt, rfl⟩ : ∃ wt : World, wt = wr := ⟨_, rfl⟩
              obtain ⟨t, v2, hft, ht, rfl, hA⟩ := hrel
              have HA := Lib.hid hA
              have b0 := hA.box.cell (i := 0) (u := .slice (some ⟨gw, 0, none⟩) (nw + 1) cw2) rfl
              by_cases htn : t < nw + 1
              · have i1 : (t : Int) < (nw : Int) + 1 := by omega
                have i2 : (t : Int) < ((nw + 1 : Nat) : Int) := by omega
                have HTN := Lib.hid htn
                have HFT := Lib.hid hft
                have hO := OwnI.empty wt (Nat.le_refl _)
                obtain ⟨T, hT⟩ : ∃ T, wt.heap.size = T := ⟨_, rfl⟩
                rw [hT] at hO
                have HTT := Lib.hid hT
                have HO0 := Lib.hid hO
                have HBB := Lib.hid (balloc wt (.cells #[] 3))
                rw [HTT.out] at HBB
                have HZT := Lib.hid (show T ≤ (wt.alloc (.cells #[] 3)).heap.size by simp; omega)
                clear hA ht htn hft hO
                go_wp2_with (fail)
                try rw [hT]
                clear b0 i1 i2 hT
                go_loopw [17, 18] (fun sv kv W => ∃ s : Nat, s ≤ n1 ∧ kv = .int .i64 s ∧ OwnI 3 W T sv (Vg.srcK ps f t s 0) ∧ Below T wt W ∧ T ≤ W.heap.size) (fun _ kv _ => n1 - (intOf kv).toNat)
                case atStart => exact ⟨0, Nat.zero_le _, rfl, HO0.out, HBB.out, HZT.out⟩
                case round =>
                 obtain ⟨ws, rfl⟩ : ∃ ws : World, ws = wr := ⟨_, rfl⟩
                 obtain ⟨s, hs, rfl, ho, hb, hsz⟩ := hrel
                 have HO := Lib.hid ho
                 have HBS := Lib.hid hb
                 have HSZ := Lib.hid hsz
                 by_cases hsn : s < n1
                 · have i1 : (s : Int) < (n1 : Int) := by omega
                   have HPAS := Lib.hid (HPA.out s hsn)
                   obtain ⟨fp, hfp⟩ : ∃ fp, Vg.fullP cs s = fp := ⟨_, rfl⟩
                   rw [hfp] at HPAS
                   have hfl : 1 ≤ fp.length := by rw [← hfp]; unfold Vg.fullP; simp
                   obtain ⟨ln, hln⟩ : ∃ n, fp.length = n := ⟨_, rfl⟩
                   have HLN := Lib.hid hln
                   rw [hln] at hfl
                   have HL1 := Lib.hid hfl
                   have HSN := Lib.hid hsn
                   have HLM := Lib.hid (show ln ≤ 26 by have := HPM.out fp (List.mem_of_getElem? HPAS.out); omega)
                   clear ho hb hsz hs hsn hfp hln hfl
                   go_wp2_with (fail)
                   go_loopw [17, 19] (fun sv iv W => ∃ i k : Nat, k = i + 1 ∧ k ≤ ln ∧ iv = .int .i64 k ∧ OwnI 3 W T sv (Vg.srcK ps f t s i) ∧ Below T wt W ∧ T ≤ W.heap.size) (fun _ iv _ => ln - (intOf iv).toNat)
                   case atStart => exact ⟨0, 1, rfl, HL1.out, rfl, HO.out, HBS.out, HSZ.out⟩
                   case round =>
                    obtain ⟨wj, rfl⟩ : ∃ wj : World, wj = wr := ⟨_, rfl⟩
                    obtain ⟨i, k, hki, hk, rfl, ho, hb, hsz⟩ := hrel
                    have HO := Lib.hid ho
                    have HBJ := Lib.hid hb
                    have HSZJ := Lib.hid hsz
                    have HKI := Lib.hid hki
                    obtain ⟨ap, cp, h0, hI⟩ := (HA.out.below (by rw [HTT.out]; exact hb)).at HPAS.out (by rw [HLN.out]; have := HLM.out; omega)
                    rw [HLN.out] at h0 hI
                    have i4 : (s : Int) < (n1 : Int) := by have := HSN.out; omega
                    by_cases hkl : k < ln
                    · obtain ⟨p0, hp0⟩ : ∃ p0, fp[i]? = some p0 := ⟨_, List.getElem?_eq_getElem (by rw [HLN.out]; omega)⟩
                      obtain ⟨q0, hq0⟩ : ∃ q0, fp[k]? = some q0 := ⟨_, List.getElem?_eq_getElem (by rw [HLN.out]; omega)⟩
                      obtain ⟨b8, o8, v8, rfl, c8, rfl, _⟩ := hI.cells i p0 hp0
                      obtain ⟨b9, o9, v9, he9, c9, rfl, _⟩ := hI.cells k q0 hq0
                      cases he9
                      have HST := Lib.hid (@Vg.srcK_step ps f t s i (p0, q0) (by
                       have h1 : ps.getD s [] = fp := by simp [List.getD, HPAS.out]
                       rw [h1]
                       exact Vg.consec_at hp0 (by rw [← hki]; exact hq0)))
                      have hw1 : IntKind.i64.wrap ((k : Int) - 1) = (i : Int) := by rw [IntWalk.i64_in _ (by have := HLM.out; omega)]; omega
                      have i1 : (k : Int) < (ln : Int) := by omega
                      have i3 : (i : Int) < (ln : Int) := by omega
                      have hk9 : k ≤ 100000 := by have := HLM.out; omega
                      have HKL := Lib.hid hkl
                      obtain ⟨e1, he1⟩ : ∃ q, (p0 == (f : Int)) = q := ⟨_, rfl⟩
                      obtain ⟨e2, he2⟩ : ∃ q, (q0 == (t : Int)) = q := ⟨_, rfl⟩
                      have HE1 := Lib.hid he1
                      have HE2 := Lib.hid he2
                      clear ho hb hsz hI hkl hp0 hq0 hki hk
                      by_cases he : e1 = true ∧ e2 = true
                      · obtain ⟨rfl, rfl⟩ := he
                        have hx1 := HE1.out
                        have hx2 := HE2.out
                        rw [beq_iff_eq] at hx1 hx2
                        have hst := HST.out
                        rw [if_pos (by rw [hx1, hx2])] at hst
                        have HS2 := Lib.hid hst
                        clear hst hx1 hx2
                        obtain ⟨ars, cs', rfl, _⟩ := HO.out.ints (by
                         have h1 := @Vg.srcK_len ps f t s i _ HPM.out
                         have h2 := HSN.out
                         have h3 : (s + 1) * (n3 + 2) ≤ 32 * 26 := Nat.mul_le_mul (by omega) (by omega)
                         omega)
                        obtain ⟨ms, hms⟩ : ∃ m, (Vg.srcK ps f t s i).length = m := ⟨_, rfl⟩
                        have HMS := Lib.hid hms
                        have hms2 : ms ≤ 1000 := by
                         rw [← hms]
                         have h1 := @Vg.srcK_len ps f t s i _ HPM.out
                         have h2 := HSN.out
                         have h3 : (s + 1) * (n3 + 2) ≤ 32 * 26 := Nat.mul_le_mul (by omega) (by omega)
                         omega
                        have HOW := Lib.hid (show wj.ownsRow T 3 1 (.slice ars ms cs') ms ((Vg.srcK ps f t s i).map (Value.int .i64)) by have := HO.out.1; rw [hms] at this; exact this)
                        have HIS := Lib.hid (show I64 (s : Int) by have := HSN.out; unfold I64; omega)
                        have hszj := HSZJ.out
                        rw [hms]
                        clear hms
                        go_wp2_with (at_builtin; refine wpList_append_own _ rfl _ _ 44 rfl T 3 i9 (.int .i64 0) 1 8 Tryz.underlying44 hi9 hy0 hy1 hy2 rfl (by decide) _ _ _ rfl (HOW.out.alloc _) ⟨wj.heap.size, 0, none⟩ 1 1 [.int .i64 (s : Int)] rfl rfl (cell_one_new _ _ _) (by simp [Value.oneCell']) (by unfold maxLen; omega) (by omega) (by simp; omega) ?_; intro v1 w4 hown1 hgrow1 _; obtain ⟨q1, q2⟩ := HO.out.pushed HIS.out HSZJ.out (by rw [HMS.out]; exact hown1) (by rw [HMS.out]; exact hgrow1); have HQ1 := Lib.hid q1; have HQ2 := Lib.hid q2; clear hown1 hgrow1 q1 q2)
                        go_roundw
                        case rel => exact ⟨i + 1, k + 1, by have := HKI.out; omega, by have := HKL.out; omega, by simp, by rw [HS2.out]; exact HQ1.out, HBJ.out.trans HQ2.out, by have := HQ2.out.size; omega⟩
                        case measure => have := HKL.out; simp [intOf]; omega
                      · have hst := HST.out
                        rw [if_neg (fun h => he ⟨by rw [← HE1.out, beq_iff_eq]; exact (Prod.mk.inj h).1, by rw [← HE2.out, beq_iff_eq]; exact (Prod.mk.inj h).2⟩), List.append_nil] at hst
                        have HS2 := Lib.hid hst
                        clear hst
                        cases e1
                        case false =>
                         clear he2 he
                         go_wp2_with (fail)
                         go_roundw
                         case rel => exact ⟨i + 1, k + 1, by have := HKI.out; omega, by have := HKL.out; omega, by simp, by rw [HS2.out]; exact HO.out, HBJ.out, HSZJ.out⟩
                         case measure => have := HKL.out; simp [intOf]; omega
                        case true =>
                         obtain rfl : e2 = false := by cases e2 <;> simp_all
                         clear he
                         go_wp2_with (fail)
                         go_roundw
                         case rel => exact ⟨i + 1, k + 1, by have := HKI.out; omega, by have := HKL.out; omega, by simp, by rw [HS2.out]; exact HO.out, HBJ.out, HSZJ.out⟩
                         case measure => have := HKL.out; simp [intOf]; omega
                    · obtain rfl : ln = k := by omega
                      have HRW2 := Lib.hid (@Vg.srcK_row ps f t s i (by
                       have h1 : ps.getD s [] = fp := by simp [List.getD, HPAS.out]
                       rw [h1, Vg.consec_len, HLN.out]
                       omega))
                      rw [HRW2.out] at HO
                      have hs9 : s ≤ 100000 := by have := HSN.out; omega
                      clear ho hb hsz hI hkl hk hki
                      go_wp2_with (fail)
                      go_roundw
                      case rel => exact ⟨s + 1, by have := HSN.out; omega, by simp, HO.out, HBJ.out, HSZJ.out⟩
                      case measure => have := HSN.out; simp [intOf]; omega
                 · obtain rfl : n1 = s := by omega
                   have hse := @Vg.srcK_end ps f t
                   rw [HPN.out] at hse
                   rw [hse] at HO
                   have HAS := Lib.hid (HA.out.below (by rw [HTT.out]; exact hb))
                   have hrl : (Vg.srcR ps f t).length ≤ 100000 := by
                    rw [← hse]
                    have h1 := @Vg.srcK_len ps f t n1 0 _ HPM.out
                    have h3 : (n1 + 1) * (n3 + 2) ≤ 33 * 26 := Nat.mul_le_mul (by omega) (by omega)
                    omega
                   have HST := Lib.hid (@Vg.gridR_step ps f t (nw + 1))
                   have hgl := @Vg.gridR_len ps f t (nw + 1)
                   have hgl2 : (Vg.gridR (nw + 1) ps f t).length ≤ 100000000 := by
                    have h1 := HFN1.out
                    have h2 : f * (nw + 1) ≤ 1000 * 1001 := Nat.mul_le_mul (by omega) (by omega)
                    have h3 := HTN.out
                    omega
                   obtain ⟨ars, cs', rfl, _⟩ := HO.out.ints (by omega)
                   obtain ⟨sr, hsr⟩ : ∃ l, Vg.srcR ps f t = l := ⟨_, rfl⟩
                   have HSR := Lib.hid hsr
                   rw [hsr] at HO hrl ⊢
                   obtain ⟨ms, hms⟩ : ∃ m, sr.length = m := ⟨_, rfl⟩
                   rw [hms] at HO hrl ⊢
                   have HMS := Lib.hid hms
                   have HRL := Lib.hid hrl
                   have HGL := Lib.hid hgl2
                   have ht9 : t ≤ 100000 := by have := HTN.out; omega
                   by_cases hm0 : 0 < ms
                   · have z0 : (0 : Int) < (ms : Int) := by omega
                     have HGR := Lib.hid (show Vg.gR ps f t = [(((f : Int), (t : Int)), sr)] by
                      unfold Vg.gR
                      rw [if_pos ⟨by have := HFT.out; omega, by rw [HSR.out]; intro e; rw [e] at hms; simp at hms; omega⟩, HSR.out])
                     have hsz2 := HSZ.out
                     have HOB := Lib.hid (HO.out.mono (show B ≤ T by rw [← HTT.out]; exact HA.out.sz))
                     obtain ⟨a4, c4, he4, _⟩ := HAS.out.arcs.gives (by omega)
                     subst he4
                     obtain ⟨m4, hm4⟩ : ∃ m, (Vg.gridR (nw + 1) ps f t).length = m := ⟨_, rfl⟩
                     obtain ⟨xs, hx4, hpush⟩ := HAS.out.push HOB.out (show I64 (f : Int) by have := HFN1.out; unfold I64; omega) (show I64 (t : Int) by have := HTN.out; unfold I64; omega) (by rw [hms]; omega) (.cells #[.int .i64 (f : Int), .int .i64 (t : Int), .slice ars ms cs'] 48)
                     rw [hm4] at hx4 hpush hgl2 HAS
                     have HROW := Lib.hid hx4
                     have HPUSH := Lib.hid hpush
                     have hbz := HAS.out.sz
                     have b0 := HAS.out.box.cell (i := 1) (u := .slice a4 m4 c4) rfl
                     have b1 := cell_keep (balloc ws (.cells #[.int .i64 (f : Int), .int .i64 (t : Int), .slice ars ms cs'] 48)) b0
                     have HNW2 := Lib.hid (show ∀ (j : Nat) (u : Value), [.int .i64 (f : Int), .int .i64 (t : Int), .slice ars ms cs'][j]? = some u → (ws.alloc (.cells #[.int .i64 (f : Int), .int .i64 (t : Int), .slice ars ms cs'] 48)).cell? ((⟨ws.heap.size, 0, none⟩ : Addr).add j) = some u from World.news_of_block (cs := #[.int .i64 (f : Int), .int .i64 (t : Int), .slice ars ms cs']) (heap_fresh rfl))
                     clear ho hb hsz hs hsn hse hgl hx4 hpush hms hsr hm4
                     go_wp2_with (at_builtin; refine wpList_append_own _ rfl _ _ 29 rfl B 48 iA (.agg #[.int .i64 0, .int .i64 0, .slice none 0 0]) 3 40 Tryz.underlying29 hiA hx0 hx1 hx2 rfl (by decide) _ _ _ rfl (HROW.out.alloc _) ⟨ws.heap.size, 0, none⟩ 1 1 [.int .i64 (f : Int), .int .i64 (t : Int), .slice ars ms cs'] rfl rfl HNW2.out (by simp [Value.oneCell']) (by unfold maxLen; omega) (by omega) (by simp; omega) ?_; intro v' w9 hown hgrow _; obtain ⟨g1, cap1, rfl⟩ := ownsRow_succ hown; obtain ⟨q1, q2⟩ := HPUSH.out _ _ hown hgrow; have HQ2 := Lib.hid q2; have cx := q1.cell (i := 1) (u := .slice a4 m4 c4) rfl; have fx := q1.hard (i := 1); clear hown hgrow q1 q2)
                     go_roundw
                     case rel => exact ⟨t + 1, _, by have := HFT.out; omega, by have := HTN.out; omega, by simp, by rw [HST.out, HGR.out]; exact HQ2.out⟩
                     case measure => have := HTN.out; simp [intOf]; omega
                   · have z0 : ¬((0 : Int) < (ms : Int)) := by omega
                     have HGR := Lib.hid (show Vg.gR ps f t = [] by
                      unfold Vg.gR
                      rw [if_neg (fun h => h.2 (by rw [HSR.out]; exact List.eq_nil_of_length_eq_zero (by omega)))])
                     clear ho hb hsz hs hsn hse hgl hms hsr
                     go_wp2_with (fail)
                     go_roundw
                     case rel => exact ⟨t + 1, v2, by have := HFT.out; omega, by have := HTN.out; omega, by simp, by rw [HST.out, HGR.out, List.append_nil]; exact HAS.out⟩
                     case measure => have := HTN.out; simp [intOf]; omega
              · obtain rfl : nw + 1 = t := by omega
                rw [Vg.gridR_col] at HA
                clear hA
                go_wp2_with (fail)
                go_roundw
                case rel => exact ⟨f + 1, v2, HFN1.out, by simp, HA.out⟩
                case measure => have := HFN1.out; simp [intOf]; omega
           · obtain rfl : nw + 1 = f := by omega
             have hge := @Vg.gridR_end ps (nw + 1)
             have hgx : Vg.arcsR (nw + 1) ps = Vg.arcsG cs n1 := by
              have := Vg.arcsG_ref cs n1 ([] : Str)
              rwa [HPS.out, HUW.out, HUL.out] at this
             rw [hge, hgx] at hA
             have hgl : (Vg.arcsG cs n1).length ≤ 100000000 := by
              rw [← hgx, ← hge]
              have h1 := @Vg.gridR_len ps (nw + 1) 0 (nw + 1)
              have h2 : (nw + 1) * (nw + 1) ≤ 1001 * 1001 := Nat.mul_le_mul (by omega) (by omega)
              omega
             obtain ⟨a9, c9, he9, _⟩ := hA.arcs.gives (by omega)
             subst he9
             have HAF := Lib.hid hA
             obtain ⟨m9, hm9⟩ : ∃ m, (Vg.arcsG cs n1).length = m := ⟨_, rfl⟩
             have HM9 := Lib.hid hm9
             rw [hm9] at HAF
             have b1 := HAF.out.box.cell (i := 1) (u := .slice a9 m9 c9) rfl
             have HRS9 := Lib.hid (HR1.out.far (show Below S w1 wf from hA.bel) HSW.out)
             have f0 := BlkK.hard (i := 0) HRS9.out
             have g0 := HRS9.out.cell (i := 0) rfl
             have f1 := BlkK.hard (i := 1) HRS9.out
             have g1 := HRS9.out.cell (i := 1) rfl
             have HGL := Lib.hid hgl
             clear hA hf hfn hge hgx hm9 hgl HA
             go_wp2_with (fail)
             clear f0 f1 g0 g1 b0 b1
             obtain ⟨WS, hWS, hbs, hgs⟩ := store2 HRS9.out (.slice (some ⟨gw, 0, none⟩) (nw + 1) cw2) (.slice a9 m9 c9)
             rw [← hWS]
             have r0 := hbs.cell (i := 0) rfl
             have r1 := hbs.cell (i := 1) rfl
             refine bodyPost_ret (v := .tuple #[.agg #[.slice (some ⟨gw, 0, none⟩) (nw + 1) cw2, .slice a9 m9 c9], .int .i64 0]) ?hres rfl ?_
             case hres => simp [results, Tryz.f14, go_sem, r0, r1]
             have hne : ∀ (e : TypeId) (sz : Nat) (u : Value) (n : Nat) (xs : List Value) (base : Nat), S ≤ base → wf.ownsRow base e sz u n xs → u.ownBlock = none ∨ u.ownBlock ≠ some (w.heap.size + 1) := fun e sz u n xs base hSb ho => by
              cases hu : u.ownBlock with
              | none => exact .inl rfl
              | some k =>
               refine .inr fun he => ?_
               cases he
               have h1 := (World.ownsRow.lt ho _ hu).1
               have h2 := HSW.out
               omega
             have hws : OwnS WS S (.slice (some ⟨gw, 0, none⟩) (nw + 1) cw2) uw := World.ownsRow.kept HAF.out.words hgs (hne _ _ _ _ _ _ (Nat.le_refl _) HAF.out.words)
             have haz := HAF.out.arcs.keptG hgs fun e sz u n xs ho _ => hne e sz u n xs B (by have := HAF.out.SB; omega) ho
             obtain ⟨a8, c8, he8, hst8⟩ := hws.strs (by rw [HUL.out]; omega)
             rw [HUL.out] at he8 hst8
             cases he8
             obtain ⟨a7, c7, he7, hst7, _⟩ := haz.gives (by have := HGL.out; omega)
             rw [HM9.out] at he7 hst7
             cases he7
             exact ⟨_, _, _, _, _, _, rfl, ⟨by rw [HUW.out]; exact hst8, hst7⟩, (HBW.out _ HAF.out.bel).grown hgs (by have := (HBW.out _ HAF.out.bel).size; omega) fun k hk => by cases hk; omega⟩
end Go.Proofs.YtjmebijckcimoaaGreatDoor
