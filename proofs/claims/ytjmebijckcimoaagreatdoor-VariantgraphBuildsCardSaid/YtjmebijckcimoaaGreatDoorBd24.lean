/-
 Build (program): the graph of a collation.
-/
import Derived.Test.YtjmebijckcimoaaGreatDoorBl
import Derived.Test.YtjmebijckcimoaaGreatDoorAr
import Derived.Test.YtjmebijckcimoaaGreatDoorSp
namespace Go.Proofs.YtjmebijckcimoaaGreatDoor
open Go.RowKit Go.Ap Go.Shelf Go.Proofs Go.Maps

attribute [local go_sem] Oper.semAt_some bs_toList empty_toList bs_size bs_extract
theorem infoR24 : (Tryz.prog.info? 44).map (fun i => (i.zero, i.size, i.bytes)) = some (some (.slice none 0 0), 1, 24) := by kernel_rfl
theorem make_rows (n : Nat) (hn : n ≤ 1048576) (w : World) : (Instr.makeSlice 24 (.int .i64 n) (.int .i64 n)).run Tryz.prog w = .ok (.slice (some ⟨w.heap.size, 0, none⟩) n n) (w.alloc (.cells (Array.replicate n (.slice none 0 0)) 44)) := by
 obtain ⟨i9, hi9, hy0, hy1, hy2⟩ := info_parts infoR24
 have h := run_make_row (P := Tryz.prog) 24 44 i9 (.slice none 0 0) Tryz.underlying24 hi9 hy0 hy1 rfl .i64 .i64 n (by rw [hy2]; omega) (by omega) w
 rw [show madeCells #[Value.slice none 0 0] n = Array.replicate n (.slice none 0 0) from (made_all (enc := fun _ : Unit => Value.slice none 0 0) (x := ()) rfl n).trans (by simp)] at h
 exact h
/-- the rows of the paths while the first i are laid -/
def firstR (n i : Nat) : List (List Int) := (List.range n).map fun s => if s < i then [0] else []
theorem firstR_zero (n : Nat) : firstR n 0 = List.replicate n [] := by
 apply List.ext_getElem?
 intro s
 unfold firstR
 by_cases hs : s < n
 · rw [List.getElem?_map, List.getElem?_range hs]; simp [hs]
 · rw [List.getElem?_eq_none (by simp; omega), List.getElem?_eq_none (by simp; omega)]
theorem firstR_at {n i s : Nat} (hs : s < n) : (firstR n i)[s]? = some (if s < i then [0] else []) := by
 unfold firstR
 rw [List.getElem?_map, List.getElem?_range hs]
 rfl
theorem firstR_set {n i : Nat} (_ : i < n) : (firstR n i).set i ([] ++ [0]) = firstR n (i + 1) := by
 apply List.ext_getElem?
 intro s
 by_cases hs : s < n
 · rw [firstR_at hs]
   by_cases e : i = s
   · subst e
     rw [List.getElem?_set_self (by simpa [firstR] using hs), if_pos (by omega)]
     rfl
   · rw [List.getElem?_set_ne e, firstR_at hs]
     by_cases h : s < i
     · rw [if_pos h, if_pos (by omega)]
     · rw [if_neg h, if_neg (by omega)]
 · rw [List.getElem?_eq_none (by rw [List.length_set]; simp [firstR]; omega), List.getElem?_eq_none (by simp [firstR]; omega)]
theorem firstR_all (cs : List (List (Option Str))) (n : Nat) : firstR n n = rowsB cs n 0 0 := by
 unfold firstR rowsB
 refine List.map_congr_left fun s hs => ?_
 rw [if_pos (List.mem_range.1 hs), Vg.pathB_zero]
theorem cell_small {x : Coll} {a1 a2 a3 : Option Addr} {n1 n2 n3 : Nat} {w : World} (h : CollM w a1 a2 a3 n1 n2 n3 x) {k s : Nat} {u : Str} (hu : cellO x k s = some u) : u.length ≤ 281474976710656 := by
 unfold cellO at hu
 split at hu
 · split at hu
   · cases hu
   · obtain ⟨t, ht, rfl⟩ := Option.map_eq_some_iff.1 hu
     obtain ⟨l, hl, hl2⟩ := Option.bind_eq_some_iff.1 ht
     obtain ⟨l', b, o, v, hl', _, _, a, n, c, _, hts⟩ := h.tokens.at (show s < n2 by rw [← h.tokens.len]; exact (List.getElem?_eq_some_iff.1 hl).1)
     rw [hl] at hl'
     cases hl'
     obtain ⟨t', _, _, ht', _, htm⟩ := hts.at (by rw [← hts.len]; exact (List.getElem?_eq_some_iff.1 hl2).1)
     rw [hl2] at ht'
     cases ht'
     exact htm.2.text
 · cases hu
set_option maxRecDepth 100000 in
set_option maxHeartbeats 8000000 in
theorem buildOk (x : Coll) (a1 : Option Addr) (n1 c1 : Nat) (a2 : Option Addr) (n2 c2 : Nat) (a3 : Option Addr) (n3 c3 : Nat) (w : World) (h : CollM w a1 a2 a3 n1 n2 n3 x) (hc1 : n1 ≤ c1) (hev : EV w) (hok : collC x = 0) (h24 : n3 ≤ 24) :
 Calls Tryz.prog 13 #[collV x.sec a1 n1 c1 a2 n2 c2 a3 n3 c3] w fun e w' => ∃ b1 m1 k1 b2 m2 k2, e = .returned (.tuple #[graphV b1 m1 k1 b2 m2 k2, .int .i64 0]) ∧ GraphM w' b1 m1 b2 m2 (Vg.wordsL [] (optC x)) (Vg.arcsG (optC x) n1) ∧ Below w.heap.size w w' := by
 obtain ⟨i0, hi0, hz0, hz1, hz2⟩ := info_parts infoStr24
 obtain ⟨i9, hi9, hy0, hy1, hy2⟩ := info_parts infoI24
 have hv := val_of hok
 have hl1 := h.sigla.len
 have hl3 := h.columns.len
 have hpos := hv.pos
 have h32 := hv.le
 have HCK := Lib.hid (fun W (hb : Below w.heap.size w W) => collP x a1 n1 c1 a2 n2 c2 a3 n3 c3 W (h.mono (Nat.le_refl _) hb) hc1 (hev.mono (Nat.le_refl _) hb))
 rw [hok] at HCK
 have HCO := Lib.hid (fun k (hk : k < n3) => col_lies h hv k (by omega))
 obtain ⟨cs, hcs⟩ : ∃ cs, optC x = cs := ⟨_, rfl⟩
 have HRW := Lib.hid (show ∀ c ∈ cs, c.length = n1 by rw [← hcs, ← hl1]; exact optC_row)
 have HCL := Lib.hid (show cs.length = n3 by rw [← hcs, optC_len, hl3])
 have HCA := Lib.hid (show ∀ k, k < n3 → cs[k]? = some (optK x k) from fun k hk => by rw [← hcs]; exact optC_at (by omega))
 have HCE := Lib.hid (show ∀ k s, s < n1 → (optK x k)[s]? = some (cellO x k s) from fun k s hs => optK_at (by omega))
 have HLS := Lib.hid hl1
 have HN2 := Lib.hid (show n2 = n1 by have := h.tokens.len; have := hv.toks; omega)
 have HKL := Lib.hid (show ∀ k, (optK x k).length = n1 from fun k => by rw [optK_len, hl1])
 have HUL := Lib.hid (show ∀ k s u, cellO x k s = some u → u.length ≤ maxLen from fun k s u hu => Nat.le_trans (cell_small h hu) (by decide))
 rw [hcs]
 rw [hl1] at hpos h32
 obtain ⟨W4, hW4⟩ : ∃ W4, (w.alloc (.cells #[.string (bs x.sec), .slice a1 n1 c1, .slice a2 n2 c2, .slice a3 n3 c3] 26)).alloc (.cells #[.slice none 0 0, .slice none 0 0] 31) = W4 := ⟨_, rfl⟩
 have bA := balloc w (.cells #[.string (bs x.sec), .slice a1 n1 c1, .slice a2 n2 c2, .slice a3 n3 c3] 26)
 have bB := balloc (w.alloc (.cells #[.string (bs x.sec), .slice a1 n1 c1, .slice a2 n2 c2, .slice a3 n3 c3] 26)) (.cells #[.slice none 0 0, .slice none 0 0] 31)
 have HB4 := Lib.hid (show Below w.heap.size w W4 by rw [← hW4]; exact bstep bA bB)
 have HBX := Lib.hid (show BoxC W4 w.heap.size x.sec a1 n1 c1 a2 n2 c2 a3 n3 c3 by rw [← hW4]; exact (BoxC.new w _ _ _ _ _ _ _ _ _ _).below bB)
 have HRS := Lib.hid (show BlkK W4 (w.heap.size + 1) #[.slice none 0 0, .slice none 0 0] 31 by
  rw [← hW4]
  have := BlkK.new (w.alloc (.cells #[.string (bs x.sec), .slice a1 n1 c1, .slice a2 n2 c2, .slice a3 n3 c3] 26)) #[.slice none 0 0, .slice none 0 0] 31
  rwa [World.size_alloc] at this)
 have HMK := Lib.hid (make_rows n1 (by omega))
 have HMM := Lib.hid (@run_makeMap Tryz.prog)
 have HW4 := Lib.hid hW4
 clear h hc1 hev hok hv hl1 hl3 hcs bA bB hW4
 unfold collV at HCK ⊢
 go_enter Tryz.func13, Tryz.ntmps13
 obtain ⟨k0, k1, k2, k3⟩ := HBX.out
 rw [← HW4.out] at k0 k1 k2 k3
 go_wp2_with (fail)
 rw [HW4.out]
 refine (HCK.out _ HB4.out).mono ?_
 rintro e w1 ⟨rfl, hb1⟩
 have HB1 := Lib.hid (bstep HB4.out hb1)
 have HX1 := Lib.hid (HBX.out.below hb1)
 have HR1 := Lib.hid (HRS.out.below hb1)
 clear k0 k1 k2 k3 hb1
 obtain ⟨k0, k1, k2, k3⟩ := HX1.out
 obtain ⟨S3, hS3⟩ : ∃ S, w1.heap.size = S := ⟨_, rfl⟩
 have HS3 := Lib.hid hS3
 have HSW := Lib.hid (show w.heap.size + 1 < S3 by rw [← hS3]; exact HR1.out.lt)
 have ka := balloc w1 (.cells #[.string { data := #[] }] 9)
 have kb := balloc (w1.alloc (.cells #[.string { data := #[] }] 9)) (.map #[] 0)
 have kc := balloc ((w1.alloc (.cells #[.string { data := #[] }] 9)).alloc (.map #[] 0)) (.cells (Array.replicate n1 (.slice none 0 0)) 44)
 have HI0 := Lib.hid (show BdI w1 S3 (S3 + 1) (S3 + 1 + 1) n1 0 (.slice (some ⟨S3, 0, none⟩) 1 1) [[]] (fun _ => none) (firstR n1 0) (((w1.alloc (.cells #[.string { data := #[] }] 9)).alloc (.map #[] 0)).alloc (.cells (Array.replicate n1 (.slice none 0 0)) 44)) from by
  have o1 : OwnS (w1.alloc (.cells #[.string { data := #[] }] 9)) S3 (.slice (some ⟨S3, 0, none⟩) 1 1) [[]] := by
   have := OwnS.one w1 (base := S3) (by omega) []
   rw [hS3] at this
   exact this
  have m1 := MapH.made (T := tNd) (w1.alloc (.cells #[.string { data := #[] }] 9))
  have t1 := OwnTb.made ((w1.alloc (.cells #[.string { data := #[] }] 9)).alloc (.map #[] 0)) (base := S3) (by simp; omega) n1 (by omega)
  simp only [World.size_alloc, hS3] at m1 t1
  exact ⟨(o1.below kb).below kc, m1.below kc, by rw [firstR_zero]; exact t1, by simp [firstR], by rw [← hS3]; exact bstep (bstep ka kb) kc, by simp; omega, by omega⟩)
 have hmk := HMK.out
 have hmm := HMM.out
 have q1 := cell_keep (bstep (bstep ka kb) kc) k1
 have q2 := cell_keep (bstep ka kb) k1
 clear ka kb kc hS3
 go_wp2_with (fail)
 rw [HS3.out]
 clear hmk hmm q1 q2 k0 k1 k2 k3
 obtain ⟨bm, hbm⟩ : ∃ b, S3 + 1 = b := ⟨_, rfl⟩
 rw [hbm] at HI0 ⊢
 obtain ⟨Tb, hTb0⟩ : ∃ b, bm + 1 = b := ⟨_, rfl⟩
 rw [hTb0] at HI0 ⊢
 have HBM := Lib.hid hbm
 have HTB := Lib.hid hTb0
 clear hbm hTb0
 have hSW := HSW.out
 have HBW := Lib.hid (show ∀ W, Below S3 w1 W → Below w.heap.size w W from fun W hb => HB1.out.trans (hb.mono (by omega)))
 have HXW := Lib.hid (show ∀ W, Below S3 w1 W → BoxC W w.heap.size x.sec a1 n1 c1 a2 n2 c2 a3 n3 c3 from fun W hb => HX1.out.below (by rw [HS3.out]; exact hb))
 go_loopw [32] (fun iv wr => ∃ i : Nat, i ≤ n1 ∧ iv = .int .i64 i ∧ BdI w1 S3 bm Tb n1 0 (.slice (some ⟨S3, 0, none⟩) 1 1) [[]] (fun _ => none) (firstR n1 i) wr) (fun iv _ => n1 - (intOf iv).toNat)
 case atStart => exact ⟨0, Nat.zero_le _, rfl, HI0.out⟩
 case round =>
  obtain ⟨wi, rfl⟩ : ∃ wi : World, wi = wr := ⟨_, rfl⟩
  obtain ⟨i, hi, rfl, hI⟩ := hrel
  have HI := Lib.hid hI
  by_cases hin : i < n1
  · obtain ⟨u, hu, _, ho, hn⟩ := hI.row (i := i) (xs := []) (by rw [firstR_at hin, if_neg (by omega)])
    have hone : OwnI 3 (wi.alloc (.cells #[.int .i64 0] 3)) S3 (.slice (some ⟨wi.heap.size, 0, none⟩) 1 1) [0] := ⟨World.ownsRow_lit wi #[.int .i64 0] 1 hI.sz (by unfold maxLen; omega) rfl, fun y hy => by rw [List.mem_singleton] at hy; subst hy; unfold I64; omega⟩
    obtain ⟨e1, e2, e3⟩ := hn (.cells #[.int .i64 0] 3) (wi.alloc (.cells #[.int .i64 0] 3)) (.slice (some ⟨wi.heap.size, 0, none⟩) 1 1) 0 (by unfold I64; omega) hone.1 ⟨rfl, rfl, rfl, Nat.le_refl _, fun _ _ _ => rfl⟩ (.inr ⟨_, Nat.le_refl _, rfl⟩)
    rw [firstR_set hin] at e3
    have HE := Lib.hid e3
    have i1 : (i : Int) < (n1 : Int) := by omega
    clear hI hu ho hn hone e3
    go_wp2_with (fail)
    go_roundw
    case rel => exact ⟨i + 1, by omega, by simp, HE.out⟩
    case measure => simp [intOf]; omega
  · obtain rfl : n1 = i := by omega
    rw [firstR_all cs] at HI
    have HI2 := Lib.hid (show BdI w1 S3 bm Tb n1 0 (.slice (some ⟨S3, 0, none⟩) 1 1) (Vg.wordsB [] cs 0 0) (fun _ => none) (rowsB cs n1 0 0) wi by rw [Vg.wordsB_zero]; exact HI.out)
    obtain ⟨k0, k1, k2, k3⟩ := HXW.out _ hI.bel
    clear hI HI HI0
    go_wp2_with (fail)
    clear k0 k1 k2 k3
    go_loopw [4, 43] (fun wv kv wr => ∃ (k m : Nat) (f : Int × Str → Option Value), k ≤ n3 ∧ kv = .int .i64 k ∧ m ≤ k * n1 ∧ MapsB cs k 0 f ∧ BdI w1 S3 bm Tb n1 m wv (Vg.wordsB [] cs k 0) f (rowsB cs n1 k 0) wr) (fun _ kv _ => n3 - (intOf kv).toNat)
    case atStart => exact ⟨0, 0, _, Nat.zero_le _, rfl, Nat.zero_le _, MapsB.zero cs, HI2.out⟩
    case round =>
     obtain ⟨wk, rfl⟩ : ∃ wk : World, wk = wr := ⟨_, rfl⟩
     obtain ⟨k, m, f, hk, rfl, hm, hf, hI⟩ := hrel
     have HI := Lib.hid hI
     have HF := Lib.hid hf
     have HM := Lib.hid hm
     by_cases hkn : k < n3
     · obtain ⟨b, o, bc, oc, cc, rfl, g0, hcl⟩ := HCO.out k hkn
       have hbw := HBW.out _ hI.bel
       have g1 := cell_keep hbw g0
       have HCC := Lib.hid hcl
       have HAT := Lib.hid (HCA.out k hkn)
       have HNL := Lib.hid (show ∀ u, nodeN cs k u ≤ 100000 from fun u => by
        have h1 := nodeN_le HRW.out (by rw [HCL.out]; exact hkn) u
        have h2 : k * n1 ≤ 24 * 32 := Nat.mul_le_mul (by omega) h32
        omega)
       have hk1 : (k : Int) < (n3 : Int) := by omega
       clear hI hf hm hcl hbw
       go_wp2_with (fail)
       clear g1
       go_loopw [4, 50] (fun wv iv wr => ∃ (i m : Nat) (f : Int × Str → Option Value), i ≤ n1 ∧ iv = .int .i64 i ∧ m ≤ k * n1 + i ∧ MapsB cs k i f ∧ BdI w1 S3 bm Tb n1 m wv (Vg.wordsB [] cs k i) f (rowsB cs n1 k i) wr) (fun _ iv _ => n1 - (intOf iv).toNat)
       case atStart => exact ⟨0, m, f, Nat.zero_le _, rfl, HM.out, HF.out, HI.out⟩
       case round =>
        obtain ⟨wi, rfl⟩ : ∃ wi : World, wi = wr := ⟨_, rfl⟩
        obtain ⟨i, m, f, hi, rfl, hm, hf, hI⟩ := hrel
        have HI := Lib.hid hI
        have HF := Lib.hid hf
        have hbw := HBW.out _ hI.bel
        by_cases hin : i < n1
        · obtain ⟨y, c0, hor⟩ := HCC.out i (by rw [HLS.out]; exact hin)
          have hce := HCE.out k i hin
          have i1 : (i : Int) < (n1 : Int) := by omega
          have d0 := cell_keep hbw c0
          rcases hor with ⟨rfl, hno⟩ | ⟨mt, b5, o5, n5, c5, b6, o6, u, rfl, rfl, p1, p2, p3, p4, hno⟩
          · rw [hno] at hce
            have HW := Lib.hid (Vg.wordsB_gap ([] : Str) HAT.out hce)
            have HR := Lib.hid (rowsB_gap (n := n1) HAT.out hce)
            have HF2 := Lib.hid (HF.out.gap HAT.out hce)
            clear hI hf hbw c0 hce hno
            go_wp2_with (fail)
            go_roundw
            case rel => exact ⟨i + 1, m, f, by omega, by simp, by omega, HF2.out, by rw [HW.out, HR.out]; exact HI.out⟩
            case measure => simp [intOf]; omega
          · rw [hno] at hce
            obtain ⟨t1, t2⟩ := Vg.wordsB_text ([] : Str) HAT.out hce
            have HR := Lib.hid (rowsB_text (n := n1) HAT.out hce)
            have HUX := Lib.hid (HUL.out k i u hno)
            have hfu := hf.1 u
            have hcd : cs.getD k [] = optK x k := by simp [List.getD, HAT.out]
            have f1 := cell_keep hbw p1
            have f2 := cell_keep hbw p4
            obtain ⟨k0, k1, k2, k3⟩ := HXW.out _ hI.bel
            have hm5 : (mt : Int) < (n5 : Int) := by omega
            have hi2 : (i : Int) < (n2 : Int) := by rw [HN2.out]; exact i1
            have hnl := HNL.out u
            have hlo := HI.out.map.look_ok (s := ((k : Int), u)) ⟨by unfold I64; omega, HUX.out⟩
            have hkb := balloc wi (.cells #[.int .i64 (k : Int), .string (bs u)] 71)
            have HIA := Lib.hid (HI.out.below hkb)
            obtain ⟨X, hX⟩ : ∃ X, wi.heap.size = X := ⟨_, rfl⟩
            have K := Lib.hid (show BlkK (wi.alloc (.cells #[.int .i64 (k : Int), .string (bs u)] 71)) X #[.int .i64 (k : Int), .string (bs u)] 71 by rw [← hX]; exact BlkK.new wi _ _)
            obtain ⟨WA, hWA⟩ : ∃ W, wi.alloc (.cells #[.int .i64 (k : Int), .string (bs u)] 71) = W := ⟨_, rfl⟩
            rw [hWA] at HIA K
            have x0 : WA.cell? ⟨X, 0, none⟩ = some (.int .i64 (k : Int)) := K.out.cell (i := 0) rfl
            have x1 : WA.cell? ⟨X, 1, none⟩ = some (.string (bs u)) := K.out.cell (i := 1) rfl
            clear hlo
            have hlo := HIA.out.map.look_ok (s := ((k : Int), u)) ⟨by unfold I64; omega, HUX.out⟩
            obtain ⟨N, hN⟩ : ∃ N, nodeN cs k u = N := ⟨_, rfl⟩
            rw [hN] at hnl hfu HR
            have HIX := Lib.hid (show I64 (N : Int) by unfold I64; omega)
            rw [hcd] at hfu
            by_cases hmem : u ∈ Vg.colN ((optK x k).take i)
            · rw [if_pos hmem] at hfu
              rw [hfu] at hlo
              replace hlo : (Instr.lookup 69 (.map (some bm)) (.agg #[.int .i64 (k : Int), .string (bs u)]) true).run Tryz.prog WA = .ok (.tuple #[.int .i64 (N : Int), .bool true]) WA := hlo
              have HF2 := Lib.hid (HF.out.old HAT.out hce hmem)
              have HW := Lib.hid (t1 hmem).1
              clear hI hf hbw c0 hce hno hfu t1 t2 hmem p1 p4 hkb hN hcd
              obtain ⟨ur, hur, _, hor, hnr⟩ := HIA.out.row (i := i) (xs := Vg.pathB cs k i i) (rowsB_at hin)
              have hpl := pathB_len cs k i i
              obtain ⟨ar, cr, rfl, _⟩ := hor.ints (by omega)
              have HOR := Lib.hid hor
              have HNR := Lib.hid hnr
              obtain ⟨pl, hp⟩ : ∃ p, (Vg.pathB cs k i i).length = p := ⟨_, rfl⟩
              have HPL := Lib.hid hp
              rw [hp] at hur hpl
              have HOW := Lib.hid (show WA.ownsRow S3 3 1 (.slice ar pl cr) pl ((Vg.pathB cs k i i).map (Value.int .i64)) by have := HOR.out.1; rw [hp] at this; exact this)
              have hszx := HIA.out.sz
              have hur2 := cell_keep (balloc WA (.cells #[.int .i64 (N : Int)] 3)) hur
              clear hor hnr hp
              go_wp2_with (at_builtin; refine wpList_append_own_at _ rfl _ _ 44 rfl S3 3 i9 (.int .i64 0) 1 8 Tryz.underlying44 hi9 hy0 hy1 hy2 rfl (by decide) _ _ _ rfl (HOW.out.alloc _) ⟨WA.heap.size, 0, none⟩ 1 1 [.int .i64 (N : Int)] rfl rfl (cell_one_new _ _ _) (by simp [Value.oneCell']) (by unfold maxLen; omega) (by omega) (by simp; omega) ?_; intro v1 w4 hown1 hgrow1 _ hblk1; obtain ⟨e1, e2, e3⟩ := HNR.out _ w4 _ _ HIX.out (by rw [HPL.out]; exact hown1) (by rw [HPL.out]; exact hgrow1) (by rw [HPL.out]; exact hblk1.imp id fun h => ⟨_, by simp, h⟩); rw [HPL.out] at e1; obtain ⟨g', cap', rfl⟩ := ownsRow_succ hown1; have HE3 := Lib.hid e3; clear hown1 hgrow1 hblk1 e3)
              go_roundw
              case rel => exact ⟨i + 1, m, f, by omega, by simp, by omega, HF2.out, by rw [HW.out, ← HR.out]; exact HE3.out⟩
              case measure => simp [intOf]; omega
            · rw [if_neg hmem] at hfu
              rw [hfu] at hlo
              replace hlo : (Instr.lookup 69 (.map (some bm)) (.agg #[.int .i64 (k : Int), .string (bs u)]) true).run Tryz.prog WA = .ok (.tuple #[.int .i64 0, .bool false]) WA := hlo
              obtain ⟨tw, tn⟩ := t2 hmem
              have HF2 := Lib.hid (HF.out.new HAT.out hce hmem)
              rw [hN] at HF2
              have HW := Lib.hid tw
              obtain ⟨wl, hwl⟩ : ∃ l, (Vg.wordsB [] cs k i) = l := ⟨_, rfl⟩
              have hNl : wl.length = N := by rw [← hwl, ← tn, ← hN]; unfold nodeN; rw [hcd]
              rw [hwl] at HIA HW
              have hm2 : m ≤ 1000 := by
               have h2 : k * n1 ≤ 24 * 32 := Nat.mul_le_mul (by omega) h32
               omega
              obtain ⟨w5, hst, hmp, hg5⟩ := HIA.out.map.store (s := ((k : Int), u)) (by unfold maxLen; omega) ⟨by unfold I64; omega, HUX.out⟩ (.int .i64 (N : Int))
              replace hst : (Instr.mapUpdate 69 (.map (some bm)) (.agg #[.int .i64 (k : Int), .string (bs u)]) (.int .i64 (N : Int))).run Tryz.prog WA = .ok () w5 := hst
              have HI5 := Lib.hid (HIA.out.mapped hg5 hmp)
              have K5 := Lib.hid (K.out.keptE hg5 (by
               obtain ⟨o, ho, hoc⟩ := HIA.out.map.obj
               intro e
               cases e
               rw [K.out] at ho
               cases ho
               cases hoc))
              have x5 : w5.cell? ⟨X, 1, none⟩ = some (.string (bs u)) := K5.out.cell (i := 1) rfl
              obtain ⟨aw, cw, rfl, _⟩ := OwnS.cap HI5.out.words (by rw [hNl]; omega)
              rw [hNl] at HI5 HI HIA ⊢
              have HNL5 := Lib.hid hNl
              have hsz5 := HI5.out.sz
              clear hI hf hbw c0 hce hno hfu t1 t2 hmem p1 p4 hkb hN hcd tw tn hwl hmp hg5
              go_wp2_with (at_builtin; first | (refine wpList_append_own _ rfl _ _ 22 rfl S3 9 i0 (.string { data := #[] }) 1 16 Tryz.underlying22 hi0 hz0 hz1 hz2 rfl (by decide) _ _ _ rfl (World.ownsRow.alloc HI5.out.words _) ⟨w5.heap.size, 0, none⟩ 1 1 [.string (bs u)] rfl rfl (cell_one_new _ _ _) (by simp [Value.oneCell']) (by rw [HNL5.out]; unfold maxLen; omega) (by rw [HNL5.out]; omega) (by simp; omega) ?_; intro vw w6 hown1 hgrow1 _; obtain ⟨gw, cw2, rfl⟩ := ownsRow_succ hown1; have HI6 := Lib.hid (HI5.out.word (us' := wl ++ [u]) hgrow1 (by unfold OwnS; simpa [sv] using hown1)); rw [HNL5.out] at HI6; clear hown1 hgrow1; obtain ⟨ur, hur, _, hor, hnr⟩ := HI6.out.row (i := i) (xs := Vg.pathB cs k i i) (rowsB_at hin); have hpl := pathB_len cs k i i; obtain ⟨ar, cr, rfl, _⟩ := hor.ints (by omega); have HOR := Lib.hid hor; have HNR := Lib.hid hnr; obtain ⟨pl, hp⟩ : ∃ p, (Vg.pathB cs k i i).length = p := ⟨_, rfl⟩; have HPL := Lib.hid hp; rw [hp] at hur hpl; have HOW := Lib.hid (show w6.ownsRow S3 3 1 (.slice ar pl cr) pl ((Vg.pathB cs k i i).map (Value.int .i64)) by have := HOR.out.1; rw [hp] at this; exact this); have hszx := HI6.out.sz; have hur2 := cell_keep (balloc w6 (.cells #[.int .i64 (N : Int)] 3)) hur; clear hor hnr hp) | (refine wpList_append_own_at _ rfl _ _ 44 rfl S3 3 i9 (.int .i64 0) 1 8 Tryz.underlying44 hi9 hy0 hy1 hy2 rfl (by decide) _ _ _ rfl (HOW.out.alloc _) ⟨w6.heap.size, 0, none⟩ 1 1 [.int .i64 (N : Int)] rfl rfl (cell_one_new _ _ _) (by simp [Value.oneCell']) (by unfold maxLen; omega) (by omega) (by simp; omega) ?_; intro v1 w4 hown1 hgrow1 _ hblk1; obtain ⟨e1, e2, e3⟩ := HNR.out _ w4 _ _ HIX.out (by rw [HPL.out]; exact hown1) (by rw [HPL.out]; exact hgrow1) (by rw [HPL.out]; exact hblk1.imp id fun h => ⟨_, by simp, h⟩); rw [HPL.out] at e1; obtain ⟨g', cap', rfl⟩ := ownsRow_succ hown1; have HE3 := Lib.hid e3; clear hown1 hgrow1 hblk1 e3))
              go_roundw
              case rel => exact ⟨i + 1, m + 1, _, by omega, by simp, by omega, HF2.out, by rw [HW.out, ← HR.out]; exact HE3.out⟩
              case measure => simp [intOf]; omega
        · obtain rfl : n1 = i := by omega
          have HW := Lib.hid (show Vg.wordsB [] cs k n1 = Vg.wordsB [] cs (k + 1) 0 by
           have := Vg.wordsB_col ([] : Str) HAT.out
           rwa [HKL.out] at this)
          have HR := Lib.hid (rowsB_col HAT.out (HKL.out k))
          rw [HW.out, HR.out] at HI
          clear hI hf hbw
          go_wp2_with (fail)
          go_roundw
          case rel => exact ⟨k + 1, m, f, by omega, by simp, by rw [Nat.succ_mul]; omega, HF.out.col, HI.out⟩
          case measure => simp [intOf]; omega
     · obtain rfl : n3 = k := by omega
       obtain ⟨k0, k1, k2, k3⟩ := HXW.out _ hI.bel
       obtain ⟨wl, hwl⟩ : ∃ l, (Vg.wordsB [] cs n3 0) = l := ⟨_, rfl⟩
       have HWE := Lib.hid (show wl ++ [[]] = Vg.wordsL [] cs by rw [← hwl, ← HCL.out]; exact Vg.wordsB_end _ _)
       have hwll : wl.length ≤ 1000 := by
        have h1 := wordsB_len HRW.out [] n3 0
        have h2 : n3 * n1 ≤ 24 * 32 := Nat.mul_le_mul (by omega) h32
        rw [hwl] at h1
        omega
       rw [hwl] at HI hI
       obtain ⟨aw, cw, rfl, _⟩ := OwnS.cap hI.words (by omega)
       obtain ⟨nw, hnw⟩ : ∃ n, wl.length = n := ⟨_, rfl⟩
       rw [hnw] at HI hwll ⊢
       have HNW := Lib.hid hnw
       have hszk := hI.sz
       have hmm := HMM.out
       clear hI hf hm hwl hnw k0 k1 k2 k3
       go_wp2_with (at_builtin; refine wpList_append_own _ rfl _ _ 22 rfl S3 9 i0 (.string { data := #[] }) 1 16 Tryz.underlying22 hi0 hz0 hz1 hz2 rfl (by decide) _ _ _ rfl (World.ownsRow.alloc HI.out.words _) ⟨wk.heap.size, 0, none⟩ 1 1 [.string { data := #[] }] rfl rfl (cell_one_new _ _ _) (by simp [Value.oneCell']) (by rw [HNW.out]; unfold maxLen; omega) (by rw [HNW.out]; omega) (by simp; omega) ?_; intro vw w6 hown1 hgrow1 _; have HI6 := Lib.hid (HI.out.word (us' := wl ++ [[]]) hgrow1 (by unfold OwnS; simpa [sv, bs] using hown1)); rw [HNW.out] at hown1; obtain ⟨gw, cw2, rfl⟩ := ownsRow_succ hown1; clear hown1 hgrow1)
       obtain ⟨bE, hbE⟩ : ∃ b, w6.heap.size = b := ⟨_, rfl⟩
       rw [HWE.out] at HI6
       obtain ⟨us, hus⟩ : ∃ us, Vg.wordsL [] cs = us := ⟨_, rfl⟩
       have HUS := Lib.hid hus
       rw [hus] at HI6
       have HEN := Lib.hid (show (nw : Int) = Vg.endN cs by
        have h1 := congrArg List.length HWE.out
        rw [List.length_append, HNW.out] at h1
        unfold Vg.wordsL at h1
        unfold Vg.endN
        simp at h1
        omega)
       have HLL := Lib.hid (show us.length = nw + 1 by
        have h1 := congrArg List.length HWE.out
        rw [hus, List.length_append, HNW.out] at h1
        simp at h1
        omega)
       obtain ⟨ps, hps⟩ : ∃ ps, Vg.pathsC cs n1 = ps := ⟨_, rfl⟩
       have HPS := Lib.hid hps
       have HPA := Lib.hid (show ∀ s, s < n1 → ps[s]? = some (Vg.fullP cs s) from fun s hs => by rw [← hps]; exact Vg.pathsC_at hs)
       have HPN := Lib.hid (show ps.length = n1 by rw [← hps]; simp [Vg.pathsC])
       have HSN := Lib.hid (show ∀ i k, i ≤ n1 → (Vg.stepsN ps i k).length ≤ 4000 from fun i k hi => by
        have h1 := Vg.stepsN_len (ps := ps) (m := n3 + 1) (fun l hl => by
         rw [← hps] at hl
         unfold Vg.pathsC at hl
         obtain ⟨s, _, rfl⟩ := List.mem_map.1 hl
         have := fullP_len cs s
         rw [HCL.out] at this
         omega) i k
        have h2 : i * (n3 + 1) ≤ 32 * 25 := Nat.mul_le_mul (by omega) (by omega)
        omega)
       have HGW := Lib.hid (show gw < bE by rw [← hbE]; exact own_lt HI6.out.words rfl)
       have HL0 := Lib.hid (show L4I w1 S3 Tb n1 bE (.slice (some ⟨gw, 0, none⟩) (nw + 1) cw2) us (rowsB cs n1 n3 0) ps 0 (w6.alloc (.map #[] 0)) from by
        have hI6 := HI6.out
        have ka := balloc w6 (.map #[] 0)
        have hg := Grp.made (T := tEn) (ie := 3) (base := bE) w6
        have ht := FromI.of hI6.tab
        rw [hbE] at hg ht
        refine ⟨hI6.words.below ka, by rw [Vg.stepsN_zero]; exact hg, ht.far (by rw [← hbE]; exact ka), hI6.bel.trans (ka.mono hI6.sz), by rw [← hbE]; exact hI6.sz⟩)
       have HBE := Lib.hid hbE
       clear hmm hbE hus hps hszk
       try rw [HBE.out]
       go_loopw [108] (fun iv wr => ∃ i : Nat, i ≤ n1 ∧ iv = .int .i64 i ∧ L4I w1 S3 Tb n1 bE (.slice (some ⟨gw, 0, none⟩) (nw + 1) cw2) us (rowsB cs n1 n3 0) ps i wr) (fun iv _ => n1 - (intOf iv).toNat)
       case atStart => exact ⟨0, Nat.zero_le _, rfl, HL0.out⟩
       case round =>
        obtain ⟨wi, rfl⟩ : ∃ wi : World, wi = wr := ⟨_, rfl⟩
        obtain ⟨i, hi, rfl, hI⟩ := hrel
        have HI := Lib.hid hI
        by_cases hin : i < n1
        · obtain ⟨ur, hur, hor, hnr⟩ := hI.take (rowsB_len _ _ _ _) (rowsB_at hin)
          have hpl := pathB_len cs n3 0 i
          obtain ⟨ar, cr, rfl, _⟩ := hor.ints (by omega)
          have HOR := Lib.hid hor
          have HNR := Lib.hid hnr
          obtain ⟨pl, hp⟩ : ∃ p, (Vg.pathB cs n3 0 i).length = p := ⟨_, rfl⟩
          have HPL := Lib.hid hp
          rw [hp] at hur hpl
          have HOW := Lib.hid (show wi.ownsRow S3 3 1 (.slice ar pl cr) pl ((Vg.pathB cs n3 0 i).map (Value.int .i64)) by have := HOR.out.1; rw [hp] at this; exact this)
          have HFP := Lib.hid (show Vg.pathB cs n3 0 i ++ [(nw : Int)] = Vg.fullP cs i by rw [HEN.out, ← HCL.out]; exact Vg.pathB_end cs i)
          have hszi := hI.sz
          have h3b := hI.S3b
          have i1 : (i : Int) < (n1 : Int) := by omega
          have HIX := Lib.hid (show I64 (nw : Int) by unfold I64; omega)
          clear hI hor hnr hp
          go_wp2_with (at_builtin; refine wpList_append_own_at _ rfl _ _ 44 rfl S3 3 i9 (.int .i64 0) 1 8 Tryz.underlying44 hi9 hy0 hy1 hy2 rfl (by decide) _ _ _ rfl (HOW.out.alloc _) ⟨wi.heap.size, 0, none⟩ 1 1 [.int .i64 (nw : Int)] rfl rfl (cell_one_new _ _ _) (by simp [Value.oneCell']) (by unfold maxLen; omega) (by omega) (by simp; omega) ?_; intro v1 w4 hown1 hgrow1 _ hblk1; have HL5 := Lib.hid (HNR.out _ w4 v1 (Vg.fullP cs i) (by rw [← HFP.out]; exact HOR.out.push1 HIX.out (by rw [HPL.out]; exact hown1)) (by rw [HPL.out]; exact hgrow1) (by rw [HPL.out]; exact hblk1)); obtain ⟨g', cap', rfl⟩ := ownsRow_succ hown1; clear hown1 hgrow1 hblk1)
          have HFPL := Lib.hid (show (Vg.fullP cs i).length = pl + 1 by rw [← HFP.out, List.length_append, HPL.out]; rfl)
          have HPI := Lib.hid (HPA.out i hin)
          obtain ⟨fp, hfp⟩ : ∃ fp, Vg.fullP cs i = fp := ⟨_, rfl⟩
          rw [hfp] at HL5 HFPL HPI
          clear hfp hur hin
          go_loopw [18] (fun kv wr => ∃ j k : Nat, k = j + 1 ∧ k ≤ pl + 1 ∧ kv = .int .i64 k ∧ L5I w1 S3 Tb n1 bE (.slice (some ⟨gw, 0, none⟩) (nw + 1) cw2) us (rowsB cs n1 n3 0) ps i j (.slice (some ⟨g', 0, none⟩) (pl + 1) cap') fp wr) (fun kv _ => pl + 1 - (intOf kv).toNat)
          case atStart => exact ⟨0, 1, rfl, by omega, rfl, HL5.out⟩
          case round =>
           obtain ⟨wj, rfl⟩ : ∃ wj : World, wj = wr := ⟨_, rfl⟩
           obtain ⟨j, k, hkj, hk, rfl, hL⟩ := hrel
           have HL := Lib.hid hL
           have HKJ := Lib.hid hkj
           by_cases hkl : k < pl + 1
           · have hpL : pl + 1 = fp.length := by rw [HFPL.out]
             obtain ⟨p0, hp0⟩ : ∃ p0, fp[j]? = some p0 := ⟨_, List.getElem?_eq_getElem (by omega)⟩
             obtain ⟨q0, hq0⟩ : ∃ q0, fp[j + 1]? = some q0 := ⟨_, List.getElem?_eq_getElem (by omega)⟩
             have HP0 := Lib.hid hp0
             have HQ0 := Lib.hid hq0
             have HI0 := Lib.hid (show I64 p0 from hL.path.2 p0 (List.mem_of_getElem? hp0))
             have HI1 := Lib.hid (show I64 q0 from hL.path.2 q0 (List.mem_of_getElem? hq0))
             have HPC := Lib.hid (show ∀ W', OwnI 3 W' S3 (.slice (some ⟨g', 0, none⟩) (pl + 1) cap') fp → W'.cell? ⟨g', j, none⟩ = some (.int .i64 p0) ∧ W'.cell? ⟨g', k, none⟩ = some (.int .i64 q0) from fun W' h => by
              have e1 := (h.cell (j := j) (by omega)).1
              have e2 := (h.cell (j := k) (by omega)).1
              rw [show nth fp j = p0 by simp [nth, HP0.out]] at e1
              rw [show nth fp k = q0 by rw [HKJ.out]; simp [nth, HQ0.out]] at e2
              exact ⟨e1, e2⟩)
             have HWR := Lib.hid (show IntKind.i64.wrap ((k : Int) - 1) = (j : Int) by rw [IntWalk.i64_in _ (by omega)]; omega)
             have hkb := balloc wj (.cells #[.int .i64 p0, .int .i64 q0] 75)
             have hB8 : Below wj.heap.size wj (wj.alloc (.cells #[.int .i64 p0, .int .i64 q0] 75)).drew := below_drew' hkb
             have HL8 := Lib.hid (hL.below hB8)
             have HK8 := Lib.hid (BlkK.new wj #[.int .i64 p0, .int .i64 q0] 75).drew
             have HPT := Lib.hid hL.path
             have HSZ := Lib.hid hL.sz
             have j1 : (k : Int) < ((pl : Int) + 1) := by omega
             have j2 : (j : Int) < ((pl : Int) + 1) := by omega
             have hsn := HSN.out i j hi
             clear hL hp0 hq0 hkb hB8 hkj hpL
             go_wp2_with (fail)
             refine (wpIn_wide (n := 20)).1 ?_
             refine wpIn_region_planM (fun W' => OwnI 3 W' S3 (.slice (some ⟨g', 0, none⟩) (pl + 1) cap') fp) 12 (.take 0 <| .take 1 <| .take 2 <| .take 3 <| .take 4 <| .take 5 <| .take 6 <| .take 7 <| .take 8 <| .take 9 <| .one 10 <| .one 11 <| .fin) (fun _ => trivial) (by kernel_rfl) (by kernel_rfl) (HPT.out.below (bdrewN _ 1)) ?_
             iterate 2
              apply pm_take rfl rfl (by rfl)
              case hy =>
               rintro W' hb'
               clear hb'
               go_simp
               first | done | with_reducible rfl
              simp only [List.setIfInBounds_toArray, List.set_cons_zero, List.set_cons_succ]
             apply pm_take rfl rfl (by rfl)
             case hy =>
              rintro W' hb'
              have e1 := HWR.out
              clear hb'
              go_simp
              first | done | with_reducible rfl
             simp only [List.setIfInBounds_toArray, List.set_cons_zero, List.set_cons_succ]
             apply pm_take rfl rfl (by rfl)
             case hy =>
              rintro W' hb'
              clear hb'
              go_simp
              first | done | with_reducible rfl
             simp only [List.setIfInBounds_toArray, List.set_cons_zero, List.set_cons_succ]
             apply pm_take rfl rfl (by rfl)
             case hy =>
              rintro W' hb'
              obtain ⟨ea, eb⟩ := HPC.out W' hb'
              clear hb'
              go_simp
              first | done | with_reducible rfl
             simp only [List.setIfInBounds_toArray, List.set_cons_zero, List.set_cons_succ]
             iterate 3
              apply pm_take rfl rfl (by rfl)
              case hy =>
               rintro W' hb'
               clear hb'
               go_simp
               first | done | with_reducible rfl
              simp only [List.setIfInBounds_toArray, List.set_cons_zero, List.set_cons_succ]
             apply pm_take rfl rfl (by rfl)
             case hy =>
              rintro W' hb'
              obtain ⟨ea, eb⟩ := HPC.out W' hb'
              clear hb'
              go_simp
              first | done | with_reducible rfl
             simp only [List.setIfInBounds_toArray, List.set_cons_zero, List.set_cons_succ]
             apply pm_take rfl rfl (by rfl)
             case hy =>
              rintro W' hb'
              clear hb'
              go_simp
              first | done | with_reducible rfl
             simp only [List.setIfInBounds_toArray, List.set_cons_zero, List.set_cons_succ]
             iterate 2
              refine pm_one rfl ?_
              gi_wp2_with (fail)
              refine ⟨fun _ => (HPT.out.below (bdrewN _ 1)).below (balloc _ _), ?_⟩
             refine pm_fin ?_
             have HBX := Lib.hid HSZ.out
             obtain ⟨X, hX⟩ : ∃ X, wj.heap.size = X := ⟨_, rfl⟩
             rw [hX] at HK8 HBX
             obtain ⟨W8, hW8⟩ : ∃ W, (wj.alloc (.cells #[.int .i64 p0, .int .i64 q0] 75)).drew = W := ⟨_, rfl⟩
             rw [hW8] at HL8 HK8
             rw [hX, hW8]
             have hb9 := balloc W8 (.cells #[.int .i64 (i : Int)] 3)
             have HL9 := Lib.hid (HL8.out.below hb9)
             obtain ⟨V, hV⟩ : ∃ V, W8.heap.size = V := ⟨_, rfl⟩
             have HN9 := Lib.hid (show BlkK (W8.alloc (.cells #[.int .i64 (i : Int)] 3)) V #[.int .i64 (i : Int)] 3 by rw [← hV]; exact BlkK.new W8 _ _)
             have hVb : bE < V := by rw [← hV]; exact HL8.out.sz
             have x0 : W8.cell? ⟨X, 0, none⟩ = some (.int .i64 p0) := HK8.out.cell (i := 0) rfl
             have x1 : W8.cell? ⟨X, 1, none⟩ = some (.int .i64 q0) := HK8.out.cell (i := 1) rfl
             obtain ⟨WB, hWB⟩ : ∃ W, W8.alloc (.cells #[.int .i64 (i : Int)] 3) = W := ⟨_, rfl⟩
             rw [hWB] at HL9 HN9
             obtain ⟨u, wa, st, hme, hou, hga, hst⟩ := HL9.out.entry HI0.out HI1.out HPI.out HP0.out HQ0.out (by omega)
             have HN3 := Lib.hid (HN9.out.keptE hga (by simp; omega))
             have HOU := Lib.hid hou
             have HST := Lib.hid hst
             have HZA := Lib.hid (show bE ≤ wa.heap.size by have := HL9.out.sz; have := hga.size; omega)
             have HGL := Lib.hid (show (grpE (Vg.stepsN ps i j) (p0, q0)).length ≤ 100000 by have := grpE_len (Vg.stepsN ps i j) (p0, q0); omega)
             have HII := Lib.hid (show I64 (i : Int) by unfold I64; omega)
             have HNW2 := Lib.hid (show ∀ (j : Nat) (u : Value), [.int .i64 (i : Int)][j]? = some u → wa.cell? ((⟨V, 0, none⟩ : Addr).add j) = some u from World.news_of_block (cs := #[.int .i64 (i : Int)]) HN3.out)
             clear hou hga hst hb9 hX hW8
             gi_wp2_with (fail)
             go_wp2_with (at_builtin; refine wpList_append_own_at _ rfl _ _ 44 rfl bE 3 i9 (.int .i64 0) 1 8 Tryz.underlying44 hi9 hy0 hy1 hy2 rfl (by decide) u _ _ rfl HOU.out.1 ⟨V, 0, none⟩ 1 1 [.int .i64 (i : Int)] rfl rfl HNW2.out (by simp [Value.oneCell']) (by have := HGL.out; unfold maxLen; omega) (by have := HGL.out; omega) HZA.out ?_; intro v' w9 hown' hgr' _ hat; obtain ⟨w10, hes, hL10⟩ := HST.out w9 v' hgr' (HOU.out.push1 HII.out hown') (hat.imp id fun h => ⟨_, Nat.le_refl _, h⟩); have HL10 := Lib.hid hL10; clear hown' hgr' hat hL10)
             go_roundw
             case rel => exact ⟨j + 1, k + 1, by have := HKJ.out; omega, by omega, by simp, HL10.out⟩
             case measure => simp [intOf]; omega
           · obtain rfl : pl + 1 = k := by omega
             have HD := Lib.hid (hL.done HPI.out (by rw [HFPL.out]; omega))
             clear hL hkj
             go_wp2_with (fail)
             go_roundw
             case rel => exact ⟨i + 1, by omega, by simp, HD.out⟩
             case measure => simp [intOf]; omega
        · obtain rfl : n1 = i := by omega
          have hsz4 := hI.sz
          have h3b := hI.S3b
          have HAR := Lib.hid (arcsP bE bE _ (grpE (Vg.stepsN ps n1 0)) wi hI.grp (by omega) (by have := HSN.out n1 0 (Nat.le_refl _); omega) (fun s => by
           have := grpE_len (Vg.stepsN ps n1 0) s
           have := HSN.out n1 0 (Nat.le_refl _)
           omega) (Vg.stepsN ps n1 0) (fun h m => grpE_mem) (by
            rw [← HPN.out, Vg.stepsN_all, ← HPS.out]
            exact steps_i64 (by rw [← HEN.out]; omega)))
          have HIX := Lib.hid (show Vg.idxE (Vg.stepsN ps n1 0) = Vg.arcsG cs n1 by
           rw [← HPN.out, Vg.stepsN_all, ← HPS.out]
           simp [Vg.arcsG, Vg.pathsC])
          have HWW := Lib.hid hI.words
          have HBL := Lib.hid hI.bel
          clear hI
          go_wp2_with (fail)
          refine HAR.out.mono ?_
          rintro e W9 ⟨⟨u, rfl, a9, c9, rfl, hau, _⟩, hb9⟩
          rw [HIX.out] at hau ⊢
          have HAU := Lib.hid hau
          have HW9 := Lib.hid (owns_far HWW.out hb9 (fun b hb => by cases hb; exact HGW.out))
          have HB9 := Lib.hid (HBL.out.trans (hb9.mono h3b))
          have HRS9 := Lib.hid (HR1.out.far HB9.out hSW)
          obtain ⟨m9, hm9⟩ : ∃ m, (Vg.arcsG cs n1).length = m := ⟨_, rfl⟩
          rw [hm9] at HAU ⊢
          have f0 := BlkK.hard (i := 0) HRS9.out
          have g0 := HRS9.out.cell (i := 0) rfl
          have f1 := BlkK.hard (i := 1) HRS9.out
          have g1 := HRS9.out.cell (i := 1) rfl
          clear hau hb9
          go_wp2_with (fail)
          clear f0 f1 g0 g1
          obtain ⟨WS, hWS, hbs, hgs⟩ := store2 HRS9.out (.slice (some ⟨gw, 0, none⟩) (nw + 1) cw2) (.slice a9 m9 c9)
          rw [← hWS]
          have r0 := hbs.cell (i := 0) rfl
          have r1 := hbs.cell (i := 1) rfl
          refine bodyPost_ret (v := .tuple #[.agg #[.slice (some ⟨gw, 0, none⟩) (nw + 1) cw2, .slice a9 m9 c9], .int .i64 0]) ?hres rfl ?_
          case hres => simp [results, Tryz.f13, go_sem, r0, r1]
          have hws : OwnS WS S3 (.slice (some ⟨gw, 0, none⟩) (nw + 1) cw2) us := World.ownsRow.kept HW9.out hgs (.inr fun e => by
           have h1 := (World.ownsRow.lt HW9.out gw rfl).1
           have e2 : gw = w.heap.size + 1 := by simpa [Value.ownBlock] using e
           omega)
          obtain ⟨a8, c8, he8, hst8⟩ := hws.strs (by rw [HLL.out]; omega)
          rw [HLL.out] at he8 hst8
          cases he8
          exact ⟨_, _, _, _, _, _, rfl, ⟨by rw [HUS.out]; exact hst8, HAU.out.off HRS9.out hgs⟩, (HBW.out _ HB9.out).grown hgs (by have := HB9.out.size; have := HS3.out; omega) fun k hk => by cases hk; omega⟩
set_option maxHeartbeats 2000000 in
theorem buildBad (x : Coll) (a1 : Option Addr) (n1 c1 : Nat) (a2 : Option Addr) (n2 c2 : Nat) (a3 : Option Addr) (n3 c3 : Nat) (w : World) (h : CollM w a1 a2 a3 n1 n2 n3 x) (hc1 : n1 ≤ c1) (hev : EV w) (hbad : collC x ≠ 0) :
 Calls Tryz.prog 13 #[collV x.sec a1 n1 c1 a2 n2 c2 a3 n3 c3] w fun e w' => e = .returned (.tuple #[graphV none 0 0 none 0 0, .int .i64 1]) ∧ Below w.heap.size w w' := by
 have HCK := Lib.hid (fun W (hb : Below w.heap.size w W) => collP x a1 n1 c1 a2 n2 c2 a3 n3 c3 W (h.mono (Nat.le_refl _) hb) hc1 (hev.mono (Nat.le_refl _) hb))
 obtain ⟨q, hq⟩ : ∃ q, collC x = q := ⟨_, rfl⟩
 rw [hq] at HCK hbad
 have d0 : (q != 0) = true := by simpa using hbad
 obtain ⟨W4, hW4⟩ : ∃ W4, (w.alloc (.cells #[.string (bs x.sec), .slice a1 n1 c1, .slice a2 n2 c2, .slice a3 n3 c3] 26)).alloc (.cells #[.slice none 0 0, .slice none 0 0] 31) = W4 := ⟨_, rfl⟩
 have bA := balloc w (.cells #[.string (bs x.sec), .slice a1 n1 c1, .slice a2 n2 c2, .slice a3 n3 c3] 26)
 have bB := balloc (w.alloc (.cells #[.string (bs x.sec), .slice a1 n1 c1, .slice a2 n2 c2, .slice a3 n3 c3] 26)) (.cells #[.slice none 0 0, .slice none 0 0] 31)
 have HB4 := Lib.hid (show Below w.heap.size w W4 by rw [← hW4]; exact bstep bA bB)
 have HBX := Lib.hid (show BoxC W4 w.heap.size x.sec a1 n1 c1 a2 n2 c2 a3 n3 c3 by rw [← hW4]; exact (BoxC.new w _ _ _ _ _ _ _ _ _ _).below bB)
 have HRS := Lib.hid (show BlkK W4 (w.heap.size + 1) #[.slice none 0 0, .slice none 0 0] 31 by
  rw [← hW4]
  have := BlkK.new (w.alloc (.cells #[.string (bs x.sec), .slice a1 n1 c1, .slice a2 n2 c2, .slice a3 n3 c3] 26)) #[.slice none 0 0, .slice none 0 0] 31
  rwa [World.size_alloc] at this)
 have HW4 := Lib.hid hW4
 clear h hc1 hev hq hbad bA bB hW4
 unfold collV at HCK ⊢
 go_enter Tryz.func13, Tryz.ntmps13
 obtain ⟨k0, k1, k2, k3⟩ := HBX.out
 rw [← HW4.out] at k0 k1 k2 k3
 go_wp2_with (fail)
 rw [HW4.out]
 refine (HCK.out _ HB4.out).mono ?_
 rintro e w1 ⟨rfl, hb1⟩
 have HB1 := Lib.hid (bstep HB4.out hb1)
 have HR1 := Lib.hid (HRS.out.below hb1)
 clear k0 k1 k2 k3 hb1
 have f0 := BlkK.hard (i := 0) HR1.out
 have g0 := HR1.out.cell (i := 0) rfl
 have f1 := BlkK.hard (i := 1) HR1.out
 have g1 := HR1.out.cell (i := 1) rfl
 go_wp2_with (fail)
 clear f0 f1 g0 g1
 obtain ⟨WS, hWS, hbs, hgs⟩ := store2 HR1.out (.slice none 0 0) (.slice none 0 0)
 rw [← hWS]
 have r0 := hbs.cell (i := 0) rfl
 have r1 := hbs.cell (i := 1) rfl
 refine bodyPost_ret (v := .tuple #[.agg #[.slice none 0 0, .slice none 0 0], .int .i64 1]) ?hres rfl ?_
 case hres => simp [results, Tryz.f13, go_sem, r0, r1]
 exact ⟨rfl, HB1.out.grown hgs HB1.out.size fun k hk => by cases hk; omega⟩
end Go.Proofs.YtjmebijckcimoaaGreatDoor
