/-
  TranspositionChecked: the law.
-/
import Derived.Test.YtbahddjbncinbaaGreatDoorFn
import Derived.Test.YtbahddjbncinbaaGreatDoorBs
import Derived.Test.YtbahddjbncinbaaGreatDoorKc
import Derived.Test.YtbahddjbncinbaaGreatDoorCb
namespace Go.Ap
open Go Go.RowKit
theorem bks_small {xs ys : List Tok} : ∀ x ∈ bksE xs ys, I64 x.fst ∧ I64 x.snd ∧ I64 x.len := fun x hx => by
  have h1 := blkF_small (N := 1024) (l := outL (prsE xs ys)) (fun p hp => by have := out_lt hp; omega) x hx
  have h2 := blkF_len (l := outL (prsE xs ys)) hx
  have h3 := out_len_le xs ys
  refine ⟨⟨?_, ?_⟩, ⟨?_, ?_⟩, ⟨?_, ?_⟩⟩ <;> omega
theorem chkE_bks {xs ys : List Tok} (hk : chkT xs ys = 0) : chkE xs ys (bksE xs ys) = 0 := by
  unfold chkE bksE prsE
  rw [if_pos hk, if_pos hk]
  have := chk_blocks (keysT xs) (keysT ys)
  rwa [keysT_len, keysT_len] at this
theorem chkE_less {xs ys : List Tok} (hk : chkT xs ys = 0) {i : Nat} (hi : i < (bksE xs ys).length) : chkE xs ys ((bksE xs ys).eraseIdx i) = 17 := by
  unfold bksE prsE at hi ⊢
  rw [if_pos hk] at hi ⊢
  unfold chkE prsE
  rw [if_pos hk, if_pos hk]
  have := chk_less (keysT xs) (keysT ys) i hi
  rwa [keysT_len, keysT_len] at this
end Go.Ap
namespace Go.Proofs.YtbahddjbncinbaaGreatDoor
open Go.RowKit Go.Ap Go.Shelf Go.Proofs

attribute [local go_sem] Oper.semAt_some bs_toList empty_toList bs_size bs_extract
set_option maxRecDepth 100000 in
set_option maxHeartbeats 8000000 in
theorem law9 (a1 : Option Addr) (n1 c1 : Nat) (xs : List Tok) (a2 : Option Addr) (n2 c2 : Nat) (ys : List Tok) (z : Int) (w : World) (h1 : Toks w a1 n1 xs) (h2 : Toks w a2 n2 ys) (hz : 0 ≤ z ∧ z ≤ 255) (hev : EV w) :
    Calls Tryz.prog 9 #[.slice a1 n1 c1, .slice a2 n2 c2, .int .u8 z] w fun e w' => e = .returned (.bool true) ∧ Below w.heap.size w w' := by
  have HF := Lib.hid (fine22 (some ⟨w.heap.size, 0, none⟩) 2 2 [xs, ys] _ (fineTwo (c1 := c1) (c2 := c2) h1 h2) (hev.mono (Nat.le_refl _) (balloc _ _)))
  have HAW := Lib.hid (fun W (hb : Below w.heap.size w W) => awake13 W (hev.mono (Nat.le_refl _) hb))
  have HBP := Lib.hid (fun W (hb : Below w.heap.size w W) => BlocksP xs ys a1 n1 c1 a2 n2 c2 W (h1.mono (Nat.le_refl _) hb) (h2.mono (Nat.le_refl _) hb) (hev.mono (Nat.le_refl _) hb))
  have HCP := Lib.hid (fun bl a3 n3 c3 (h3i : ∀ x ∈ bl, I64 x.fst ∧ I64 x.snd ∧ I64 x.len) W (hb : Below w.heap.size w W) (h3 : Blks W a3 n3 bl) => CheckP xs ys a1 n1 c1 a2 n2 c2 bl a3 n3 c3 W (h1.mono (Nat.le_refl _) hb) (h2.mono (Nat.le_refl _) hb) h3 h3i (hev.mono (Nat.le_refl _) hb))
  have hbn : (bksE xs ys).length ≤ 1024 := by
    have := blkF_count (outL (prsE xs ys))
    have := out_len_le xs ys
    unfold bksE
    omega
  have HSM := Lib.hid (@bks_small xs ys)
  have HC0 := Lib.hid (@chkE_bks xs ys)
  have HC1 := Lib.hid (@chkE_less xs ys)
  obtain ⟨K, hK⟩ : ∃ K, bksE xs ys = K := ⟨_, rfl⟩
  rw [hK] at HBP HSM HC0 HC1 hbn
  obtain ⟨zn, rfl⟩ : ∃ zn : Nat, z = zn := ⟨z.toNat, by omega⟩
  clear h1 h2 hev hK
  go_enter Tryz.func9, Tryz.ntmps9
  go_wp2_with (fail)
  refine HF.out.mono ?_
  rintro e w1 ⟨hf, hb⟩
  have HB1 := Lib.hid (bstep (balloc w _) hb)
  clear hb
  rcases hf with rfl | ⟨rfl, hf⟩
  · go_wp2_with (fail)
    refine (HAW.out _ HB1.out).mono ?_
    rintro e w2 ⟨rfl, hb⟩
    have HB2 := Lib.hid (bstep HB1.out hb)
    clear hb
    go_wp2_with (fail)
    go_ret
    exact ⟨rfl, HB2.out⟩
  · obtain ⟨k1, _, _⟩ := chk_fine hf
    rw [k1] at HBP
    have HC0 := Lib.hid (HC0.out k1)
    have HC1 := Lib.hid (fun i => HC1.out k1 (i := i))
    clear hf k1
    go_wp2_with (fail)
    refine (HBP.out _ HB1.out).mono ?_
    rintro e w2 ⟨v, rfl, ho, hb⟩
    have HO := Lib.hid ho
    obtain ⟨ap, cp, rfl, hr⟩ := ho.blks (by omega)
    have HX2 := Lib.hid hb
    have HB2 := Lib.hid (bstep HB1.out hb)
    have HCH := Lib.hid (HCP.out K ap K.length cp HSM.out w2 HB2.out hr)
    rw [HC0.out] at HCH
    clear ho hb hr
    go_wp2_with (fail)
    refine HCH.out.mono ?_
    rintro e w3 ⟨rfl, hb⟩
    have HX3 := Lib.hid hb
    have HB3 := Lib.hid (bstep HB2.out hb)
    clear hb
    obtain ⟨n, hn⟩ : ∃ n, K.length = n := ⟨_, rfl⟩
    rw [hn] at HC1 HO hbn
    have HN := Lib.hid hn
    rw [hn]
    clear hn
    rcases Nat.eq_zero_or_pos n with h0 | h0
    · have d0 : ((n : Int) == 0) = true := by rw [beq_iff_eq]; omega
      clear h0
      go_wp2_with (fail)
      refine (HAW.out _ HB3.out).mono ?_
      rintro e w4 ⟨rfl, hb⟩
      have HB4 := Lib.hid (bstep HB3.out hb)
      clear hb
      go_wp2_with (fail)
      go_ret
      exact ⟨rfl, HB4.out⟩
    · have d0 : ((n : Int) == 0) = false := by rw [beq_eq_false_iff_ne]; omega
      have d0' : ¬ (n : Int) = 0 := by omega
      obtain ⟨i, hi⟩ : ∃ i, zn % n = i := ⟨_, rfl⟩
      have hin : i < n := by rw [← hi]; exact Nat.mod_lt _ h0
      have hmod : ((zn : Int)).tmod (n : Int) = (i : Int) := by rw [← hi]; exact Int.ofNat_tmod zn n
      have hemod : ((zn : Int)) % (n : Int) = (i : Int) := by rw [← hi]; exact Int.natCast_emod zn n
      have HCL := Lib.hid (cloneBk w3 w1.heap.size (.slice ap n cp) K (owns_below HO.out HX3.out) (by rw [HN.out]; exact h0) (by rw [HN.out]; exact hbn))
      clear hi
      go_wp2_with (fail)
      refine HCL.out.mono ?_
      rintro e w4 ⟨g, cap, rfl, ho, hb⟩
      rw [HN.out] at ho ⊢
      have HLS := Lib.hid (lessBk w4 w3.heap.size g n cap i (i + 1) K ho HN.out hin rfl)
      rw [Int.natCast_add, Int.natCast_one] at HLS
      have HB4 := Lib.hid (bstep HB3.out hb)
      have hs3 := hb.size
      clear ho hb hmod hemod
      go_wp2_with (fail)
      refine HLS.out.mono ?_
      rintro e w5 ⟨rfl, ho, hb⟩
      have hle : (K.eraseIdx i).length = n - 1 := by rw [List.length_eraseIdx, if_pos (by rw [HN.out]; exact hin), HN.out]
      obtain ⟨a', c', he, hr⟩ := ho.blks (by omega)
      rw [hle] at he hr
      cases he
      have HB5 := Lib.hid (show Below w.heap.size w w5 from HB4.out.trans (hb.mono HB3.out.size))
      have HCK := Lib.hid (HCP.out (K.eraseIdx i) _ (n - 1) cap (fun x hx => HSM.out x (List.mem_of_mem_eraseIdx hx)) w5 HB5.out hr)
      rw [HC1.out i hin] at HCK
      clear ho hb hr hle
      go_wp2_with (fail)
      refine HCK.out.mono ?_
      rintro e w6 ⟨rfl, hb⟩
      have HB6 := Lib.hid (bstep HB5.out hb)
      clear hb
      go_wp2_with (fail)
      refine (HAW.out _ HB6.out).mono ?_
      rintro e w7 ⟨rfl, hb⟩
      have HB7 := Lib.hid (bstep HB6.out hb)
      clear hb
      go_wp2_with (fail)
      go_ret
      exact ⟨rfl, HB7.out⟩
end Go.Proofs.YtbahddjbncinbaaGreatDoor
