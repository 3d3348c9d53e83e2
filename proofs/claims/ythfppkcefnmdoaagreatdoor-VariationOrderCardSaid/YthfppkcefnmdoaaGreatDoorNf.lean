import Derived.Test.YthfppkcefnmdoaaGreatDoorNe
import Derived.Test.YthfppkcefnmdoaaGreatDoorNg

/-
  The place of a reading among others: find.
-/


namespace Go.Proofs.YthfppkcefnmdoaaGreatDoor
open Go.RowKit Go.Ap Go.Shelf Go.Proofs

attribute [local go_sem] Oper.semAt_some bs_toList empty_toList bs_size bs_extract

set_option maxHeartbeats 1000000 in
theorem idxRd (p : Rdg → Bool) (a : Option Addr) (n c : Nat) (xs : List Rdg) (g : Nat) (cap : Array Value) (w : World) (h : Rdgs w a n xs)
    (eg : ∀ args w, (callFunc g args).run Tryz.prog w = .ok (.enter g args) w)
    (hp : ∀ r ∈ xs, ∀ (a1 : Option Addr) (n1 k1 : Nat) (a2 : Option Addr) (n2 k2 : Nat) W, Below w.heap.size w W → StrsL W a1 n1 r.1 → Ints W a2 n2 r.2 → Calls Tryz.prog g (#[.agg #[.slice a1 n1 k1, .slice a2 n2 k2]] ++ cap) W fun e w' => e = .returned (.bool (p r)) ∧ Below W.heap.size W w') :
    Calls Tryz.prog 44 #[.slice a n c, .func (.func g) #[] cap] w fun e w' => e = .returned (.int .i64 (idxF p xs)) ∧ Below w.heap.size w w' := by
  have hlen := h.len
  have hsm := h.small
  have HL := Lib.hid hlen
  have HP := Lib.hid hp
  have HX := Lib.hid h
  clear hlen hp h
  go_enter Tryz.func44, Tryz.ntmps44
  go_wp2_with (fail)
  go_loopw [8] (fun i wr => ∃ k : Nat, k ≤ n ∧ i = .int .i64 k ∧ Below w.heap.size w wr ∧ idxG (pAt p xs) (n - k) k = idxF p xs) (fun i _ => n - (intOf i).toNat)
  case atStart => exact ⟨0, by omega, rfl, Below.refl _ _, by unfold idxF; rw [HL.out]; rfl⟩
  case round =>
    obtain ⟨k, hk, rfl, hb, hch⟩ := hrel
    have HC := Lib.hid hch
    have HB := Lib.hid hb
    clear hch
    by_cases hlt : k < n
    · obtain ⟨t, b, off, ht, rfl, ⟨a1, n1, k1, a2, n2, k2, c0, d0, c1, d1⟩⟩ := (HX.out.mono (Nat.le_refl _) hb).at hlt
      obtain ⟨f, hf⟩ : ∃ f, n - k = f + 1 := ⟨n - k - 1, by omega⟩
      have HF := Lib.hid hf
      have HPA := Lib.hid (show pAt p xs k = p t by simp [pAt, ht])
      have HCALL := Lib.hid (HP.out t (List.mem_of_getElem? ht) a1 n1 k1 a2 n2 k2 wr hb d0 d1)
      clear hf ht d0 d1 hb
      go_wp2_with (fail)
      refine HCALL.out.mono ?_
      rintro e w' ⟨rfl, hb2⟩
      have HB2 := Lib.hid (bstep HB.out hb2)
      clear hb2
      cases hpx : p t
      all_goals
        have HPX := Lib.hid hpx
        clear hpx
        go_wp2_with (fail)
      · exact ⟨⟨k + 1, by omega, by go_num, HB2.out, by rw [← HC.out, HF.out, idxG_no (HPA.out.trans HPX.out), show n - (k + 1) = f by have := HF.out; omega]⟩, by simp [intOf]; omega⟩
      · go_ret
        exact ⟨ret_i (by rw [← HC.out, HF.out, idxG_yes (HPA.out.trans HPX.out)]), HB2.out⟩
    · go_wp2_with (fail)
      go_ret
      exact ⟨ret_i (by rw [← HC.out, show n - k = 0 by omega, idxG]), HB.out⟩
set_option maxHeartbeats 1000000 in
theorem find1 (be bx : Nat) (a1 : Option Addr) (n1 k1 : Nat) (z1 : Value) (a2 : Option Addr) (n2 k2 : Nat) (z2 : Value) (ws ys : List Str) (w : World) (h1 : StrsL w a1 n1 ws) (h2 : StrsL w a2 n2 ys)
    (he : w.cell? ⟨be, 0, none⟩ = some (.func (.func 84) #[] #[])) (hx0 : w.cell? ⟨bx, 0, none⟩ = some (.slice a1 n1 k1)) (hx1 : w.cell? ⟨bx, 1, none⟩ = some z1) :
    Calls Tryz.prog 119 #[.agg #[.slice a2 n2 k2, z2], .pointer (some ⟨be, 0, none⟩), .pointer (some ⟨bx, 0, none⟩)] w fun e w' => e = .returned (.bool (decide (ws = ys))) ∧ Below w.heap.size w w' := by
  have hb := balloc w (.cells #[.slice a2 n2 k2, z2] 39)
  have HE := Lib.hid (sameWords a1 n1 k1 z1 a2 n2 k2 z2 ws ys _ (h1.mono (Nat.le_refl _) hb) (h2.mono (Nat.le_refl _) hb))
  have eg := enters_of Tryz.func84 (by kernel_rfl) rfl
  have e0 := cell_keep hb he
  have e1 := cell_keep hb hx0
  have e2 := cell_keep hb hx1
  have HB := Lib.hid hb
  generalize decide (ws = ys) = r at *
  clear h1 h2 hb he hx0 hx1
  go_enter Tryz.func119, Tryz.ntmps119
  go_wp2_with (fail)
  refine HE.out.mono ?_
  rintro e w1 ⟨rfl, hb⟩
  go_wp2_with (fail)
  go_ret
  exact ⟨rfl, bstep HB.out hb⟩
set_option maxHeartbeats 1000000 in
/-- the first reading of the same words -/
theorem findP (a : Option Addr) (n c : Nat) (xs : List Rdg) (a1 : Option Addr) (n1 k1 : Nat) (a9 : Option Addr) (n9 k9 : Nat) (ws : List Str) (w : World) (h : Rdgs w a n xs) (h1 : StrsL w a1 n1 ws) :
    Calls Tryz.prog 83 #[.slice a n c, .agg #[.slice a1 n1 k1, .slice a9 n9 k9], .func (.func 84) #[] #[]] w fun e w' => e = .returned (.int .i64 (idxF (fun r => decide (ws = r.1)) xs)) ∧ Below w.heap.size w w' := by
  have eg := enters_of Tryz.func119 (by kernel_rfl) rfl
  have hb1 := balloc w (.cells #[.slice a1 n1 k1, .slice a9 n9 k9] 39)
  have hb2 := balloc (w.alloc (.cells #[.slice a1 n1 k1, .slice a9 n9 k9] 39)) (.cells #[.func (.func 84) #[] #[]] 107)
  have hb := bstep hb1 hb2
  have x0 : (w.alloc (.cells #[.slice a1 n1 k1, .slice a9 n9 k9] 39)).cell? ⟨w.heap.size, 0, none⟩ = some (.slice a1 n1 k1) := cell_fresh rfl rfl
  have x1 : (w.alloc (.cells #[.slice a1 n1 k1, .slice a9 n9 k9] 39)).cell? ⟨w.heap.size, 1, none⟩ = some (.slice a9 n9 k9) := cell_fresh rfl rfl
  have y0 : ((w.alloc (.cells #[.slice a1 n1 k1, .slice a9 n9 k9] 39)).alloc (.cells #[.func (.func 84) #[] #[]] 107)).cell? ⟨w.heap.size + 1, 0, none⟩ = some (.func (.func 84) #[] #[]) := cell_fresh (by simp) rfl
  have HI := Lib.hid (idxRd (fun r => decide (ws = r.1)) a n c xs 119 #[.pointer (some ⟨w.heap.size + 1, 0, none⟩), .pointer (some ⟨w.heap.size, 0, none⟩)] _ (h.mono (Nat.le_refl _) hb) eg
      (fun r _ a1' n1' k1' a2 n2 k2 W2 hb3 s1 _ => find1 (w.heap.size + 1) w.heap.size a1 n1 k1 (.slice a9 n9 k9) a1' n1' k1' (.slice a2 n2 k2) ws r.1 W2 (h1.mono (Nat.le_refl _) (bstep hb hb3)) s1 (cell_keep hb3 y0) (cell_keep hb3 (cell_keep hb2 x0)) (cell_keep hb3 (cell_keep hb2 x1))))
  have HB := Lib.hid hb
  generalize idxF (fun r : Rdg => decide (ws = r.1)) xs = q at *
  clear h h1 hb hb1 hb2 x0 x1 y0 eg
  go_enter Tryz.func83, Tryz.ntmps83
  go_wp2_with (fail)
  refine HI.out.mono ?_
  rintro e w1 ⟨rfl, hb⟩
  go_wp2_with (fail)
  go_ret
  exact ⟨rfl, bstep HB.out hb⟩
end Go.Proofs.YthfppkcefnmdoaaGreatDoor

/-
  The readings in columns: the program's way.
-/

namespace Go.Ap
theorem idxG_cases (p : Nat → Bool) : ∀ f k, (idxG p f k = -1 ∧ ∀ j, k ≤ j → j < k + f → p j = false) ∨ ∃ i, k ≤ i ∧ i < k + f ∧ idxG p f k = (i : Int) ∧ p i = true ∧ ∀ j, k ≤ j → j < i → p j = false
  | 0, k => .inl ⟨rfl, fun j h1 h2 => by omega⟩
  | f + 1, k => by
    cases hp : p k
    · rw [idxG_no hp]
      rcases idxG_cases p f (k + 1) with ⟨h1, h2⟩ | ⟨i, h1, h2, h3, h4, h5⟩
      · refine .inl ⟨h1, fun j hj1 hj2 => ?_⟩
        by_cases hjk : j = k
        · subst hjk; exact hp
        · exact h2 j (by omega) (by omega)
      · refine .inr ⟨i, by omega, by omega, h3, h4, fun j hj1 hj2 => ?_⟩
        by_cases hjk : j = k
        · subst hjk; exact hp
        · exact h5 j (by omega) hj2
    · rw [idxG_yes hp]
      exact .inr ⟨k, Nat.le_refl _, by omega, rfl, hp, fun j h1 h2 => by omega⟩
theorem idxF_cases {α : Type} (p : α → Bool) (xs : List α) : (idxF p xs = -1 ∧ ∀ x ∈ xs, p x = false) ∨ ∃ i x, idxF p xs = ((i : Nat) : Int) ∧ i < xs.length ∧ xs[i]? = some x ∧ p x = true ∧ ∀ j y, j < i → xs[j]? = some y → p y = false := by
  rcases idxG_cases (pAt p xs) xs.length 0 with ⟨h1, h2⟩ | ⟨i, _, h2, h3, h4, h5⟩
  · refine .inl ⟨h1, fun x hx => ?_⟩
    obtain ⟨j, hj⟩ := List.getElem?_of_mem hx
    have := h2 j (Nat.zero_le _) (by have := (List.getElem?_eq_some_iff.1 hj).1; omega)
    simpa [pAt, hj] using this
  · refine .inr ⟨i, xs[i]'(by omega), h3, by omega, List.getElem?_eq_getElem _, ?_, fun j y hj hy => ?_⟩
    · simpa [pAt, List.getElem?_eq_getElem (show i < xs.length by omega)] using h4
    · have := h5 j (Nat.zero_le _) hj
      simpa [pAt, hy] using this
open Go Go.RowKit
theorem OwnI.one {w : World} {base : Nat} (hw : base ≤ w.heap.size) (x : Int) (hx : I64 x) : OwnI 3 (w.alloc (.cells #[.int .i64 x] 3)) base (.slice (some ⟨w.heap.size, 0, none⟩) 1 1) [x] :=
  ⟨World.ownsRow_lit w #[.int .i64 x] 1 hw (by simp [maxLen]) rfl, fun y hy => by rw [List.mem_singleton.1 hy]; exact hx⟩
theorem OwnRd.free {w w1 : World} {base n k g cap : Nat} {z : Value} {xs : List Int} {tmp : Obj} {rds : List Rdg} (h : OwnRd w base (.slice (some ⟨g, 0, none⟩) n cap) rds) (hz : OwnI 3 w base z xs) (hn : n = rds.length)
    (hg : (w.alloc tmp).grownBy w1 z.ownBlock) : w1.frozen? ⟨g, k, none⟩ = false := by
  subst hn
  obtain ⟨vs, h1, _, _⟩ := h
  exact World.ownsRow.frozenAt ((h1.alloc tmp).kept hg (owns_apart h1 hz.1 (by decide))) k
theorem OwnRd.stays {w w1 : World} {base n k g cap : Nat} {z y : Value} {xs : List Int} {tmp : Obj} {rds : List Rdg} (h : OwnRd w base (.slice (some ⟨g, 0, none⟩) n cap) rds) (hz : OwnI 3 w base z xs) (hn : n = rds.length)
    (hg : (w.alloc tmp).grownBy w1 z.ownBlock) (hc : w.cell? ⟨g, k, none⟩ = some y) : w1.cell? ⟨g, k, none⟩ = some y := by
  subst hn
  obtain ⟨vs, h1, _, _⟩ := h
  refine hg.cell (cell_kept (Nat.le_refl _) (balloc w tmp) hc) ?_
  rcases owns_apart h1 hz.1 (by decide) with h | h
  · simp [Value.ownBlock] at h
  · simpa [Value.ownBlock] using h
end Go.Ap
namespace Go.Proofs.YthfppkcefnmdoaaGreatDoor
open Go.RowKit Go.Ap Go.Shelf Go.Proofs

attribute [local go_sem] Oper.semAt_some bs_toList empty_toList bs_size bs_extract
theorem infoRd : (Tryz.prog.info? 39).map (fun i => (i.zero, i.size, i.bytes)) = some (some (.agg #[.slice none 0 0, .slice none 0 0]), 2, 48) := by kernel_rfl

set_option maxRecDepth 100000 in
set_option maxHeartbeats 8000000 in
theorem readingsP (x : Coll) (a1 : Option Addr) (n1 c1 : Nat) (a2 : Option Addr) (n2 c2 : Nat) (a3 : Option Addr) (n3 c3 : Nat) (w : World) (h : CollM w a1 a2 a3 n1 n2 n3 x) (hv : Val x) (lo hi : Nat) (hlh : lo ≤ hi) (hh : hi ≤ x.columns.length) (h32 : x.columns.length ≤ 1048576) :
    Calls Tryz.prog 54 #[collV x.sec a1 n1 c1 a2 n2 c2 a3 n3 c3, .int .i64 lo, .int .i64 hi] w fun e w' => ∃ v, e = .returned v ∧ OwnRd w' w.heap.size v (rdsL x lo hi) ∧ Below w.heap.size w w' := by
  obtain ⟨i0, hi0, hz0, hz1, hz2⟩ := info_parts infoRd
  obtain ⟨i9, hi9, hy0, hy1, hy2⟩ := info_parts infoInt
  have hl1 := h.sigla.len
  have hle := hv.le
  have HL1 := Lib.hid hl1
  have HCE := Lib.hid (fun s (hs : s < x.sigla.length) W (hb : Below w.heap.size w W) => readingP x a1 n1 c1 a2 n2 c2 a3 n3 c3 W (h.mono (Nat.le_refl _) hb) hv lo hi s hlh hh hs h32)
  have HSM := Lib.hid (show ∀ k, k ≤ 32 → RdS (rdsN x lo hi k) from fun k hk => (⟨by have := rdsN_len x lo hi k; omega, fun r hr => ⟨by
    obtain ⟨⟨a, ha⟩, _, h3⟩ := (rdsN_at x lo hi k).src r hr
    obtain ⟨j, _, _, he⟩ := h3 a (List.mem_of_getElem? ha)
    have := readL_len x j lo hi
    rw [← he]
    omega, by have := rdsN_src x lo hi k r hr; omega⟩⟩ : RdS (rdsN x lo hi k)))
  clear h hv
  unfold collV at HCE ⊢
  go_enter Tryz.func54, Tryz.ntmps54
  go_wp2_with (fail)
  obtain ⟨W4, hW4⟩ : ∃ W4, w.alloc (.cells #[.string (bs x.sec), .slice a1 n1 c1, .slice a2 n2 c2, .slice a3 n3 c3] 26) = W4 := ⟨_, rfl⟩
  have B4 : Below w.heap.size w W4 := by rw [← hW4]; exact balloc _ _
  have K0 := Lib.hid (show W4.cell? ⟨w.heap.size, 0, none⟩ = some (.string (bs x.sec)) by rw [← hW4]; exact cell_fresh rfl rfl)
  have K1 := Lib.hid (show W4.cell? ⟨w.heap.size, 1, none⟩ = some (.slice a1 n1 c1) by rw [← hW4]; exact cell_fresh rfl rfl)
  have K2 := Lib.hid (show W4.cell? ⟨w.heap.size, 2, none⟩ = some (.slice a2 n2 c2) by rw [← hW4]; exact cell_fresh rfl rfl)
  have K3 := Lib.hid (show W4.cell? ⟨w.heap.size, 3, none⟩ = some (.slice a3 n3 c3) by rw [← hW4]; exact cell_fresh rfl rfl)
  have hsz4 : w.heap.size ≤ W4.heap.size := B4.size
  have HB4 := Lib.hid B4
  rw [hW4]
  clear hW4 B4
  go_loopw [7, 14] (fun ov kv wr => ∃ k : Nat, k ≤ n1 ∧ kv = .int .i64 k ∧ OwnRd wr W4.heap.size ov (rdsN x lo hi k) ∧ Below W4.heap.size W4 wr) (fun _ kv _ => n1 - (intOf kv).toNat)
  case atStart => exact ⟨0, Nat.zero_le _, rfl, OwnRd.nil _ _, Below.refl _ _⟩
  case round =>
    obtain ⟨k, hk, rfl, ho, hb⟩ := hrel
    have HB := Lib.hid hb
    have hsz := hb.size
    obtain ⟨a7, c7, rfl, hR7⟩ := ho.rdgs (HSM.out k (by omega))
    obtain ⟨n7, hn7⟩ : ∃ n7, (rdsN x lo hi k).length = n7 := ⟨_, rfl⟩
    rw [hn7] at ho hR7 ⊢
    have hn7b : n7 ≤ 32 := by have := rdsN_len x lo hi k; omega
    have HN7 := Lib.hid hn7
    have HO := Lib.hid ho
    have HR7 := Lib.hid hR7
    clear ho hR7 hn7
    by_cases hkn : k < n1
    · have q0 := cell_keep hb K0.out
      have q1 := cell_keep hb K1.out
      have q2 := cell_keep hb K2.out
      have q3 := cell_keep hb K3.out
      have HC := Lib.hid (HCE.out k (by omega) wr (bstep HB4.out hb))
      have HS := Lib.hid (show rdsN x lo hi (k + 1) = addR (rdsN x lo hi k) (readL x k lo hi) (k : Int) from rfl)
      have hwl := readL_len x k lo hi
      obtain ⟨ws, hws⟩ : ∃ ws, readL x k lo hi = ws := ⟨_, rfl⟩
      rw [hws] at HC HS hwl
      clear hb hws
      go_wp2_with (fail)
      refine HC.out.mono ?_
      rintro e w2 ⟨v, rfl, hv5, hb2⟩
      obtain ⟨a5, c5, rfl, hS5⟩ := hv5.strs (by omega)
      have HV5 := Lib.hid hv5
      obtain ⟨m5, hm5⟩ : ∃ m5, ws.length = m5 := ⟨_, rfl⟩
      have HS5 := Lib.hid hS5
      rw [hm5] at HV5 HS5 ⊢
      have HB2 := Lib.hid hb2
      have HF := Lib.hid (fun W (hb : Below w2.heap.size w2 W) => findP a7 n7 c7 (rdsN x lo hi k) a5 m5 c5 (some ⟨w2.heap.size, 0, none⟩) 1 1 ws W (HR7.out.mono (Nat.le_refl _) (bstep HB2.out hb)) (HS5.out.mono (Nat.le_refl _) hb))
      clear hb2 hv5 hS5 hm5 hwl q0 q1 q2 q3
      go_wp2_with (fail)
      obtain ⟨W6, hW6⟩ : ∃ W6, ((w2.alloc (.cells #[.int .i64 k] 3)).alloc (.cells #[.slice a5 m5 c5, .slice (some ⟨w2.heap.size, 0, none⟩) 1 1] 39)) = W6 := ⟨_, rfl⟩
      have B6 : Below w2.heap.size w2 W6 := by rw [← hW6]; exact bstep (balloc _ _) (balloc _ _)
      have HB6 := Lib.hid B6
      have HZ6 := Lib.hid (show OwnI 3 W6 wr.heap.size (.slice (some ⟨w2.heap.size, 0, none⟩) 1 1) [(k : Int)] by rw [← hW6]; exact (OwnI.one HB2.out.size _ ⟨by omega, by omega⟩).below (balloc _ _))
      have K9 := Lib.hid (show W6.cell? ⟨w2.heap.size + 1, 0, none⟩ = some (.slice a5 m5 c5) by rw [← hW6]; exact cell_fresh (by simp) rfl)
      have K9b := Lib.hid (show W6.cell? ⟨w2.heap.size + 1, 1, none⟩ = some (.slice (some ⟨w2.heap.size, 0, none⟩) 1 1) by rw [← hW6]; exact cell_fresh (by simp) rfl)
      rw [hW6]
      clear hW6 B6
      refine (HF.out _ HB6.out).mono ?_
      rintro e w3 ⟨rfl, hb3⟩
      have HB3 := Lib.hid (bstep (bstep HB2.out HB6.out) hb3)
      have hsz3 := HB3.out.size
      have HO3 := Lib.hid (HO.out.below HB3.out)
      rcases idxF_cases (fun r : Rdg => decide (ws = r.1)) (rdsN x lo hi k) with ⟨hq, hno⟩ | ⟨i, r, hq, hil, hr, hp, hlt⟩
      · have HS2 := Lib.hid (show rdsN x lo hi (k + 1) = rdsN x lo hi k ++ [(ws, [(k : Int)])] by rw [HS.out, addR_none fun r hr he => by have := hno r hr; simp [he] at this])
        obtain ⟨vs, hrow, hnx⟩ := HO.out.ready (Nat.le_trans (by omega) hsz) HB3.out (((HV5.out.mono hsz).below HB6.out).below hb3) (HZ6.out.below hb3)
        rw [HN7.out] at hrow hnx
        have HROW := Lib.hid hrow
        have HNX := Lib.hid hnx
        have k9 := cell_keep hb3 K9.out
        have k9b := cell_keep hb3 K9b.out
        rw [hq]
        clear hrow hnx hno hq hb3
        go_wp2_with (at_builtin; refine wpList_append_own _ rfl _ _ 34 rfl W4.heap.size 39 i0 (.agg #[.slice none 0 0, .slice none 0 0]) 2 48 Tryz.underlying34 hi0 hz0 hz1 hz2 rfl (by decide) _ _ _ rfl (HROW.out.alloc _) ⟨w3.heap.size, 0, none⟩ 1 1 [.slice a5 m5 c5, .slice (some ⟨w2.heap.size, 0, none⟩) 1 1] rfl rfl (cell_two_new _ _ _ _) (by simp [Value.oneCell']) (by unfold maxLen; omega) (by omega) (by simp; omega) ?_; intro v1 w4 hown1 hgrow1 _; have HW3 := Lib.hid hown1; have HG := Lib.hid hgrow1; clear hown1 hgrow1)
        obtain ⟨j1, j2⟩ := HNX.out _ _ _ HW3.out HG.out
        go_roundw
        case rel => exact ⟨k + 1, by omega, by simp, by rw [HS2.out]; exact j1, (HB.out.trans (HB3.out.mono hsz)).trans j2⟩
        case measure => simp [intOf]; omega
      · obtain ⟨g, cap, u, z, hv7, hbg, cu, cz, ou, oz⟩ := HO3.out.at hr
        rw [HN7.out] at hil hv7
        injection hv7 with ha7 _ hc7
        subst ha7 hc7
        have HS2 := Lib.hid (show rdsN x lo hi (k + 1) = (rdsN x lo hi k).set i (r.1, r.2 ++ [(k : Int)]) by
          rw [HS.out]
          have hwr := of_decide_eq_true hp
          rw [hwr]
          exact addR_at (l := r.2) hr (fun j y hj hy he => by have := hlt j y hj hy; rw [hwr] at this; simp [he] at this))
        have HR := Lib.hid hr
        have HZ := Lib.hid oz
        have hrl : r.2.length ≤ 32 := by have := rdsN_src x lo hi k r (List.mem_of_getElem? hr); omega
        have HCZ := Lib.hid cz
        have d0 : decide ((i : Int) < 0) = false := by simp
        have d1 : (i : Int) < (n7 : Int) := by omega
        rw [hq]
        clear hlt hp hq hr oz ou cu hb3 hbg
        go_wp2_with (at_builtin; refine wpList_append_own_at _ rfl _ _ 37 rfl W4.heap.size 3 i9 (.int .i64 0) 1 8 Tryz.underlying37 hi9 hy0 hy1 hy2 rfl (by decide) _ _ _ rfl (HZ.out.1.alloc _) ⟨w3.heap.size, 0, none⟩ 1 1 [.int .i64 k] rfl rfl (cell_one_new _ _ _) (by simp [Value.oneCell']) (by unfold maxLen; omega) (by omega) (by simp; omega) ?_; intro v1 w4 hown1 hgrow1 _ hblk1; obtain ⟨g', cap', rfl⟩ := ownsRow_succ hown1; have hfree := OwnRd.free (k := i * 2 + 1) HO3.out HZ.out HN7.out.symm hgrow1; have hstay := OwnRd.stays (k := i * 2 + 1) HO3.out HZ.out HN7.out.symm hgrow1 HCZ.out; have HW3 := Lib.hid hown1; have HG := Lib.hid hgrow1; have HBL := Lib.hid hblk1; clear hown1 hgrow1 hblk1)
        obtain ⟨j1, j2⟩ := OwnRd.more (by rw [HN7.out]; exact HO3.out) (by omega) HR.out HCZ.out ⟨by omega, by omega⟩ HW3.out HG.out HBL.out
        rw [HN7.out] at j1
        go_roundw
        case rel => exact ⟨k + 1, by omega, by simp, by rw [HS2.out]; exact j1, (HB.out.trans (HB3.out.mono hsz)).trans j2⟩
        case measure => simp [intOf]; omega
    · obtain rfl : k = n1 := by omega
      clear hb
      have HRE := Lib.hid (show rdsN x lo hi k = rdsL x lo hi by unfold rdsL; rw [HL1.out])
      go_wp2_with (fail)
      go_ret
      exact ⟨_, rfl, by rw [← HRE.out]; have := HO.out.mono hsz4; exact this, bstep HB4.out HB.out⟩
end Go.Proofs.YthfppkcefnmdoaaGreatDoor
