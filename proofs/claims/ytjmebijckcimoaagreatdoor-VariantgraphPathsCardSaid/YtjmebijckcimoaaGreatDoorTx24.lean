/-
  Text of a collation.
-/
import Derived.Test.YtjmebijckcimoaaGreatDoorCn24
namespace Go.Proofs.YtjmebijckcimoaaGreatDoor
open Go.RowKit Go.Ap Go.Shelf Go.Proofs
def GivesW (w : World) (r : List Str × Int) (e : Ending) (w' : World) : Prop := ∃ v, e = .returned (.tuple #[v, .int .i64 r.2]) ∧ OwnS w' w.heap.size v r.1 ∧ Below w.heap.size w w'

attribute [local go_sem] Oper.semAt_some bs_toList empty_toList bs_size bs_extract
set_option maxRecDepth 100000 in
set_option maxHeartbeats 4000000 in
theorem wordsT (a : Option Addr) (n c : Nat) (l : List Tok) (w : World) (h : Toks w a n l) (hn : n ≤ 1048576) :
    Calls Tryz.prog 54 #[.slice a n c] w fun e w' => ∃ v, e = .returned v ∧ OwnS w' w.heap.size v (l.map (·.text)) ∧ Below w.heap.size w w' := by
  obtain ⟨i0, hi0, hz0, hz1, hz2⟩ := info_parts infoStr24
  have hl := h.len
  have HX := Lib.hid h
  have HL := Lib.hid hl
  clear h hl
  go_enter Tryz.func54, Tryz.ntmps54
  go_wp2_with (fail)
  go_loopw [3, 8] (fun ov kv wr => ∃ k : Nat, k ≤ n ∧ kv = .int .i64 k ∧ OwnS wr w.heap.size ov ((l.take k).map (·.text)) ∧ Below w.heap.size w wr) (fun _ kv _ => n - (intOf kv).toNat)
  case atStart => exact ⟨0, Nat.zero_le _, rfl, OwnS.nil _ _, Below.refl _ _⟩
  case round =>
    obtain ⟨wk, rfl⟩ : ∃ wk : World, wk = wr := ⟨_, rfl⟩
    obtain ⟨k, hk, rfl, ho, hb⟩ := hrel
    have HO := Lib.hid ho
    have HB := Lib.hid hb
    have hsz := hb.size
    by_cases hlt : k < n
    · obtain ⟨t, b, off, ht, rfl, ⟨⟨q0, q1, q2, q3, q4, q5⟩, _⟩⟩ := (Toks.mono HX.out (Nat.le_refl _) hb).at hlt
      have HN := Lib.hid (show (l.take (k + 1)).map (·.text) = (l.take k).map (·.text) ++ [t.text] by rw [List.take_add_one, ht]; simp)
      have i1 : (k : Int) < (n : Int) := by omega
      have hb1 := balloc wk (.cells #[.string (bs t.text), .string (bs t.norm), .string (bs t.page), .int .i64 t.line, .int .i64 t.flags, .string (bs t.name)] 65)
      have HO1 := Lib.hid (HO.out.below hb1)
      have HB1 := Lib.hid (bstep hb hb1)
      obtain ⟨m, hm⟩ : ∃ m, (l.take k).length = m := ⟨_, rfl⟩
      have hmk : m ≤ k := by rw [← hm]; exact List.length_take_le _ _
      have HM := Lib.hid hm
      have HOW := Lib.hid (show (wk.alloc (.cells #[.string (bs t.text), .string (bs t.norm), .string (bs t.page), .int .i64 t.line, .int .i64 t.flags, .string (bs t.name)] 65)).ownsRow w.heap.size 9 1 _ m (((l.take k).map (·.text)).map sv) by have := HO1.out; unfold OwnS at this; rwa [List.length_map, hm] at this)
      have HNW := Lib.hid (show ∀ (j : Nat) (u : Value), [.string (bs t.text)][j]? = some u → ((wk.alloc (.cells #[.string (bs t.text), .string (bs t.norm), .string (bs t.page), .int .i64 t.line, .int .i64 t.flags, .string (bs t.name)] 65)).alloc (.cells #[.string (bs t.text)] 9)).cell? ((⟨wk.heap.size + 1, 0, none⟩ : Addr).add j) = some u from World.news_of_block (cs := #[.string (bs t.text)]) (heap_fresh (by simp)))
      have hszw := HB1.out.size
      clear ho hb ht hb1 hm
      go_wp2_with (at_builtin; refine wpList_append_own _ rfl _ _ 22 rfl w.heap.size 9 i0 (.string { data := #[] }) 1 16 Tryz.underlying22 hi0 hz0 hz1 hz2 rfl (by decide) _ _ _ rfl (HOW.out.alloc _) ⟨wk.heap.size + 1, 0, none⟩ 1 1 [.string (bs t.text)] rfl rfl HNW.out (by simp [Value.oneCell']) (by unfold maxLen; omega) (by omega) (by simp at hszw ⊢; omega) ?_; intro v1 w4 hown1 hgrow1 _; have HO3 := Lib.hid hown1; have HG := Lib.hid hgrow1; clear hown1 hgrow1)
      obtain ⟨j1, j2⟩ := OwnS.pushed (x := t.text) HO1.out hszw (by rw [List.length_map, HM.out]; exact HO3.out) HG.out
      go_roundw
      case rel => exact ⟨k + 1, by omega, by simp, by rw [HN.out]; exact j1, HB1.out.trans j2⟩
      case measure => simp [intOf]; omega
    · obtain rfl : k = n := by omega
      have HN := Lib.hid (show l.take k = l from List.take_of_length_le (by rw [HL.out]; exact Nat.le_refl _))
      rw [HN.out] at HO
      go_wp2_with (fail)
      go_ret
      exact ⟨_, rfl, HO.out, HB.out⟩
set_option maxRecDepth 100000 in
set_option maxHeartbeats 4000000 in
theorem textC (x : Coll) (a1 : Option Addr) (n1 c1 : Nat) (a2 : Option Addr) (n2 c2 : Nat) (a3 : Option Addr) (n3 c3 : Nat) (w : World) (h : CollM w a1 a2 a3 n1 n2 n3 x) (hc1 : n1 ≤ c1) (hev : EV w) (hok : collC x = 0) (s : Nat) (hs : s < x.sigla.length) :
    Calls Tryz.prog 27 #[collV x.sec a1 n1 c1 a2 n2 c2 a3 n3 c3, .int .i64 s] w (GivesW w (readL x s 0 x.columns.length, 0)) := by
  have hl1 := h.sigla.len
  have hl2 := h.tokens.len
  have hv := val_of hok
  have h12 := hv.toks
  have HCK := Lib.hid (fun W (hb : Below w.heap.size w W) => collP x a1 n1 c1 a2 n2 c2 a3 n3 c3 W (h.mono (Nat.le_refl _) hb) hc1 (hev.mono (Nat.le_refl _) hb))
  rw [hok] at HCK
  have HB4 := Lib.hid (balloc w (.cells #[.string (bs x.sec), .slice a1 n1 c1, .slice a2 n2 c2, .slice a3 n3 c3] 26))
  have HBX := Lib.hid (BoxC.new w x.sec a1 n1 c1 a2 n2 c2 a3 n3 c3)
  obtain ⟨l, b5, o5, v5, hl5, rfl, hcv5, a5, n5, c5, rfl, ht5⟩ := h.tokens.at (show s < n2 by omega)
  have hln := ht5.len
  have hl1k := (hv.rows l (List.mem_of_getElem? hl5)).1
  have HRA := Lib.hid (read_all hv hs hl5)
  have HWT := Lib.hid (fun W (hb : Below w.heap.size w W) => wordsT a5 n5 c5 l W (Toks.mono ht5 (Nat.le_refl _) hb) (by omega))
  have HCV := Lib.hid hcv5
  have d1 : decide (n1 ≤ s) = false := by simp; omega
  have i1 : (s : Int) < (n2 : Int) := by omega
  clear h hc1 hev hok hv hl5 ht5 hcv5
  unfold collV at HCK ⊢
  go_enter Tryz.func27, Tryz.ntmps27
  obtain ⟨q0, q1, q2, q3⟩ := HBX.out
  go_wp2_with (fail)
  refine (HCK.out _ HB4.out).mono ?_
  rintro e w1 ⟨rfl, hb1⟩
  clear q0 q1 q2 q3
  obtain ⟨q0, q1, q2, q3⟩ := HBX.out.below hb1
  have HB1 := Lib.hid (bstep HB4.out hb1)
  have g0 := cell_keep HB1.out HCV.out
  clear hb1
  go_wp2_with (fail)
  refine (HWT.out _ HB1.out).mono ?_
  rintro e w2 ⟨v, rfl, ho, hb2⟩
  go_wp2_with (fail)
  go_ret2
  exact ⟨v, rfl, by rw [HRA.out]; exact ho.mono HB1.out.size, bstep HB1.out hb2⟩
end Go.Proofs.YtjmebijckcimoaaGreatDoor
