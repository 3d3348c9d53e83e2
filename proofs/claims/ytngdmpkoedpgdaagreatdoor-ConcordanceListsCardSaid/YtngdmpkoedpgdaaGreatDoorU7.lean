import Derived.Test.YtngdmpkoedpgdaaGreatDoorU8
import Derived.Test.YtngdmpkoedpgdaaGreatDoorFd
import Derived.Test.YtngdmpkoedpgdaaGreatDoorIs
import Derived.Test.YtngdmpkoedpgdaaGreatDoorGr5
import Derived.Test.YtngdmpkoedpgdaaGreatDoorMr5
import Derived.Test.YtngdmpkoedpgdaaGreatDoorFr5
import Derived.Test.YtngdmpkoedpgdaaGreatDoorPa5

/-
  Equality of two rows of strings; some list that is not empty.
-/

namespace Go.Proofs.YtngdmpkoedpgdaaGreatDoor
open Go.RowKit Go.Ap Go.Shelf Go.Proofs

attribute [local go_sem] Oper.semAt_some bs_toList empty_toList bs_size bs_extract
theorem map_bs_inj : ∀ {xs ys : List Str}, xs.map bs = ys.map bs → xs = ys
  | [], [], _ => rfl
  | [], _ :: _, h => by simp at h
  | _ :: _, [], h => by simp at h
  | x :: xs, y :: ys, h => by
    rw [List.map_cons, List.map_cons] at h
    injection h with h1 h2
    rw [bs_inj h1, map_bs_inj h2]
theorem eqStrs (a a' : Option Addr) (c c' n n' : Nat) (xs ys : List Str) (w : World) (h : StrsL w a n xs) (h' : StrsL w a' n' ys) : Calls Tryz.prog 57 #[.slice a n c, .slice a' n' c'] w fun e w' => e = .returned (.bool (decide (xs = ys))) ∧ ∃ q, w' = w.drewN q := by
  have hl := h.len
  have hl' := h'.len
  have hs := h.small
  have hs' := h'.small
  by_cases hn : n = n'
  · subst hn
    rcases Nat.eq_zero_or_pos n with h0 | h0
    · subst h0
      have e1 : xs = [] := List.eq_nil_of_length_eq_zero hl
      have e2 : ys = [] := List.eq_nil_of_length_eq_zero hl'
      subst e1 e2
      exact (Tryz.slices_Equal_string_empty a a' c 0 c' w (by omega)).mono fun e w' ⟨he, hw⟩ => ⟨by rw [he]; rfl, 0, hw⟩
    · obtain ⟨b, off, rfl, hc⟩ := h.at h0
      obtain ⟨b', off', rfl, hc'⟩ := h'.at h0
      have get : ∀ (zs : List Str) (j : Nat), j < (zs.map bs).length → ∃ z, zs[j]? = some z ∧ (zs.map bs).getD j ByteArray.empty = bs z := fun zs j hj => by
        have hj' : j < zs.length := by simpa using hj
        exact ⟨zs[j], List.getElem?_eq_getElem hj', by simp [List.getD, hj']⟩
      refine (Tryz.slices_Equal_string b off n c b' off' n c' (xs.map bs) (ys.map bs) w (by simp [hl]) (by simp [hl']) (by omega) (by omega) (fun j hj => ?_) (fun j hj => ?_)).mono fun e w' ⟨he, hw⟩ => ⟨?_, hw⟩
      · obtain ⟨z, hz, he⟩ := get xs j hj
        rw [he]; exact hc j z hz
      · obtain ⟨z, hz, he⟩ := get ys j hj
        rw [he]; exact hc' j z hz
      · rw [he, List.take_of_length_le (by simp [hl]), List.take_of_length_le (by simp [hl'])]
        exact ret_b (by
          rw [decide_eq_decide]
          exact ⟨fun h => map_bs_inj h, fun h => by rw [h]⟩)
  · exact (Tryz.slices_Equal_string_lens a a' n c n' c' w hn).mono fun e w' ⟨he, hw⟩ => ⟨by
      rw [he]
      exact ret_b (by rw [eq_comm, decide_eq_false_iff_not]; intro h; exact hn (by rw [← hl, ← hl', h])), 0, hw⟩
/-- two readings of the same words -/
theorem some51 (l : List Post) (a : Option Addr) (n c : Nat) (w : World) (h : Posts w a n l) : Calls Tryz.prog 51 #[.slice a n c] w fun e w' => e = .returned (.bool (decide (0 < n))) ∧ Below w.heap.size w w' := by
  have hsm := h.small
  clear h
  go_enter Tryz.func51, Tryz.ntmps51
  go_wp2_with (fail)
  go_ret
  exact ⟨by simp, Below.refl _ _⟩
end Go.Proofs.YtngdmpkoedpgdaaGreatDoor

/-
  Find (reference).
-/


namespace Go.Proofs.YtngdmpkoedpgdaaGreatDoor
open Go.RowKit Go.Ap Go.Shelf Go.Proofs

attribute [local go_sem] Oper.semAt_some bs_toList empty_toList bs_size bs_extract
theorem simple115 (s : Str) (w : World) (hs : s.length ≤ 65536) : Calls Tryz.prog 115 #[.string (bs s)] w fun e w' => e = .returned (.string (bs (formS s))) ∧ Below w.heap.size w w' := by
  have HP := Lib.hid (plainR s w hs)
  have HF := Lib.hid (fun W => foldR (plainM mkB s) W (Nat.le_trans (plainM_le mkB s) hs))
  have HE := Lib.hid (show foldS (plainM mkB s) = formS s from rfl)
  rw [HE.out] at HF
  generalize plainM mkB s = p at *
  generalize formS s = f at *
  go_enter Tryz.func115, Tryz.ntmps115
  go_wp2_with (fail)
  refine HP.out.mono ?_
  rintro e w1 ⟨rfl, hb1⟩
  go_wp2_with (fail)
  refine (HF.out _).mono ?_
  rintro e w2 ⟨rfl, hb2⟩
  go_wp2_with (fail)
  go_ret
  exact ⟨rfl, bstep hb1 hb2⟩
set_option maxRecDepth 100000 in
set_option maxHeartbeats 8000000 in
theorem findR (l : List Post) (s : Str) (a : Option Addr) (n c : Nat) (w : World) (h : Posts w a n l) (hs : s.length ≤ 65536) :
    Calls Tryz.prog 53 #[.slice a n c, .string (bs s)] w fun e w' => WordsA e w w' (findC l s) (findS l s) := by
  obtain ⟨i0, hi, hz0, hz1, hz2⟩ := info_parts infoPost
  have HI := Lib.hid (indexR l a n c w h)
  have HX := Lib.hid h
  have hlen := h.len
  have hsm := h.small
  have HLN := Lib.hid hlen
  have HFS := Lib.hid (fun W => simple115 s W hs)
  have HFW := Lib.hid (fun (t : Str) (ht : t.length ≤ 65536) W => simple115 t W ht)
  obtain ⟨base, hbase⟩ : ∃ b, w.heap.size = b := ⟨_, rfl⟩
  have HBS := Lib.hid hbase
  unfold findC
  obtain ⟨L, hL⟩ : ∃ L, findS l s = L := ⟨_, rfl⟩
  have HL := Lib.hid hL
  rw [hL]
  clear h hlen hbase hL hs
  cases hx : indexB l
  · rw [hx] at HI
    simp only [if_true]
    clear hx
    go_enter Tryz.func53, Tryz.ntmps53
    go_wp2_with (fail)
    refine HI.out.mono ?_
    rintro e W ⟨rfl, hb⟩
    go_wp2_with (fail)
    go_ret2
    exact WordsA.bad (by decide) hb
  · rw [hx] at HI
    simp only [Bool.true_eq_false, if_false]
    have HVL := Lib.hid (indexB_valid hx).2
    have hn4 : n ≤ 4096 := by have := (indexB_valid hx).1; have := HLN.out; omega
    obtain ⟨C, hC⟩ : ∃ C : Int, (if L = [] then (6 : Int) else 0) = C := ⟨_, rfl⟩
    have HCC := Lib.hid hC
    rw [hC]
    clear hC
    clear hx
    go_enter Tryz.func53, Tryz.ntmps53
    go_wp2_with (fail)
    refine HI.out.mono ?_
    rintro e W ⟨rfl, hb⟩
    have HB0 := Lib.hid hb
    have HB1 := Lib.hid (show Below base w (W.alloc (.cells #[] 37)) by have := bstep HB0.out (balloc W (.cells #[] 37)); rw [HBS.out] at this; exact this)
    have HO1 := Lib.hid (show OwnPs 37 w (W.alloc (.cells #[] 37)) base (.slice (some ⟨W.heap.size, 0, none⟩) 0 0) (findS (l.take 0) s) from OwnPs.empty _ _ _ (by have := hb.size; have := HBS.out; omega))
    clear hb
    go_wp2_with (fail)
    go_loopw [7, 6] (fun iv ov wr => ∃ i : Nat, i ≤ n ∧ iv = .int .i64 i ∧ OwnPs 37 w wr base ov (findS (l.take i) s) ∧ Below base w wr) (fun iv _ _ => n - (intOf iv).toNat)
    case atStart => exact ⟨0, Nat.zero_le _, rfl, HO1.out, HB1.out⟩
    case round =>
      obtain ⟨wi, rfl⟩ : ∃ wi : World, wi = wr := ⟨_, rfl⟩
      obtain ⟨i, hile, rfl, ho, hb⟩ := hrel
      have HB := Lib.hid hb
      have HO := Lib.hid ho
      have HSZ := Lib.hid (show base ≤ wi.heap.size by have := hb.size; have := HBS.out; omega)
      have HFL := Lib.hid (show (findS (l.take i) s).length ≤ 4096 by
        have a : (findS (l.take i) s).length ≤ (l.take i).length := List.length_filter_le _ _
        rw [List.length_take] at a
        have := HLN.out
        omega)
      by_cases hin : i < n
      · obtain ⟨p, bb, off, hp, rfl, a1, k1, c0, c1, c2, hps⟩ := HX.out.at hin
        obtain ⟨⟨wd, sc⟩, ls⟩ := p
        have HSN := Lib.hid (findS_snoc s hp)
        have HPS := Lib.hid hps
        have HQ1 := Lib.hid (show wd.length ≤ 65536 by have := isWordB_64 (validB_parts (HVL.out _ (List.mem_of_getElem? hp))).1; simp only at this; omega)
        simp only at c0 c1 c2
        replace c0 := Go.Ap.cell_kept (Nat.le_of_eq HBS.out) hb c0
        replace c1 := Go.Ap.cell_kept (Nat.le_of_eq HBS.out) hb c1
        replace c2 := Go.Ap.cell_kept (Nat.le_of_eq HBS.out) hb c2
        obtain ⟨m, hm⟩ : ∃ m, ls.length = m := ⟨_, rfl⟩
        rw [hm] at c2
        have HM := Lib.hid hm
        have HO1 := Lib.hid ho
        have HB1 := Lib.hid hb
        have HSZ1 := Lib.hid HSZ.out
        have HC0 := Lib.hid c0
        have HC1' := Lib.hid c1
        have HC2 := Lib.hid c2
        have HC1 := Lib.hid (HFW.out wd HQ1.out wi)
        have i1 : (i : Int) < (n : Int) := by omega
        simp only at HSN
        obtain ⟨f1, hf1⟩ : ∃ f, formS wd = f := ⟨_, rfl⟩
        obtain ⟨f2, hf2⟩ : ∃ f, formS s = f := ⟨_, rfl⟩
        rw [hf1] at HSN HC1
        rw [hf2] at HSN
        have HCS := Lib.hid (fun W => by have := HFS.out W; rw [hf2] at this; exact this)
        clear hp hps hm hf1 hf2 ho hb c1 c2
        go_wp2_with (fail)
        refine HC1.out.mono ?_
        rintro e W2 ⟨rfl, hb2⟩
        have HD0 := Lib.hid (cell_keep hb2 HC0.out)
        have HD1 := Lib.hid (cell_keep hb2 HC1'.out)
        have HD2 := Lib.hid (cell_keep hb2 HC2.out)
        have HO2 := Lib.hid (HO1.out.below hb2)
        have HB2 := Lib.hid (HB1.out.trans (hb2.mono HSZ1.out))
        have HSZ2 := Lib.hid (show base ≤ W2.heap.size by have := hb2.size; have := HSZ1.out; omega)
        clear hb2 c0
        go_wp2_with (fail)
        refine (HCS.out W2).mono ?_
        rintro e W3 ⟨rfl, hb3⟩
        have HE0 := Lib.hid (cell_keep hb3 HD0.out)
        have HE1 := Lib.hid (cell_keep hb3 HD1.out)
        have HE2 := Lib.hid (cell_keep hb3 HD2.out)
        have HO3 := Lib.hid (HO2.out.below hb3)
        have HB3 := Lib.hid (HB2.out.trans (hb3.mono HSZ2.out))
        have HSZ3 := Lib.hid (show base ≤ W3.heap.size by have := hb3.size; have := HSZ2.out; omega)
        clear hb3
        by_cases he : f1 = f2
        · rw [if_pos he] at HSN
          have e1 : (f1 == f2) = true := by rw [beq_iff_eq]; exact he
          have k0 := HE0.out
          have k1' := HE1.out
          have k2 := HE2.out
          obtain ⟨xs, hrow, hpush⟩ := HO3.out.ready
          have HROW := Lib.hid hrow
          have HPU := Lib.hid hpush
          have HNW := Lib.hid (show ∀ (j : Nat) (u : Value), [.string (bs wd), .string (bs sc), .slice a1 m k1][j]? = some u → (W3.alloc (.cells #[.string (bs wd), .string (bs sc), .slice a1 m k1] 37)).cell? ((⟨W3.heap.size, 0, none⟩ : Addr).add j) = some u from World.news_of_block (cs := #[.string (bs wd), .string (bs sc), .slice a1 m k1]) (heap_fresh rfl))
          clear he hrow hpush
          go_wp2_with (at_builtin; refine wpList_append_own _ rfl _ _ 27 rfl base 37 i0 (.agg #[.string { data := #[] }, .string { data := #[] }, .slice none 0 0]) 3 56 Tryz.underlying27 hi hz0 hz1 hz2 rfl (by decide) _ _ _ rfl (HROW.out.alloc _) ⟨W3.heap.size, 0, none⟩ 1 1 [.string (bs wd), .string (bs sc), .slice a1 m k1] rfl rfl HNW.out (by simp [Value.oneCell']) (by have := HFL.out; unfold maxLen; omega) (by have := HFL.out; omega) (by have := HSZ3.out; simp; omega) ?_)
          intro v' w9 hown' hgr' _
          have HO9 := Lib.hid (show OwnPs 37 w w9 base v' (findS (l.take (i + 1)) s) by
            rw [HSN.out]
            exact HPU.out w9 v' [(((wd, sc), ls), .slice a1 m k1)] _ (by simpa [piC] using hown') (by simp) (fun p hp => by
              rw [List.mem_singleton] at hp
              subst hp
              exact ⟨a1, k1, by simp only [HM.out], HPS.out⟩))
          have HB9 := Lib.hid ((HB3.out.alloc HSZ3.out _).grown hgr' (by have := HSZ3.out; simp; omega) (fun k hk => (HROW.out.lt k hk).1))
          clear hown' hgr'
          go_wp2_with (fail)
          go_roundw
          case rel => exact ⟨i + 1, by omega, by simp, HO9.out, HB9.out⟩
          case measure => simp [intOf]; omega
        · rw [if_neg he, List.append_nil] at HSN
          have e1 : (f1 == f2) = false := by rw [beq_eq_false_iff_ne]; exact he
          clear he
          go_wp2_with (fail)
          exact ⟨⟨i + 1, by omega, by simp, by rw [HSN.out]; exact HO3.out, HB3.out⟩, by simp [intOf]; omega⟩
      · obtain rfl : n = i := by omega
        have hL : findS (l.take n) s = L := by rw [List.take_of_length_le (Nat.le_of_eq HLN.out)]; exact HL.out
        rw [hL] at HO HFL
        obtain ⟨a9, c9, rfl, hp9, hc9⟩ := HO.out.gives (by have := HFL.out; omega) (by have := HB.out; rw [← HBS.out] at this; exact this)
        have HP9 := Lib.hid hp9
        have HC9 := Lib.hid hc9
        obtain ⟨k9, hk9⟩ : ∃ k, L.length = k := ⟨_, rfl⟩
        have HK9 := Lib.hid hk9
        simp only [hk9]
        clear ho hb hL hp9 hc9
        by_cases h0 : L = []
        · have hC := HCC.out
          rw [if_pos h0] at hC
          subst hC
          have e1 : ((k9 : Int) == 0) = true := by rw [← hk9, h0]; rfl
          clear hk9 h0
          go_wp2_with (fail)
          go_ret2
          exact WordsA.bad (by decide) (by rw [HBS.out]; exact HB.out)
        · have hC := HCC.out
          rw [if_neg h0] at hC
          subst hC
          have e1 : ((k9 : Int) == 0) = false := by
            rw [beq_eq_false_iff_ne, ← hk9]
            intro e
            exact h0 (List.eq_nil_of_length_eq_zero (by omega))
          clear hk9 h0
          go_wp2_with (fail)
          go_ret2
          exact ⟨.slice a9 k9 c9, rfl, fun _ => ⟨a9, c9, by rw [HK9.out], HP9.out, HC9.out⟩, fun h => absurd rfl h, by rw [HBS.out]; exact HB.out⟩
end Go.Proofs.YtngdmpkoedpgdaaGreatDoor

/-
  A search in lists of postings with a test of which only one side is known.
-/





namespace Go.Ap
open Go Go.RowKit
theorem flat_le {ls : List (List Post)} {k : Nat} (h : ∀ u ∈ ls, u.length ≤ k) : ls.flatten.length ≤ ls.length * k := by
  induction ls with
  | nil => simp
  | cons u r ih =>
    have h1 := h u (List.mem_cons_self ..)
    have h2 := ih fun v hv => h v (List.mem_cons_of_mem _ hv)
    simp only [List.flatten_cons, List.length_append, List.length_cons]
    rw [Nat.succ_mul]
    omega
theorem flat_nil {ls : List (List Post)} (h : ∀ u ∈ ls, u.length = 0) : ls.flatten = [] := by
  rw [List.flatten_eq_nil_iff]
  exact fun u hu => List.eq_nil_of_length_eq_zero (h u hu)
end Go.Ap
namespace Go.Proofs.YtngdmpkoedpgdaaGreatDoor
open Go.RowKit Go.Ap Go.Shelf Go.Proofs

attribute [local go_sem] Oper.semAt_some bs_toList empty_toList bs_size bs_extract
set_option maxHeartbeats 1000000 in
theorem idxPsQ (Q : List Post → Prop) (a : Option Addr) (n c : Nat) (xs : List (List Post)) (g : Nat) (cap : Array Value) (w : World) (h : Posts2 w a n xs)
    (eg : ∀ args w, (callFunc g args).run Tryz.prog w = .ok (.enter g args) w)
    (hp : ∀ u ∈ xs, ∀ W a1 n1 c1, Posts W a1 n1 u → Below w.heap.size w W → Calls Tryz.prog g (#[.slice a1 n1 c1] ++ cap) W fun e w' => (∃ b, e = .returned (.bool b) ∧ (b = false → Q u)) ∧ Below W.heap.size W w') :
    Calls Tryz.prog 113 #[.slice a n c, .func (.func g) #[] cap] w fun e w' => (∃ r : Int, e = .returned (.int .i64 r) ∧ (r < 0 → ∀ u ∈ xs, Q u)) ∧ Below w.heap.size w w' := by
  have hlen := h.len
  have hsm := h.small
  have HL := Lib.hid hlen
  have HP := Lib.hid hp
  have HX := Lib.hid h
  clear hlen hp h
  go_enter Tryz.func113, Tryz.ntmps113
  go_wp2_with (fail)
  go_loopw [8] (fun i wr => ∃ k : Nat, k ≤ n ∧ i = .int .i64 k ∧ Below w.heap.size w wr ∧ ∀ (j : Nat) u, j < k → xs[j]? = some u → Q u) (fun i _ => n - (intOf i).toNat)
  case atStart => exact ⟨0, by omega, rfl, Below.refl _ _, fun j u hj => absurd hj (by omega)⟩
  case round =>
    obtain ⟨k, hk, rfl, hb, hch⟩ := hrel
    have HC := Lib.hid hch
    have HB := Lib.hid hb
    clear hch
    by_cases hlt : k < n
    · obtain ⟨t, b, off, v, ht, rfl, hcv, ⟨a1, n1, c1, rfl, hps⟩⟩ := Sl.at (Posts2.mono HX.out (Nat.le_refl _) hb) hlt
      have HT := Lib.hid ht
      have HCALL := Lib.hid (HP.out t (List.mem_of_getElem? ht) wr a1 n1 c1 hps hb)
      clear ht hb hps
      go_wp2_with (fail)
      refine HCALL.out.mono ?_
      rintro e w' ⟨⟨b1, rfl, hq⟩, hb2⟩
      have HB2 := Lib.hid (bstep HB.out hb2)
      have HQ := Lib.hid hq
      clear hb2 hq
      cases b1
      · have HQ := Lib.hid (HQ.out rfl)
        go_wp2_with (fail)
        exact ⟨⟨k + 1, by omega, by go_num, HB2.out, fun j u hj hu => by
          by_cases e : j = k
          · subst e
            obtain rfl := Option.some.inj (HT.out.symm.trans hu)
            exact HQ.out trivial
          · exact HC.out j u (by omega) hu⟩, by simp [intOf]; omega⟩
      · go_wp2_with (fail)
        go_ret
        exact ⟨⟨_, rfl, fun h => absurd h (by omega)⟩, HB2.out⟩
    · go_wp2_with (fail)
      go_ret
      exact ⟨⟨_, rfl, fun _ u hu => by
        obtain ⟨j, hj, rfl⟩ := List.getElem_of_mem hu
        exact HC.out j _ (by have := HL.out; omega) (List.getElem?_eq_getElem hj)⟩, HB.out⟩
set_option maxHeartbeats 1000000 in
theorem contPsQ (Q : List Post → Prop) (a : Option Addr) (n c : Nat) (xs : List (List Post)) (g : Nat) (cap : Array Value) (w : World) (h : Posts2 w a n xs)
    (eg : ∀ args w, (callFunc g args).run Tryz.prog w = .ok (.enter g args) w)
    (hp : ∀ u ∈ xs, ∀ W a1 n1 c1, Posts W a1 n1 u → Below w.heap.size w W → Calls Tryz.prog g (#[.slice a1 n1 c1] ++ cap) W fun e w' => (∃ b, e = .returned (.bool b) ∧ (b = false → Q u)) ∧ Below W.heap.size W w') :
    Calls Tryz.prog 50 #[.slice a n c, .func (.func g) #[] cap] w fun e w' => (∃ b, e = .returned (.bool b) ∧ (b = false → ∀ u ∈ xs, Q u)) ∧ Below w.heap.size w w' := by
  have H := Lib.hid (idxPsQ Q a n c xs g cap w h eg hp)
  clear hp eg h
  go_enter Tryz.func50, Tryz.ntmps50
  go_wp2_with (fail)
  refine H.out.mono ?_
  rintro e w1 ⟨⟨r, rfl, hq⟩, hb⟩
  have HQ := Lib.hid hq
  clear hq
  go_wp2_with (fail)
  go_ret
  exact ⟨⟨_, rfl, fun h => HQ.out (by simpa using h)⟩, hb⟩
/-- too many lists -/
theorem mergeRBig (ls : List (List Post)) (a : Option Addr) (n c : Nat) (w : World) (h64 : 64 < n) (hm : mergeC ls = 4) :
    Calls Tryz.prog 52 #[.slice a n c] w fun e w' => WordsA e w w' (mergeC ls) (mergeI ls) := by
  have d0 : decide ((64 : Int) < (n : Int)) = true := decide_eq_true (by omega)
  rw [hm]
  clear hm
  go_enter Tryz.func52, Tryz.ntmps52
  go_wp2_with (fail)
  go_ret2
  exact WordsA.bad (by decide) (Below.refl _ _)
theorem mergeRR (ls : List (List Post)) (a : Option Addr) (n c : Nat) (w : World) (h : Posts2 w a n ls) (ht1 : ls.flatten.length ≤ 4096) (ht2 : countL ls.flatten ≤ 100000) :
    Calls Tryz.prog 52 #[.slice a n c] w fun e w' => WordsA e w w' (mergeC ls) (mergeI ls) := by
  by_cases h64 : n ≤ 64
  · exact mergeR ls a n c w h ht1 ht2 h64
  · exact mergeRBig ls a n c w (by omega) (by unfold mergeC; rw [if_pos (by rw [h.len]; omega)])
/-- what is answered, as a slice of words -/
def ShowsS (e : Ending) (w w' : World) (c : Int) (n : Nat) (l : List Str) : Prop := ∃ a k, e = .returned (.tuple #[.slice a n k, .int .i64 c]) ∧ StrsL w' a n l ∧ Below w.heap.size w w'
theorem FreqA.shows {e : Ending} {w w' : World} {c c' : Int} {l l' : List Str} {n : Nat} (h : FreqA e w w' c l) (hc : c = c') (hl : shownP c l = l') (hn : l'.length = n) : ShowsS e w w' c' n l' := by
  subst hc hl hn
  obtain ⟨u, rfl, h1, h2, hb⟩ := h
  unfold shownP
  by_cases hc : c = 0
  · rw [if_pos hc]
    obtain ⟨a, k, rfl, hp⟩ := h1 hc
    exact ⟨a, k, rfl, hp, hb⟩
  · rw [if_neg hc, h2 hc]
    exact ⟨none, 0, rfl, Sl.nil _ _, hb⟩
def parseC (o : Option (List Post)) : Int := match o with | some _ => 0 | none => 3
theorem ParseA.shows {e : Ending} {w w' : World} {o : Option (List Post)} {c' : Int} {l' : List Post} {n : Nat} (h : ParseA e w w' o) (hc : parseC o = c') (hl : o.getD [] = l') (hn : l'.length = n) : ShowsP e w w' c' n l' := by
  subst hc hl hn
  obtain ⟨u, c, rfl, h1, h2, hb⟩ := h
  cases o with
  | none =>
    obtain ⟨rfl, rfl⟩ := h2 rfl
    exact ⟨none, 0, rfl, SlM.nil _ _, hb⟩
  | some l =>
    obtain ⟨rfl, a, k, rfl, hp⟩ := h1 l rfl
    exact ⟨a, k, rfl, hp, hb⟩
end Go.Proofs.YtngdmpkoedpgdaaGreatDoor
