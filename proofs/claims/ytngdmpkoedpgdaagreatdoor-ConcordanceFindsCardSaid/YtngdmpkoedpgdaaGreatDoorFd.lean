/-
  Find (program): the postings whose words are alike.
-/
import Derived.Test.YtngdmpkoedpgdaaGreatDoorWo
import Derived.Test.YtngdmpkoedpgdaaGreatDoorQ1
namespace Go.Ap
open Go Go.RowKit
/-- a posting with the slice of its lines -/
abbrev PIt := Post × Value
def piC (p : PIt) : List Value := [.string (bs p.1.1.1), .string (bs p.1.1.2), p.2]
theorem piC_len (p : PIt) : (piC p).length = 3 := rfl
theorem flat3 {α : Type} {f : α → List Value} {m : Nat} (hf : ∀ x, (f x).length = m) : ∀ {xs : List α} {k : Nat} {x : α} {i : Nat} {u : Value}, xs[k]? = some x → (f x)[i]? = some u → (xs.flatMap f)[k * m + i]? = some u
  | [], k, x, i, u, h, _ => by simp at h
  | y :: xs, 0, x, i, u, h, hu => by
    simp only [List.getElem?_cons_zero, Option.some.injEq] at h
    subst h
    rw [List.flatMap_cons, Nat.zero_mul, Nat.zero_add, List.getElem?_append_left (List.getElem?_eq_some_iff.1 hu).1]
    exact hu
  | y :: xs, k + 1, x, i, u, h, hu => by
    rw [List.flatMap_cons, List.getElem?_append_right (by rw [hf, Nat.succ_mul]; omega), hf, Nat.succ_mul, show k * m + m + i - m = k * m + i by omega]
    exact flat3 hf (by simpa using h) hu
/-- a row of postings of the call's own, whose lines lie in an elder world -/
def OwnPs (e : TypeId) (w0 w : World) (base : Nat) (v : Value) (l : List Post) : Prop :=
  ∃ ps : List PIt, ps.map (·.1) = l ∧ w.ownsRow base e 3 v ps.length (ps.flatMap piC) ∧ ∀ p ∈ ps, ∃ a k, p.2 = .slice a p.1.2.length k ∧ PostS w0 a p.1
section
variable {e : TypeId} {w0 w w' w1 : World} {base : Nat} {v : Value} {l : List Post}
theorem OwnPs.nil (e : TypeId) (w0 w : World) (base : Nat) : OwnPs e w0 w base (.slice none 0 0) [] := ⟨[], rfl, World.ownsRow_nil _ _ _ _, fun _ h => absurd h List.not_mem_nil⟩
theorem OwnPs.below (h : OwnPs e w0 w base v l) (hb : Below w.heap.size w w') : OwnPs e w0 w' base v l := by
  obtain ⟨ps, h1, h2, h3⟩ := h
  exact ⟨ps, h1, owns_below h2 hb, h3⟩
theorem OwnPs.elder (h : OwnPs e w0 w base v l) (hb : Below w0.heap.size w0 w1) : OwnPs e w1 w base v l := by
  obtain ⟨ps, h1, h2, h3⟩ := h
  exact ⟨ps, h1, h2, fun p hp => by obtain ⟨a, k, h4, h5⟩ := h3 p hp; exact ⟨a, k, h4, h5.mono (Nat.le_refl _) hb⟩⟩
theorem OwnPs.kept {row : Option Nat} (h : OwnPs e w0 w base v l) (hg : w.grownBy w' row) (hne : v.ownBlock = none ∨ v.ownBlock ≠ row) : OwnPs e w0 w' base v l := by
  obtain ⟨ps, h1, h2, h3⟩ := h
  exact ⟨ps, h1, h2.kept hg hne, h3⟩
theorem OwnPs.empty (e : TypeId) (w0 w : World) {base : Nat} (hw : base ≤ w.heap.size) : OwnPs e w0 (w.alloc (.cells #[] e)) base (.slice (some ⟨w.heap.size, 0, none⟩) 0 0) [] :=
  ⟨[], rfl, World.ownsRow_made w #[] 0 hw (by simp [maxLen]) rfl, fun _ h => absurd h List.not_mem_nil⟩
/-- ready for more -/
theorem OwnPs.ready (h : OwnPs e w0 w base v l) : ∃ xs : List Value, w.ownsRow base e 3 v l.length xs ∧ ∀ (w1 : World) (v' : Value) (qs : List PIt) (n' : Nat), w1.ownsRow base e 3 v' n' (xs ++ qs.flatMap piC) → n' = l.length + qs.length → (∀ p ∈ qs, ∃ a k, p.2 = .slice a p.1.2.length k ∧ PostS w0 a p.1) → OwnPs e w0 w1 base v' (l ++ qs.map (·.1)) := by
  obtain ⟨ps, h1, h2, h3⟩ := h
  have hl : ps.length = l.length := by rw [← h1, List.length_map]
  refine ⟨ps.flatMap piC, by rw [← hl]; exact h2, fun w1 v' qs n' ho hn hq => ⟨ps ++ qs, by rw [List.map_append, h1], ?_, fun p hp => ?_⟩⟩
  · rw [List.length_append, List.flatMap_append, hl, ← hn]
    exact ho
  · rcases List.mem_append.1 hp with hp | hp
    · exact h3 p hp
    · exact hq p hp
/-- .. read -/
theorem OwnPs.gives (h : OwnPs e w0 w base v l) (hn : l.length ≤ 4611686018427387903) (hb : Below w0.heap.size w0 w) : ∃ a c, v = .slice a l.length c ∧ Posts w a l.length l ∧ l.length ≤ c := by
  obtain ⟨ps, h1, h2, h3⟩ := h
  have hl : ps.length = l.length := by rw [← h1, List.length_map]
  rw [hl] at h2
  rcases h2.2 with ⟨rfl, h0⟩ | ⟨g, cap, cur, rfl, _, _, hc, _, _, _⟩
  · have : l = [] := List.eq_nil_of_length_eq_zero h0
    subst this
    exact ⟨none, 0, rfl, SlM.nil _ _, Nat.le_refl _⟩
  · refine ⟨_, cap, rfl, ⟨rfl, hn, fun k x hk => ⟨g, 0, rfl, ?_⟩⟩, hc⟩
    rw [← h1, List.getElem?_map, Option.map_eq_some_iff] at hk
    obtain ⟨p, hpk, rfl⟩ := hk
    obtain ⟨a, c, h4, h5⟩ := h3 p (List.mem_of_getElem? hpk)
    have hkl : k < l.length := by rw [← hl]; exact (List.getElem?_eq_some_iff.1 hpk).1
    have cl : ∀ i u, (piC p)[i]? = some u → i < 3 → w.cell? ⟨g, k * 3 + i, none⟩ = some u := fun i u hu hi => by
      rw [h2.cellAt (k * 3 + i) (by omega)]
      exact flat3 piC_len hpk hu
    rw [Nat.zero_add]
    exact ⟨a, c, cl 0 _ rfl (by omega), cl 1 _ rfl (by omega), by rw [← h4]; exact cl 2 _ rfl (by omega), h5.mono (Nat.le_refl _) hb⟩
end
end Go.Ap
namespace Go.Proofs.YtngdmpkoedpgdaaGreatDoor
open Go.RowKit Go.Ap Go.Shelf Go.Proofs

attribute [local go_sem] Oper.semAt_some bs_toList empty_toList bs_size bs_extract

theorem OwnPs.give {e : TypeId} {w0 w : World} {base : Nat} {v : Value} {l : List Post} (h : OwnPs e w0 w base v l) (hn : l.length ≤ 4611686018427387903) (hb : Below w0.heap.size w0 w) : GivesPo w v l := h.gives hn hb
theorem form93 (s : Str) (w : World) (hs : s.length ≤ 4611686018427387903) : Calls Tryz.prog 93 #[.string (bs s)] w fun e w' => e = .returned (.string (bs (formS s))) ∧ Below w.heap.size w w' := by
  have HP := Lib.hid (plainP s w hs)
  have HF := Lib.hid (fun W => foldP (plainM mkB s) W (Nat.le_trans (plainM_le mkB s) hs))
  have HE := Lib.hid (show foldS (plainM mkB s) = formS s from rfl)
  rw [HE.out] at HF
  generalize plainM mkB s = p at *
  generalize formS s = f at *
  go_enter Tryz.func93, Tryz.ntmps93
  go_wp2_with (fail)
  refine HP.out.mono ?_
  rintro e w1 ⟨rfl, hb1⟩
  go_wp2_with (fail)
  refine (HF.out _).mono ?_
  rintro e w2 ⟨rfl, hb2⟩
  go_wp2_with (fail)
  go_ret
  exact ⟨rfl, bstep hb1.below hb2.below⟩
theorem findS_snoc {l : List Post} {i : Nat} {p : Post} (s : Str) (h : l[i]? = some p) : findS (l.take (i + 1)) s = findS (l.take i) s ++ if formS p.1.1 = formS s then [p] else [] := by
  unfold findS
  rw [take_snoc h, List.filter_append]
  congr 1
  by_cases e : formS p.1.1 = formS s <;> simp [e]
def findC (l : List Post) (s : Str) : Int := if indexB l = false then 1 else if findS l s = [] then 6 else 0
set_option maxRecDepth 100000 in
set_option maxHeartbeats 8000000 in
theorem findP (l : List Post) (s : Str) (a : Option Addr) (n c : Nat) (w : World) (h : Posts w a n l) (hs : s.length ≤ 4611686018427387903) :
    Calls Tryz.prog 32 #[.slice a n c, .string (bs s)] w fun e w' => WordsA e w w' (findC l s) (findS l s) := by
  obtain ⟨i0, hi, hz0, hz1, hz2⟩ := info_parts infoPost
  have HI := Lib.hid (indexP l a n c w h)
  have HX := Lib.hid h
  have hlen := h.len
  have hsm := h.small
  have HLN := Lib.hid hlen
  have HFS := Lib.hid (fun W => form93 s W hs)
  have HFW := Lib.hid (fun (t : Str) (ht : t.length ≤ 4611686018427387903) W => form93 t W ht)
  obtain ⟨base, hbase⟩ : ∃ b, w.heap.size = b := ⟨_, rfl⟩
  have HBS := Lib.hid hbase
  unfold findC
  obtain ⟨L, hL⟩ : ∃ L, findS l s = L := ⟨_, rfl⟩
  have HL := Lib.hid hL
  rw [hL]
  clear h hlen hbase hL hs
  cases hx : indexB l
  · rw [hx] at HI
    simp only [if_true]
    clear hx
    go_enter Tryz.func32, Tryz.ntmps32
    go_wp2_with (fail)
    refine HI.out.mono ?_
    rintro e W ⟨rfl, hb⟩
    go_wp2_with (fail)
    go_ret2
    exact WordsA.bad (by decide) hb
  · rw [hx] at HI
    simp only [Bool.true_eq_false, if_false]
    have hn4 : n ≤ 4096 := by have := (indexB_valid hx).1; have := HLN.out; omega
    obtain ⟨C, hC⟩ : ∃ C : Int, (if L = [] then (6 : Int) else 0) = C := ⟨_, rfl⟩
    have HCC := Lib.hid hC
    rw [hC]
    clear hC
    clear hx
    go_enter Tryz.func32, Tryz.ntmps32
    go_wp2_with (fail)
    refine HI.out.mono ?_
    rintro e W ⟨rfl, hb⟩
    have HB0 := Lib.hid hb
    have eg := enters_of Tryz.func93 (by kernel_rfl) rfl
    clear hb
    go_wp2_with (fail)
    go_loopw [15, 7] (fun iv ov wr => ∃ i : Nat, i ≤ n ∧ iv = .int .i64 i ∧ OwnPs 37 w wr base ov (findS (l.take i) s) ∧ Below base w wr) (fun iv _ _ => n - (intOf iv).toNat)
    case atStart => exact ⟨0, Nat.zero_le _, rfl, OwnPs.nil _ _ _ _, by have := HB0.out; rw [HBS.out] at this; exact this⟩
    case round =>
      obtain ⟨wi, rfl⟩ : ∃ wi : World, wi = wr := ⟨_, rfl⟩
      obtain ⟨i, hile, rfl, ho, hb⟩ := hrel
      have HB := Lib.hid hb
      have HO := Lib.hid ho
      have HSZ := Lib.hid (show base ≤ wi.heap.size by have := hb.size; have := HBS.out; omega)
      have HFL := Lib.hid (show (findS (l.take i) s).length ≤ 4096 by
        have a : (findS (l.take i) s).length ≤ (l.take i).length := List.length_filter_le _ _
        rw [List.length_take] at a
        have := HLN.out
        omega)
      by_cases hin : i < n
      · obtain ⟨p, bb, off, hp, rfl, a1, k1, c0, c1, c2, hps⟩ := HX.out.at hin
        obtain ⟨⟨wd, sc⟩, ls⟩ := p
        have HSN := Lib.hid (findS_snoc s hp)
        have HPS := Lib.hid hps
        have HQ1 := Lib.hid hps.word
        simp only at c0 c1 c2
        replace c0 := Go.Ap.cell_kept (Nat.le_of_eq HBS.out) hb c0
        replace c1 := Go.Ap.cell_kept (Nat.le_of_eq HBS.out) hb c1
        replace c2 := Go.Ap.cell_kept (Nat.le_of_eq HBS.out) hb c2
        obtain ⟨m, hm⟩ : ∃ m, ls.length = m := ⟨_, rfl⟩
        rw [hm] at c2
        have HM := Lib.hid hm
        obtain ⟨X, hX⟩ : ∃ X, wi.heap.size = X := ⟨_, rfl⟩
        obtain ⟨W1, hW1⟩ : ∃ W, wi.alloc (.cells #[.string (bs wd), .string (bs sc), .slice a1 m k1] 37) = W := ⟨_, rfl⟩
        have hb1 : Below wi.heap.size wi W1 := by rw [← hW1]; exact balloc _ _
        have HK := Lib.hid (show BlkK W1 X #[.string (bs wd), .string (bs sc), .slice a1 m k1] 37 by rw [← hW1, ← hX]; exact BlkK.new _ _ _)
        have HO1 := Lib.hid (ho.below hb1)
        have HB1 := Lib.hid (hb.trans (hb1.mono HSZ.out))
        have HSZ1 := Lib.hid (show base ≤ W1.heap.size by have := hb1.size; have := HSZ.out; omega)
        have HC1 := Lib.hid (HFW.out wd HQ1.out W1)
        have hc0 := HK.out.cell (i := 0) (u := .string (bs wd)) rfl
        have i1 : (i : Int) < (n : Int) := by omega
        simp only at HSN
        obtain ⟨f1, hf1⟩ : ∃ f, formS wd = f := ⟨_, rfl⟩
        obtain ⟨f2, hf2⟩ : ∃ f, formS s = f := ⟨_, rfl⟩
        rw [hf1] at HSN HC1
        rw [hf2] at HSN
        have HCS := Lib.hid (fun W => by have := HFS.out W; rw [hf2] at this; exact this)
        clear hp hps hm hf1 hf2 ho hb hb1
        go_wp2_with (fail)
        refine HC1.out.mono ?_
        rintro e W2 ⟨rfl, hb2⟩
        have HK2 := Lib.hid (HK.out.below hb2)
        have HO2 := Lib.hid (HO1.out.below hb2)
        have HB2 := Lib.hid (HB1.out.trans (hb2.mono HSZ1.out))
        have HSZ2 := Lib.hid (show base ≤ W2.heap.size by have := hb2.size; have := HSZ1.out; omega)
        clear hb2 hc0
        go_wp2_with (fail)
        refine (HCS.out W2).mono ?_
        rintro e W3 ⟨rfl, hb3⟩
        have HK3 := Lib.hid (HK2.out.below hb3)
        have HO3 := Lib.hid (HO2.out.below hb3)
        have HB3 := Lib.hid (HB2.out.trans (hb3.mono HSZ2.out))
        have HSZ3 := Lib.hid (show base ≤ W3.heap.size by have := hb3.size; have := HSZ2.out; omega)
        clear hb3
        by_cases he : f1 = f2
        · rw [if_pos he] at HSN
          have e1 : (f1 == f2) = true := by rw [beq_iff_eq]; exact he
          have k0 := HK3.out.cell (i := 0) (u := .string (bs wd)) rfl
          have k1' := HK3.out.cell (i := 1) (u := .string (bs sc)) rfl
          have k2 := HK3.out.cell (i := 2) (u := .slice a1 m k1) rfl
          obtain ⟨xs, hrow, hpush⟩ := HO3.out.ready
          have HROW := Lib.hid hrow
          have HPU := Lib.hid hpush
          have HNW := Lib.hid (show ∀ (j : Nat) (u : Value), [.string (bs wd), .string (bs sc), .slice a1 m k1][j]? = some u → (W3.alloc (.cells #[.string (bs wd), .string (bs sc), .slice a1 m k1] 37)).cell? ((⟨W3.heap.size, 0, none⟩ : Addr).add j) = some u from World.news_of_block (cs := #[.string (bs wd), .string (bs sc), .slice a1 m k1]) (heap_fresh rfl))
          clear he hrow hpush
          go_wp2_with (at_builtin; refine wpList_append_own _ rfl _ _ 27 rfl base 37 i0 (.agg #[.string { data := #[] }, .string { data := #[] }, .slice none 0 0]) 3 56 Tryz.underlying27 hi hz0 hz1 hz2 rfl (by decide) _ _ _ rfl (HROW.out.alloc _) ⟨W3.heap.size, 0, none⟩ 1 1 [.string (bs wd), .string (bs sc), .slice a1 m k1] rfl rfl HNW.out (by simp [Value.oneCell']) (by have := HFL.out; unfold maxLen; omega) (by have := HFL.out; omega) (by have := HSZ3.out; simp; omega) ?_)
          intro v' w9 hown' hgr' _
          have HO9 := Lib.hid (show OwnPs 37 w w9 base v' (findS (l.take (i + 1)) s) by
            rw [HSN.out]
            exact HPU.out w9 v' [(((wd, sc), ls), .slice a1 m k1)] _ (by simpa [piC] using hown') (by simp) (fun p hp => by
              rw [List.mem_singleton] at hp
              subst hp
              exact ⟨a1, k1, by simp only [HM.out], HPS.out⟩))
          have HB9 := Lib.hid ((HB3.out.alloc HSZ3.out _).grown hgr' (by have := HSZ3.out; simp; omega) (fun k hk => (HROW.out.lt k hk).1))
          clear hown' hgr'
          go_wp2_with (fail)
          go_roundw
          case rel => exact ⟨i + 1, by omega, by simp, HO9.out, HB9.out⟩
          case measure => simp [intOf]; omega
        · rw [if_neg he, List.append_nil] at HSN
          have e1 : (f1 == f2) = false := by rw [beq_eq_false_iff_ne]; exact he
          clear he
          go_wp2_with (fail)
          exact ⟨⟨i + 1, by omega, by simp, by rw [HSN.out]; exact HO3.out, HB3.out⟩, by simp [intOf]; omega⟩
      · obtain rfl : n = i := by omega
        have hL : findS (l.take n) s = L := by rw [List.take_of_length_le (Nat.le_of_eq HLN.out)]; exact HL.out
        rw [hL] at HO HFL
        obtain ⟨a9, c9, rfl, hp9, hc9⟩ := HO.out.gives (by have := HFL.out; omega) (by have := HB.out; rw [← HBS.out] at this; exact this)
        have HP9 := Lib.hid hp9
        have HC9 := Lib.hid hc9
        obtain ⟨k9, hk9⟩ : ∃ k, L.length = k := ⟨_, rfl⟩
        have HK9 := Lib.hid hk9
        simp only [hk9]
        clear ho hb hL hp9 hc9
        by_cases h0 : L = []
        · have hC := HCC.out
          rw [if_pos h0] at hC
          subst hC
          have e1 : ((k9 : Int) == 0) = true := by rw [← hk9, h0]; rfl
          clear hk9 h0
          go_wp2_with (fail)
          go_ret2
          exact WordsA.bad (by decide) (by rw [HBS.out]; exact HB.out)
        · have hC := HCC.out
          rw [if_neg h0] at hC
          subst hC
          have e1 : ((k9 : Int) == 0) = false := by
            rw [beq_eq_false_iff_ne, ← hk9]
            intro e
            exact h0 (List.eq_nil_of_length_eq_zero (by omega))
          clear hk9 h0
          go_wp2_with (fail)
          go_ret2
          exact ⟨.slice a9 k9 c9, rfl, fun _ => ⟨a9, c9, by rw [HK9.out], HP9.out, HC9.out⟩, fun h => absurd rfl h, by rw [HBS.out]; exact HB.out⟩
end Go.Proofs.YtngdmpkoedpgdaaGreatDoor
