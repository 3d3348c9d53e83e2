/-
  Merge (program).
-/
import Derived.Test.YtngdmpkoedpgdaaGreatDoorMe5
import Derived.Test.YtngdmpkoedpgdaaGreatDoorNa5
namespace Go.Ap
open Go Go.RowKit
theorem flatE_snoc {l : List Post} {i : Nat} {p : Post} (h : l[i]? = some p) : flatE (l.take (i + 1)) = flatE (l.take i) ++ p.2.map fun n => (p.1, n) := by
  unfold flatE
  rw [take_snoc h, List.flatMap_append]
  simp
theorem countL_take (l : List Post) (i : Nat) : countL (l.take i) ≤ countL l := by
  have : countL l = countL (l.take i) + countL (l.drop i) := by
    unfold countL
    rw [← List.sum_append, ← List.map_append, List.take_append_drop]
  omega
theorem grpOf_heads {es : List Entry} {s : Str × Str} : grpOf es s ≠ [] ↔ s ∈ (idxM mkB es).map (·.1) := by
  rw [heads_mem]
  constructor
  · intro h
    obtain ⟨m, hm⟩ := List.exists_mem_of_ne_nil _ h
    exact ⟨m, grpOf_mem.2 hm⟩
  · rintro ⟨m, hm⟩ e
    have := grpOf_mem.1 hm
    rw [e] at this
    cases this
theorem nodup_len {α : Type} : ∀ {l m : List α}, l.Nodup → (∀ x ∈ l, x ∈ m) → l.length ≤ m.length
  | [], _, _, _ => by simp
  | x :: r, m, h, hm => by
    obtain ⟨a, b, rfl⟩ := List.append_of_mem (hm x (List.mem_cons_self ..))
    rw [List.nodup_cons] at h
    have := nodup_len (l := r) (m := a ++ b) h.2 fun y hy => by
      have h1 := hm y (List.mem_cons_of_mem _ hy)
      rw [List.mem_append, List.mem_cons] at h1
      rw [List.mem_append]
      rcases h1 with h1 | rfl | h1
      · exact .inl h1
      · exact absurd hy h.1
      · exact .inr h1
    rw [List.length_append] at this
    rw [List.length_append, List.length_cons, List.length_cons]
    omega
/-- not more heads than postings -/
theorem heads_le (l : List Post) : (idxM mkB (flatE l)).length ≤ l.length := by
  have := nodup_len (m := l.map (·.1)) (heads_nodup (flatE l)) fun s hs => by
    obtain ⟨m, hm⟩ := (heads_mem _ s).1 hs
    obtain ⟨p, hp, rfl, _⟩ := flatE_mem.1 hm
    exact List.mem_map.2 ⟨p, hp, rfl⟩
  simpa using this
theorem OwnI.pushN {e : TypeId} {w w1 : World} {base : Nat} {v v' : Value} {xs ys : List Int} (h : OwnI e w base v xs) (hy : ∀ y ∈ ys, I64 y) (hown : w1.ownsRow base e 1 v' (xs.length + ys.length) (xs.map (Value.int .i64) ++ ys.map (Value.int .i64))) : OwnI e w1 base v' (xs ++ ys) := by
  refine ⟨by rw [List.length_append, List.map_append]; exact hown, fun y h1 => ?_⟩
  rcases List.mem_append.1 h1 with h1 | h1
  · exact h.2 y h1
  · exact hy y h1
/-- a row of the call's own as a block, if it is not empty -/
theorem owns_blk {w : World} {base size n : Nat} {e : TypeId} {v : Value} {xs : List Value} (h : w.ownsRow base e size v n xs) : ∃ a cap g o cur, v = .slice a n cap ∧ (0 < n → a = some ⟨g, o, none⟩ ∧ base ≤ g ∧ BlkK w g cur e ∧ ∀ (j : Nat) (u : Value), xs[j]? = some u → cur[o + j]? = some u) := by
  rcases h.2 with ⟨rfl, rfl⟩ | ⟨g, cap, cur, rfl, hg, hb, h1, h2, h3, h4⟩
  · exact ⟨none, 0, 0, 0, #[], rfl, fun h => absurd h (by omega)⟩
  · refine ⟨_, cap, g, 0, cur, rfl, fun _ => ⟨rfl, hg, hb, fun j u hu => ?_⟩⟩
    rw [Nat.zero_add]
    have := h.cellAt j (by rw [← h.1]; exact (List.getElem?_eq_some_iff.1 hu).1)
    have h5 : w.cell? ⟨g, j, none⟩ = some u := by rw [this]; exact hu
    simp only [World.cell?, hb] at h5
    simpa using h5
/-- lines that lie in a slice -/
theorem ints_news {w : World} {a : Option Addr} {n : Nat} {xs : List Int} (h : Ints w a n xs) (hn : 0 < n) : ∃ b o, a = some ⟨b, o, none⟩ ∧ ∀ (j : Nat) (u : Value), (xs.map (Value.int .i64))[j]? = some u → w.cell? ((⟨b, o, none⟩ : Addr).add j) = some u := by
  obtain ⟨x, b, o, v, _, rfl, _⟩ := Sl.at h hn
  exact ⟨b, o, rfl, fun j u hu => (reads_ints h).cells _ rfl j u hu⟩
theorem ints_i64 {w : World} {a : Option Addr} {n : Nat} {xs : List Int} (h : Ints w a n xs) : ∀ y ∈ xs, I64 y := fun y hy => by
  obtain ⟨k, hk⟩ := List.getElem?_of_mem hy
  obtain ⟨_, _, _, _, _, hr⟩ := h.cells k y hk
  exact hr.2
end Go.Ap
namespace Go.Proofs.YtngdmpkoedpgdaaGreatDoor
open Go.RowKit Go.Ap Go.Shelf Go.Proofs

attribute [local go_sem] Oper.semAt_some bs_toList empty_toList bs_size bs_extract
theorem Grp.count {w : World} {b base n : Nat} {es : List Entry} {ie : TypeId} (h : Grp tHd ie w b base n (grpOf es)) (hel : ∀ x ∈ es, x.1.1.length ≤ maxLen ∧ x.1.2.length ≤ maxLen) (ty : TypeId) :
    (Builtin.len_ #[90] ty #[.map (some b)]).run Tryz.prog w = .ok (.int .i64 ((idxM mkB es).length : Nat)) w := by
  obtain ⟨f, h1, h2, h3, _⟩ := h
  have := MapH.count h1 (ks := (idxM mkB es).map (·.1)) (heads_nodup es) (fun s _ => by
    rw [← grpOf_heads]
    constructor
    · intro hs
      cases hf : f s with
      | none => exact absurd hf hs
      | some v => exact (h3 s v hf).2
    · intro hg hs
      exact hg (h2 s hs)) (fun s hs => by
    obtain ⟨m, hm⟩ := (heads_mem es s).1 hs
    exact hel _ hm) ty
  rw [List.length_map] at this
  exact this
/-- the postings of all lists, one after the other, whose lines lie in an elder world -/
theorem concP3 (a : Option Addr) (n c : Nat) (ls : List (List Post)) (w0 w : World) (h : Posts2 w0 a n ls) (hb : Below w0.heap.size w0 w) (hl : ls.flatten.length ≤ 100000) :
    Calls Tryz.prog 85 #[.slice a n c] w fun e w' => ∃ (qs : List PIt) (v : Value), e = .returned v ∧ qs.map (·.1) = ls.flatten ∧ w'.ownsRow w.heap.size 37 3 v ls.flatten.length (qs.flatMap piC) ∧ (∀ p ∈ qs, ∃ a k, p.2 = .slice a p.1.2.length k ∧ PostS w0 a p.1) ∧ Below w.heap.size w w' := by
  obtain ⟨qss, h1, h2, h3⟩ := rowsV_posts h
  have e1 := sumN_posts qss
  have e2 := flatV_posts qss
  rw [h1] at e1
  refine (concP a n c _ w (h2.mono (Nat.le_refl _) hb) (by rw [e1]; exact hl)).mono ?_
  rintro e w' ⟨v, rfl, ho, hb'⟩
  rw [e1, e2] at ho
  refine ⟨qss.flatten, v, rfl, by rw [← h1, List.map_flatten], ho, fun p hp => ?_, hb'⟩
  obtain ⟨qs, hqs, hp⟩ := List.mem_flatten.1 hp
  exact h3 qs hqs p hp
set_option maxRecDepth 100000 in
set_option maxHeartbeats 4000000 in
theorem mergeBad (ls : List (List Post)) (a : Option Addr) (n c : Nat) (w : World) (h : Posts2 w a n ls) (l : List Post) (hc : mergeC ls ≠ 0) :
    Calls Tryz.prog 27 #[.slice a n c] w fun e w' => WordsA e w w' (mergeC ls) l := by
  have HBP := Lib.hid (badPosts a n c ls w h)
  unfold mergeC at hc ⊢
  rw [h.len] at hc ⊢
  clear h
  by_cases g1 : 64 < n
  · rw [if_pos g1]
    have d1 : decide ((64 : Int) < (n : Int)) = true := by rw [decide_eq_true_eq]; omega
    clear hc g1
    go_enter Tryz.func27, Tryz.ntmps27
    go_wp2_with (fail)
    go_ret2
    exact WordsA.bad (by decide) (Below.refl _ _)
  · rw [if_neg g1] at hc ⊢
    have d1 : decide ((64 : Int) < (n : Int)) = false := by rw [decide_eq_false_iff_not]; omega
    cases hb : ls.any fun l => !indexB l
    · rw [hb] at hc
      simp at hc
    · rw [hb] at HBP
      rw [if_pos rfl]
      clear hc g1 hb
      go_enter Tryz.func27, Tryz.ntmps27
      go_wp2_with (fail)
      refine HBP.out.mono ?_
      rintro e W ⟨rfl, hb⟩
      go_wp2_with (fail)
      go_ret2
      exact WordsA.bad (by decide) hb
set_option maxRecDepth 100000 in
set_option maxHeartbeats 8000000 in
theorem mergeOk (ls : List (List Post)) (a : Option Addr) (m c : Nat) (w : World) (h : Posts2 w a m ls) (ht1 : ls.flatten.length ≤ 4096) (ht2 : countL ls.flatten ≤ 100000) (h64 : m ≤ 64) (hv : (ls.any fun l => !indexB l) = false) :
    Calls Tryz.prog 27 #[.slice a m c] w fun e w' => (∃ u, e = .returned (.tuple #[u, .int .i64 0]) ∧ GivesPo w' u (mergeI ls)) ∧ Below w.heap.size w w' := by
  obtain ⟨i0, hi, hz0, hz1, hz2⟩ := info_parts infoInt5
  have HBP := Lib.hid (badPosts a m c ls w h)
  rw [hv] at HBP
  have HCO := Lib.hid (fun W (hb : Below w.heap.size w W) => concP3 a m c ls w W h hb (by omega))
  have d1 : decide ((64 : Int) < (m : Int)) = false := by rw [decide_eq_false_iff_not]; omega
  unfold mergeI
  have HVAL := Lib.hid (show ∀ p ∈ ls.flatten, validB p = true from fun p hp => by
    obtain ⟨l, hl, hp⟩ := List.mem_flatten.1 hp
    rw [List.any_eq_false] at hv
    have h1 : indexB l = true := by simpa using hv l hl
    exact (indexB_valid h1).2 p hp)
  obtain ⟨ps, hps⟩ : ∃ ps, ls.flatten = ps := ⟨_, rfl⟩
  rw [hps] at HCO HVAL ht1 ht2 ⊢
  obtain ⟨n, hn⟩ : ∃ n, ps.length = n := ⟨_, rfl⟩
  rw [hn] at HCO ht1
  have HPN := Lib.hid hn
  have HT1 := Lib.hid ht1
  have HT2 := Lib.hid ht2
  have HEL := Lib.hid (show ∀ x ∈ flatE ps, x.1.1.length ≤ 64 ∧ x.1.2.length ≤ 16 from fun x hx => by
    obtain ⟨h, k⟩ := x
    obtain ⟨p, hp, rfl, _⟩ := flatE_mem.1 hx
    obtain ⟨v1, v2, _⟩ := validB_parts (HVAL.out p hp)
    exact ⟨isWordB_64 v1, nameB_16 v2⟩)
  obtain ⟨base, hbase⟩ : ∃ b, w.heap.size = b := ⟨_, rfl⟩
  have HBS := Lib.hid hbase
  have HPO := Lib.hid (fun bm W (hG : Grp tHd 3 W bm base n (grpOf (flatE ps))) (hsz : base ≤ W.heap.size) => postingsP bm base n _ W hG hsz ht1 (fun s => by
    have a := grpOf_len (flatE ps) s
    have b := countL_flat ps
    omega) (flatE ps) (fun h m => grpOf_mem) (fun x hx => by have := HEL.out x hx; omega))
  have HCNT := Lib.hid (fun bm W (hG : Grp tHd 3 W bm base n (grpOf (flatE ps))) (ty : TypeId) => Grp.count hG (fun x hx => by have := HEL.out x hx; unfold maxLen; omega) ty)
  have HHL := Lib.hid (show (idxM mkB (flatE ps)).length ≤ 4096 from Nat.le_trans (heads_le ps) (by omega))
  have hnb : n ≤ 4096 := ht1
  clear h hv hps hn ht1 ht2 h64
  go_enter Tryz.func27, Tryz.ntmps27
  go_wp2_with (fail)
  refine HBP.out.mono ?_
  rintro e W ⟨rfl, hb⟩
  have HB0 := Lib.hid (show Below base w W by rw [← hbase]; exact hb)
  have hszW : base ≤ W.heap.size := by have := hb.size; omega
  obtain ⟨bm, hbm⟩ : ∃ b, W.heap.size = b := ⟨_, rfl⟩
  have HBM := Lib.hid hbm
  have HG0 := Lib.hid (show Grp tHd 3 (W.alloc (.map #[] 0)) bm base 0 (grpOf (flatE (ps.take 0))) by rw [← hbm]; exact Grp.made W)
  have HB1 := Lib.hid (HB0.out.alloc hszW (.map #[] 0))
  have HSW := Lib.hid hszW
  have HCO1 := Lib.hid (HCO.out (W.alloc (.map #[] 0)) (by rw [hbase]; exact HB1.out))
  have hmm := @run_makeMap Tryz.prog
  clear hb HBP HCO hbm hszW
  go_wp2_with (fail)
  rw [HBM.out]
  clear hmm
  refine HCO1.out.mono ?_
  rintro e W2 ⟨qs, v, rfl, hq1, hq2, hq3, hb2⟩
  obtain ⟨a', cap, g, o, cur, rfl, hrow⟩ := owns_blk hq2
  have HROW := Lib.hid hrow
  have HQ1 := Lib.hid hq1
  have HQ3 := Lib.hid hq3
  have HB2 := Lib.hid (HB1.out.trans (hb2.mono (by have := HSW.out; simp; omega)))
  have HG2 := Lib.hid (HG0.out.below hb2)
  clear hq1 hq2 hq3 hb2 hrow HCO1
  go_wp2_with (fail)
  go_loopw [19] (fun iv wr => ∃ i : Nat, i ≤ n ∧ iv = .int .i64 i ∧ Grp tHd 3 wr bm base i (grpOf (flatE (ps.take i))) ∧ Below base w wr ∧ (0 < n → BlkK wr g cur 37)) (fun iv _ => n - (intOf iv).toNat)
  case atStart => exact ⟨0, Nat.zero_le _, rfl, HG2.out, HB2.out, fun h0 => (HROW.out h0).2.2.1⟩
  case round =>
    obtain ⟨wi, rfl⟩ : ∃ wi : World, wi = wr := ⟨_, rfl⟩
    obtain ⟨i, hile, rfl, hG, hb, hk⟩ := hrel
    have HB := Lib.hid hb
    have HG := Lib.hid hG
    have HSZ := Lib.hid (show base ≤ wi.heap.size by have := hb.size; have := HBS.out; omega)
    by_cases hin : i < n
    · obtain ⟨rfl, _, _, hcur⟩ := HROW.out (by omega)
      have hK := hk (by omega)
      have HKG := Lib.hid hK
      obtain ⟨q, hq⟩ : ∃ q, qs[i]? = some q := ⟨_, List.getElem?_eq_getElem (by have h1 := congrArg List.length HQ1.out; rw [List.length_map, HPN.out] at h1; omega)⟩
      obtain ⟨a3, k3, he3, hps3⟩ := HQ3.out q (List.mem_of_getElem? hq)
      obtain ⟨⟨⟨wd, sc⟩, l⟩, qv⟩ := q
      simp only at he3 hps3
      subst he3
      have hpi : ps[i]? = some ((wd, sc), l) := by rw [← HQ1.out, List.getElem?_map, hq]; rfl
      have HSN := Lib.hid (flatE_snoc hpi)
      have hval := HVAL.out _ (List.mem_of_getElem? hpi)
      obtain ⟨v1, v2, v3, v4⟩ := validB_parts hval
      simp only at v1 v2 v3 v4
      have hv0 : 0 < l.length := by
        rcases Nat.eq_zero_or_pos l.length with e | e
        · rw [validB_0 e] at hval; cases hval
        · exact e
      have HLNE := Lib.hid (show l ≠ [] from fun e => by rw [e] at hv0; simp at hv0)
      obtain ⟨b3, o3, rfl, hnews⟩ := ints_news (hps3.lines.mono (Nat.le_of_eq HBS.out) hb) hv0
      have HNEW0 := Lib.hid (ints_news hps3.lines hv0)
      have HIY := Lib.hid (ints_i64 hps3.lines)
      have HXL := Lib.hid (show wd.length ≤ maxLen ∧ sc.length ≤ maxLen by have := isWordB_64 v1; have := nameB_16 v2; unfold maxLen; omega)
      have HL4 := Lib.hid (show l.length ≤ 4096 from v3)
      have c0 : wi.cell? ⟨g, o + i * 3, none⟩ = some (.string (bs wd)) := hK.cell (hcur (i * 3) _ (flat3 piC_len hq (i := 0) rfl))
      have c1 : wi.cell? ⟨g, o + i * 3 + 1, none⟩ = some (.string (bs sc)) := hK.cell (by rw [Nat.add_assoc]; exact hcur (i * 3 + 1) _ (flat3 piC_len hq (i := 1) rfl))
      obtain ⟨k, hk'⟩ : ∃ k, l.length = k := ⟨_, rfl⟩
      have c2 : wi.cell? ⟨g, o + i * 3 + 2, none⟩ = some (.slice (some ⟨b3, o3, none⟩) k k3) := hK.cell (by rw [Nat.add_assoc, ← hk']; exact hcur (i * 3 + 2) _ (flat3 piC_len hq (i := 2) rfl))
      have HK' := Lib.hid hk'
      have i1 : (i : Int) < (n : Int) := by omega
      obtain ⟨X1, hX1⟩ : ∃ X, wi.heap.size = X := ⟨_, rfl⟩
      have hA1 := balloc wi (.cells #[.string (bs wd), .string (bs sc), .slice (some ⟨b3, o3, none⟩) k k3] 37)
      have K1 := BlkK.new wi #[.string (bs wd), .string (bs sc), .slice (some ⟨b3, o3, none⟩) k k3] 37
      have hBA1 := HB.out.alloc HSZ.out (.cells #[.string (bs wd), .string (bs sc), .slice (some ⟨b3, o3, none⟩) k k3] 37)
      have hSA1 : base ≤ (wi.alloc (.cells #[.string (bs wd), .string (bs sc), .slice (some ⟨b3, o3, none⟩) k k3] 37)).heap.size := by have := HSZ.out; simp; omega
      obtain ⟨W1, hW1⟩ : ∃ W, wi.alloc (.cells #[.string (bs wd), .string (bs sc), .slice (some ⟨b3, o3, none⟩) k k3] 37) = W := ⟨_, rfl⟩
      rw [hX1] at K1
      rw [hW1] at hA1 K1 hBA1 hSA1
      obtain ⟨X, hX⟩ : ∃ X, W1.heap.size = X := ⟨_, rfl⟩
      have hA2 := balloc W1 (.cells #[.string (bs wd), .string (bs sc)] 92)
      have K2 := BlkK.new W1 #[.string (bs wd), .string (bs sc)] 92
      have hBA2 := hBA1.alloc hSA1 (.cells #[.string (bs wd), .string (bs sc)] 92)
      have hSA2 : base ≤ (W1.alloc (.cells #[.string (bs wd), .string (bs sc)] 92)).heap.size := by simp; omega
      obtain ⟨WA, hWA⟩ : ∃ W, W1.alloc (.cells #[.string (bs wd), .string (bs sc)] 92) = W := ⟨_, rfl⟩
      rw [hX] at K2
      rw [hWA] at hA2 K2 hBA2 hSA2
      have HBA := Lib.hid hBA2
      have HSA := Lib.hid hSA2
      have HGA := Lib.hid ((HG.out.below hA1).below hA2)
      have HK1 := Lib.hid (K1.below hA2)
      have HK2 := Lib.hid K2
      have HKA := Lib.hid ((hK.below hA1).below hA2)
      have f0 := HK1.out.cell (i := 0) (u := .string (bs wd)) rfl
      have f1 := HK1.out.cell (i := 1) (u := .string (bs sc)) rfl
      have f2 := HK1.out.cell (i := 2) (u := .slice (some ⟨b3, o3, none⟩) k k3) rfl
      have e0 := K1.cell (i := 0) (u := .string (bs wd)) rfl
      have e1 := K1.cell (i := 1) (u := .string (bs sc)) rfl
      have h0 := HK2.out.cell (i := 0) (u := .string (bs wd)) rfl
      have h1 := HK2.out.cell (i := 1) (u := .string (bs sc)) rfl
      obtain ⟨u, w1, st, o1, hme, hou, hg1, ho1, hoc1, _, hst⟩ := Grp.entry (s := (wd, sc)) rfl HGA.out (by unfold maxLen; omega) HXL.out
      replace hme : (Instr.mapEntry 90 (.map (some bm)) (.agg #[.string (bs wd), .string (bs sc)])).run Tryz.prog WA = .ok (.tuple #[u, st]) w1 := hme
      have HBM1 := Lib.hid (show base ≤ bm by have := HSW.out; have := HBM.out; omega)
      have hszB := HBA.out.size
      have HB3 := Lib.hid (HBA.out.grown hg1 (by have := HBS.out; omega) fun k hk => by cases hk; exact HBM1.out)
      have HKG3 := Lib.hid (HKA.out.keptE hg1 (HGA.out.ne HKA.out))
      have HOU := Lib.hid hou
      have HO1 := Lib.hid ho1
      have HOC := Lib.hid hoc1
      have HST := Lib.hid hst
      have HS3 := Lib.hid (show base ≤ w1.heap.size by have := HB3.out.size; have := HBS.out; omega)
      have HGL := Lib.hid (show (grpOf (flatE (ps.take i)) (wd, sc)).length ≤ 100000 by
        have a := grpOf_len (flatE (ps.take i)) (wd, sc)
        have b := countL_flat (ps.take i)
        have c := countL_take ps i
        have d := HT2.out
        omega)
      have HNW := Lib.hid (show ∀ (j : Nat) (u : Value), (l.map (Value.int .i64))[j]? = some u → w1.cell? ((⟨b3, o3, none⟩ : Addr).add j) = some u from fun j u hu => by
        obtain ⟨b', o', he', hn'⟩ := HNEW0.out
        cases he'
        exact Go.Ap.cell_kept (Nat.le_of_eq HBS.out) HB3.out (hn' j u hu))
      clear hk hk' hq hpi hps3 hval v1 v2 v3 v4 hv0 hnews hcur hG hb hK hA1 hA2 K1 K2 hBA1 hBA2 hSA1 hSA2 hou hg1 ho1 hoc1 hst hszB
      go_wp2_with (at_builtin; refine wpList_append_own_at _ rfl _ _ 26 rfl base 3 i0 (.int .i64 0) 1 8 Tryz.underlying26 hi hz0 hz1 hz2 rfl (by decide) u _ _ rfl HOU.out.1 ⟨b3, o3, none⟩ k k3 (l.map (Value.int .i64)) rfl (by rw [List.length_map, HK'.out, Nat.mul_one]) HNW.out (by intro u hu; obtain ⟨x, _, rfl⟩ := List.mem_map.1 hu; rfl) (by have := HGL.out; have := HL4.out; have := HK'.out; unfold maxLen; omega) (by have := HGL.out; have := HL4.out; have := HK'.out; omega) HS3.out ?_)
      intro v' w9 hown' hgr' _ hat
      rw [← HK'.out] at hown'
      have hv9 : OwnI 3 w9 base v' (grpOf (flatE (ps.take i)) (wd, sc) ++ l) := HOU.out.pushN HIY.out hown'
      obtain ⟨w4, hes, hG4, hg4⟩ := HST.out w9 v' _ ((hgr'.block bm (by have := HO1.out; exact (Array.getElem?_eq_some_iff.1 this).1) (fun e => (own_not HOU.out.1 HO1.out HOC.out).elim (fun h => by rw [h] at e; cases e) (fun h => h e.symm))).trans HO1.out) hgr' hv9 (by simp [HLNE.out]) (hat.imp id fun h => ⟨_, Nat.le_refl _, h⟩)
      rw [grpOf_add _ _ l] at hG4
      have HB9 := Lib.hid (HB3.out.grown hgr' HS3.out fun k hk => (HOU.out.1.lt k hk).1)
      have HKG9 := Lib.hid (HKG3.out.keptE hgr' (HKG3.out.apart HOU.out.1 (by decide)))
      have HS9 := Lib.hid (show base ≤ w9.heap.size by have := HB9.out.size; have := HBS.out; omega)
      have HB10 := Lib.hid (HB9.out.grown hg4 HS9.out fun k hk => by cases hk; exact HBM1.out)
      have HKG10 := Lib.hid (HKG9.out.keptE hg4 (HGA.out.ne HKA.out))
      have HG10 := Lib.hid (show Grp tHd 3 w4 bm base (i + 1) (grpOf (flatE (ps.take (i + 1)))) by rw [HSN.out]; exact hG4)
      clear hown' hgr' hat hv9 hG4 hg4 hme
      go_wp2_with (fail)
      go_roundw
      case rel => exact ⟨i + 1, by omega, by simp, HG10.out, HB10.out, fun _ => HKG10.out⟩
      case measure => simp [intOf]; omega
    · obtain rfl : n = i := by omega
      have HG1 := Lib.hid (show Grp tHd 3 wi bm base n (grpOf (flatE ps)) by
        have := HG.out
        rw [List.take_of_length_le (Nat.le_of_eq HPN.out)] at this
        exact this)
      have HC := Lib.hid (HPO.out bm wi HG1.out HSZ.out)
      have hct := fun ty => HCNT.out bm wi HG1.out ty
      obtain ⟨k, hk'⟩ : ∃ k, (idxM mkB (flatE ps)).length = k := ⟨_, rfl⟩
      simp only [hk'] at hct
      have d4 : decide ((4096 : Int) < (k : Int)) = false := by have := HHL.out; rw [decide_eq_false_iff_not]; omega
      clear hG hb hk hk'
      go_wp2_with (fail)
      refine HC.out.mono ?_
      rintro e w2 ⟨⟨u, rfl, hu⟩, hb2⟩
      have HU := Lib.hid hu
      have HB2 := Lib.hid hb2
      clear hu hb2
      go_wp2_with (fail)
      go_ret2
      exact ⟨⟨_, rfl, HU.out⟩, by rw [HBS.out]; exact HB.out.trans HB2.out⟩
theorem mergeP (ls : List (List Post)) (a : Option Addr) (n c : Nat) (w : World) (h : Posts2 w a n ls) (ht1 : ls.flatten.length ≤ 4096) (ht2 : countL ls.flatten ≤ 100000) :
    Calls Tryz.prog 27 #[.slice a n c] w fun e w' => WordsA e w w' (mergeC ls) (mergeI ls) := by
  by_cases hc : mergeC ls = 0
  · have h1 : n ≤ 64 ∧ (ls.any fun l => !indexB l) = false := by
      unfold mergeC at hc
      split at hc
      · cases hc
      · rename_i g1
        split at hc
        · cases hc
        · rename_i g2
          exact ⟨by rw [← h.len]; omega, by simpa using g2⟩
    rw [hc]
    refine (mergeOk ls a n c w h ht1 ht2 h1.1 h1.2).mono ?_
    rintro e w' ⟨⟨u, rfl, hu⟩, hb⟩
    exact ⟨u, rfl, fun _ => hu, fun h => absurd rfl h, hb⟩
  · exact mergeBad ls a n c w h _ hc
end Go.Proofs.YtngdmpkoedpgdaaGreatDoor
