/-
  Rows of two numbers, some of the call's own, some older: joined, sorted.
-/
import Derived.Test.YtbahddjbncinbaaGreatDoorSo
import Derived.Test.YtbahddjbncinbaaGreatDoorCb
import Derived.Test.YtbahddjbncinbaaGreatDoorFn
import Derived.Test.YtbahddjbncinbaaGreatDoorBs
namespace Go.Ap
open Go Go.RowKit
/-- a row of two numbers: below base, or a block of ints -/
def RowO (base : Nat) (w : World) (u : Value) (p : Int × Int) : Prop := ∃ b o c, u = .slice (some ⟨b, o, none⟩) 2 c ∧ w.cell? ⟨b, o, none⟩ = some (.int .i64 p.1) ∧ w.cell? ⟨b, o + 1, none⟩ = some (.int .i64 p.2) ∧ I64 p.1 ∧ I64 p.2 ∧ (b < base ∨ ∃ cur fr, w.heap[b]? = some (.cells cur 3 fr))
def AllO (base : Nat) (w : World) (v : Value) (ps : List (Int × Int)) : Prop :=
  ∃ vs : List Value, w.ownsRow base 29 1 v ps.length vs ∧ ∀ (k : Nat) (u : Value) (p : Int × Int), vs[k]? = some u → ps[k]? = some p → RowO base w u p
section
variable {base n : Nat} {w w' : World} {u v : Value} {p : Int × Int} {ps : List (Int × Int)} {vs : List Value}
theorem RowO.below (h : RowO base w u p) (hb : Below w.heap.size w w') : RowO base w' u p := by
  obtain ⟨b, o, c, he, h1, h2, h3, h4, h5⟩ := h
  refine ⟨b, o, c, he, (hb.cell (World.block_lt_of_cell? w _ h1)).trans h1, (hb.cell (World.block_lt_of_cell? w _ h2)).trans h2, h3, h4, ?_⟩
  rcases h5 with h5 | ⟨cur, fr, h5⟩
  · exact .inl h5
  · exact .inr ⟨cur, fr, (hb.block b (Array.getElem?_eq_some_iff.1 h5).1).trans h5⟩
/-- its block is not that of the rows -/
theorem RowO.apart (h : RowO base w u p) (h' : w.ownsRow base 29 1 v n vs) : ∃ b o c, u = .slice (some ⟨b, o, none⟩) 2 c ∧ some b ≠ v.ownBlock := by
  obtain ⟨b, o, c, he, _, _, _, _, h5⟩ := h
  refine ⟨b, o, c, he, ?_⟩
  rcases h'.2 with ⟨rfl, _⟩ | ⟨g, cap, cur, rfl, hbg, hg, _⟩
  · simp [Value.ownBlock]
  · intro e
    have hbg2 : b = g := by simpa [Value.ownBlock] using e
    subst hbg2
    rcases h5 with h5 | ⟨cur', fr, h5⟩
    · omega
    · rw [hg] at h5
      simp at h5
theorem RowO.kept {row : Option Nat} (h : RowO base w u p) (hg : w.grownBy w' row) (hne : ∀ b o c, u = .slice (some ⟨b, o, none⟩) 2 c → some b ≠ row) : RowO base w' u p := by
  obtain ⟨b, o, c, he, h1, h2, h3, h4, h5⟩ := h
  have hn := hne b o c he
  refine ⟨b, o, c, he, hg.cell h1 hn, hg.cell h2 hn, h3, h4, ?_⟩
  rcases h5 with h5 | ⟨cur, fr, h5⟩
  · exact .inl h5
  · exact .inr ⟨cur, fr, (hg.block b (Array.getElem?_eq_some_iff.1 h5).1 hn).trans h5⟩
theorem AllO.below (h : AllO base w v ps) (hb : Below w.heap.size w w') : AllO base w' v ps := by
  obtain ⟨vs, h1, h2⟩ := h
  exact ⟨vs, owns_below h1 hb, fun k u p hu hp => (h2 k u p hu hp).below hb⟩
theorem AllO.nil (w : World) (base : Nat) : AllO base w (.slice none 0 0) [] := ⟨[], World.ownsRow_nil _ _ _ _, fun k u p hu => by simp at hu⟩
/-- ready for one row more -/
theorem AllO.ready (h : AllO base w v ps) (hbase : base ≤ w.heap.size) (hb : Below w.heap.size w w') (hu : RowO base w' u p) :
    ∃ vs, w'.ownsRow base 29 1 v ps.length vs ∧ ∀ w1 v' tmp, w1.ownsRow base 29 1 v' (ps.length + 1) (vs ++ [u]) → (w'.alloc tmp).grownBy w1 v.ownBlock → AllO base w1 v' (ps ++ [p]) ∧ Below base w' w1 := by
  obtain ⟨vs, h1, h2⟩ := h
  have h1' := owns_below h1 hb
  have hl : vs.length = ps.length := by have := h1.1; omega
  refine ⟨vs, h1', fun w1 v' tmp hown hg => ⟨⟨vs ++ [u], by simpa using hown, fun k x q hx hq => ?_⟩, ?_⟩⟩
  · have key : ∀ x q, RowO base w' x q → RowO base w1 x q := fun x q ho => by
      obtain ⟨b, o, c, he, hne⟩ := ho.apart h1'
      exact (ho.below (balloc w' tmp)).kept hg fun b' o' c' he' => by rw [he] at he'; cases he'; exact hne
    rcases Nat.lt_or_ge k ps.length with hlt | hge
    · rw [List.getElem?_append_left (by omega)] at hx
      rw [List.getElem?_append_left hlt] at hq
      exact key x q ((h2 k x q hx hq).below hb)
    · have hk := (List.getElem?_eq_some_iff.1 hq).1
      have hkl : k = ps.length := by simp at hk; omega
      subst hkl
      rw [List.getElem?_append_right (by omega)] at hx
      rw [List.getElem?_append_right (by omega)] at hq
      simp [hl] at hx hq
      subst hx hq
      exact key u p hu
  · exact ((Below.refl base w').alloc (Nat.le_trans hbase hb.size) tmp).grown hg (by simp; have := hb.size; omega) (fun k hk => (h1'.lt k hk).1)
theorem AllO.slice (h : AllO base w v ps) : ∃ a c, v = .slice a ps.length c := by
  obtain ⟨vs, h1, _⟩ := h
  rcases h1.2 with ⟨rfl, h0⟩ | ⟨g, cap, cur, rfl, _⟩
  · exact ⟨none, 0, by rw [h0]⟩
  · exact ⟨_, _, rfl⟩
end
/-- the same rows, sorted, are the pairs -/
theorem sorted_pairs {l : List (Nat × Nat)} (ha : l.Pairwise fun p q => p.1 < q.1) {ps : List (Int × Int)} (hp : ps.Perm ((inL l).map pairI ++ (blkF (outL l)).flatMap expB)) (hs : ps.Pairwise fun p q => ¬ (q.1 < p.1 ∨ (q.1 = p.1 ∧ q.2 < p.2))) : ps.map pairL = rowsP l := by
  have h1 : ps = l.map pairI := by
    refine List.Perm.eq_of_pairwise (le := fun p q : Int × Int => ¬ (q.1 < p.1 ∨ (q.1 = p.1 ∧ q.2 < p.2))) (fun a b _ _ h1 h2 => Prod.ext (by omega) (by omega)) hs ?_ ?_
    · rw [List.pairwise_map]
      exact ha.imp fun h => by simp only [pairI]; omega
    · rw [blkF_exp, ← List.map_append] at hp
      exact hp.trans ((in_out l).map pairI)
  rw [h1, List.map_map]
  rfl
theorem flat_le {K : List Blk} {i : Nat} {d : Blk} (h : K[i]? = some d) : ((K.take i).flatMap expB).length + (expB d).length ≤ (K.flatMap expB).length := by
  have e : (K.take (i + 1)).flatMap expB = (K.take i).flatMap expB ++ expB d := by
    rw [List.take_add_one, h, List.flatMap_append]
    simp
  have e2 : K.flatMap expB = (K.take (i + 1)).flatMap expB ++ (K.drop (i + 1)).flatMap expB := by rw [← List.flatMap_append, List.take_append_drop]
  rw [e2, e, List.length_append, List.length_append]
  omega
theorem expB_len (d : Blk) : (expB d).length = d.len.toNat := by simp [expB]
theorem expB_take (d : Blk) (t : Nat) (h : (t : Int) < d.len) : (expB d).take (t + 1) = (expB d).take t ++ [(d.fst + (t : Int), d.snd + (t : Int))] := by
  have : (expB d)[t]? = some (d.fst + (t : Int), d.snd + (t : Int)) := by
    unfold expB
    rw [List.getElem?_map, List.getElem?_range (by omega)]
    rfl
  rw [List.take_add_one, this]
  rfl
end Go.Ap
namespace Go.Proofs.YtbahddjbncinbaaGreatDoor
open Go.RowKit Go.Ap Go.Shelf Go.Proofs

attribute [local go_sem] Oper.semAt_some bs_toList empty_toList bs_size bs_extract
set_option maxRecDepth 100000 in
set_option maxHeartbeats 2000000 in
theorem ins_none (p : Option Addr) (cap : Nat) (fv : Value) (w : World) : Calls Tryz.prog 91 #[.slice p 0 cap, .int .i64 0, .int .i64 0, fv] w fun e w' => e = .returned (.tuple #[]) ∧ w' = w := by
  go_enter Tryz.func91, Tryz.ntmps91
  go_wp2
  refine wp_loop_rounds 1 ?_
  rw [rounds_succ]
  go_wp2
  go_end0
  exact ⟨rfl, rfl⟩
set_option maxRecDepth 100000 in
set_option maxHeartbeats 2000000 in
theorem pdq_none (p : Option Addr) (cap : Nat) (lim : Int) (fv : Value) (w : World) : Calls Tryz.prog 68 #[.slice p 0 cap, .int .i64 0, .int .i64 0, .int .i64 lim, fv] w fun e w' => e = .returned (.tuple #[]) ∧ w' = w := by
  have hi := ins_none p cap fv
  go_enter Tryz.func68, Tryz.ntmps68
  go_wp2
  refine wp_loop_rounds 1 ?_
  rw [rounds_succ]
  go_wp2_with (fail)
  refine (hi _).mono ?_
  rintro e w' ⟨rfl, rfl⟩
  go_wp2_with (fail)
  (try simp only [Exit.inBlock, Exit.then]); refine bodyPost_ret (results_none rfl _ _ _) rfl ?_
  exact ⟨rfl, rfl⟩
set_option maxRecDepth 100000 in
set_option maxHeartbeats 2000000 in
theorem sort_none (p : Option Addr) (cap : Nat) (fv : Value) (w : World) : Calls Tryz.prog 44 #[.slice p 0 cap, fv] w fun e w' => e = .returned (.tuple #[]) ∧ w' = w := by
  have hp := fun lim W => pdq_none p cap lim fv W
  have hl : ∀ W, Calls Tryz.prog 69 #[.int .u64 0] W fun e w' => (∃ l : Int, e = .returned (.int .i64 l)) ∧ w' = W := fun W => (Tryz.bits_Len 0 W (by omega) (by omega)).mono fun e w' ⟨he, hw⟩ => ⟨⟨_, he⟩, hw⟩
  go_enter Tryz.func44, Tryz.ntmps44
  go_wp2_with (fail)
  refine (hl _).mono ?_
  rintro e w' ⟨⟨l, rfl⟩, rfl⟩
  go_wp2_with (fail)
  refine (hp _ _).mono ?_
  rintro e w' ⟨rfl, rfl⟩
  go_wp2_with (fail)
  go_end0
  exact ⟨rfl, rfl⟩
/-- whatever is owned, sorted -/
theorem sortO (w : World) (base n : Nat) (a : Option Addr) (c : Nat) (ps : List (Int × Int)) (h : AllO base w (.slice a n c) ps) (hn : ps.length = n) (h12 : n ≤ 12) :
    Calls Tryz.prog 44 #[.slice a n c, .func (.func 45) #[] #[]] w fun e w' => e = .returned (.tuple #[]) ∧
      ∃ ps' : List (Int × Int), ps'.Perm ps ∧ (ps'.Pairwise fun p q => ¬ (q.1 < p.1 ∨ (q.1 = p.1 ∧ q.2 < p.2))) ∧ Rows2 w' a n (ps'.map pairL) ∧ Below base w w' := by
  subst hn
  rcases Nat.eq_zero_or_pos ps.length with h0 | h0
  · rw [h0]
    have hp : ps = [] := List.eq_nil_of_length_eq_zero h0
    subst hp
    refine (sort_none a c _ w).mono fun e w' ⟨he, hw⟩ => ⟨he, [], .refl _, .nil, ⟨rfl, by omega, fun k x hk => by simp at hk⟩, by rw [hw]; exact Below.refl _ _⟩
  · obtain ⟨vs, h1, h2⟩ := h
    have hvl : vs.length = ps.length := by have := h1.1; omega
    obtain ⟨hl, ⟨he, _⟩ | ⟨g, cap, cur, he, hbg, hg, hnc, hcm, hcs, htk⟩⟩ := id h1
    · simp only [Value.slice.injEq] at he; omega
    · simp only [Value.slice.injEq, true_and] at he
      obtain ⟨rfl, rfl⟩ := he
      have hcells : ∀ (k : Nat) (u : Value), vs[k]? = some u → w.cell? ⟨g, k, none⟩ = some u ∧ w.frozen? ⟨g, k, none⟩ = false := fun k u hu => by
        obtain ⟨g', cap', e', _, _, hc⟩ := owns_block h1 h0
        simp only [Value.slice.injEq, Option.some.injEq, Addr.mk.injEq, and_true, true_and] at e'
        obtain ⟨rfl, rfl⟩ := e'
        exact ⟨hc k u hu, by simp [World.frozen?, hg]⟩
      refine (sortRows w g c ps.length h0 h12 vs ps hvl rfl hcells (fun k u p hu hp => ?_)).mono fun e w' ⟨he, ps', e1, e2, e3, f1, f2, f3, f4, f5⟩ => ⟨he, ps', e1, e2, e3, ⟨f1, f2, f3, by omega, fun k hk => f5 k (by omega)⟩⟩
      have hro := h2 k u p hu hp
      obtain ⟨b, o, c', hu', hne⟩ := hro.apart h1
      obtain ⟨b2, o2, c2, he2, g1, g2, g3, g4, _⟩ := hro
      rw [hu'] at he2
      cases he2
      exact ⟨b, o, c', hu', fun e => hne (by rw [e]; rfl), g1, g2, g3, g4⟩
/-- Chain of two right sources: the result's shape -/
theorem ChainP2 (xs ys : List Tok) (a1 : Option Addr) (n1 c1 : Nat) (a2 : Option Addr) (n2 c2 : Nat) (w : World) (h1 : Toks w a1 n1 xs) (h2 : Toks w a2 n2 ys) (hv : EV w) (hk : chkT xs ys = 0) :
    Calls Tryz.prog 16 #[.slice a1 n1 c1, .slice a2 n2 c2] w fun e w' => ∃ a c, e = .returned (.tuple #[.slice a (chnE xs ys).length c, .int .i64 0]) ∧ Rows2 w' a (chnE xs ys).length (rowsP (chnE xs ys)) ∧ (a = none ∨ ∃ g, a = some ⟨g, 0, none⟩) ∧ Below w.heap.size w w' := by
  have HC := Lib.hid (checkP xs ys a1 n1 c1 a2 n2 c2 w h1 h2 hv)
  obtain ⟨g1, g2, g3, g4⟩ := chkT_zero hk
  have HP := Lib.hid (fun W (hb : Below w.heap.size w W) => pairsP xs ys a1 n1 c1 a2 n2 c2 W (Toks.mono h1 (Nat.le_refl _) hb) (Toks.mono h2 (Nat.le_refl _) hb) (fun t ht => tok_flags (g3 t ht)) (fun t ht => tok_flags (g4 t ht)) (by have := h1.len; omega) (by have := h2.len; omega))
  have HE := Lib.hid (show prsE xs ys = pairsL (keysT xs) (keysT ys) by unfold prsE; rw [if_pos hk])
  have hpl := @prsE_len xs ys
  have HCE := Lib.hid (show chnE xs ys = inL (prsE xs ys) from rfl)
  obtain ⟨l, hll⟩ : ∃ l, prsE xs ys = l := ⟨_, rfl⟩
  rw [hll] at HE hpl HCE
  rw [← HE.out] at HP
  rw [hk] at HC
  rw [HCE.out]
  clear h1 h2 hv hk g1 g2 g3 g4 hll
  go_enter Tryz.func16, Tryz.ntmps16
  go_wp2_with (fail)
  refine HC.out.mono ?_
  rintro e wa ⟨rfl, hba⟩
  have HBA := Lib.hid hba
  clear hba
  go_wp2_with (fail)
  refine (HP.out _ HBA.out).mono ?_
  rintro e wb ⟨v, rfl, ho, hb⟩
  obtain ⟨ap, kp, rfl, hr⟩ := ho.rows (by rw [rowsP_len]; omega) rows_two
  rw [rowsP_len] at hr ⊢
  have HCH := Lib.hid (chainP l ap l.length kp wb hr hpl)
  have HB := Lib.hid (bstep HBA.out hb)
  clear ho hb hr
  go_wp2_with (fail)
  refine HCH.out.mono ?_
  rintro e wc ⟨v1, v2, rfl, hch, hb⟩
  have hil : (rowsP (inL l)).length ≤ 4611686018427387903 := by have := in_out_len l; rw [rowsP_len]; omega
  obtain ⟨ai, ki, rfl, hri⟩ := hch.1.rows hb hil
  have HSH := Lib.hid (show ai = none ∨ ∃ g, ai = some ⟨g, 0, none⟩ by
    obtain ⟨vs, h1, _⟩ := hch.1
    rcases h1.2 with ⟨he, _⟩ | ⟨g, cap, cur, he, _⟩
    · simp only [Value.slice.injEq] at he; exact .inl he.1
    · simp only [Value.slice.injEq] at he; exact .inr ⟨g, he.1⟩)
  rw [rowsP_len] at hri ⊢
  have HRI := Lib.hid hri
  have HB2 := Lib.hid (bstep HB.out hb)
  clear hch hb hri hil
  go_wp2_with (fail)
  go_ret2
  exact ⟨_, _, rfl, HRI.out, HSH.out, HB2.out⟩
theorem cloneRows (W : World) (a : Option Addr) (n c : Nat) (C : List (Nat × Nat)) (hr : Rows2 W a n (rowsP C)) (hn : n ≤ 1024) (hs : a = none ∨ ∃ g, a = some ⟨g, 0, none⟩) :
    Calls Tryz.prog 43 #[.slice a n c] W fun e w' => ∃ v, e = .returned v ∧ AllO W.heap.size w' v (C.map pairI) ∧ Below W.heap.size W w' := by
  obtain ⟨i0, hi0, hz0, hz1, hz2⟩ := info_parts infoRw
  have hl : C.length = n := by have := hr.len; rwa [rowsP_len] at this
  rcases hs with rfl | ⟨g, rfl⟩
  · have h0 : n = 0 := by
      rcases Nat.eq_zero_or_pos n with h | h
      · exact h
      · obtain ⟨p, b, o, ab, ao, kr, hp, he, _⟩ := rowAt hr h
        cases he
    subst h0
    have hC : C = [] := List.eq_nil_of_length_eq_zero hl
    subst hC
    exact (Tryz.slices_Clone_nil 0 c W).mono fun e w' ⟨he, hw⟩ => ⟨_, he, AllO.nil _ _, by rw [hw]; exact Below.refl _ _⟩
  · have hex : ∀ k : Fin n, ∃ u : Value, W.cell? ⟨g, k.val, none⟩ = some u ∧ ∀ p, C[k.val]? = some p → RowO W.heap.size W u (pairI p) := fun k => by
      obtain ⟨p, b, o, ab, ao, kr, hp, he, q1, q2, q3⟩ := rowAt hr k.isLt
      cases he
      rw [Nat.zero_add] at q1
      refine ⟨_, q1, fun p' hp' => ?_⟩
      rw [hp] at hp'
      cases hp'
      have hi64 : I64 (p.1 : Int) ∧ I64 (p.2 : Int) := by
        obtain ⟨row, b1, o1, v1, hx, e1, hc1, ar, nr, kr', e2, hri⟩ := hr.at k.isLt
        have hrow : row = rowP p := by
          unfold rowsP at hx
          rw [List.getElem?_map, hp] at hx
          exact (Option.some.inj hx).symm
        rw [hrow] at hri
        exact ⟨Ints.wf hri _ (by simp [rowP]), Ints.wf hri _ (by simp [rowP])⟩
      exact ⟨ab, ao, kr, rfl, q2, q3, hi64.1, hi64.2, .inl (cell_lt q2)⟩
    obtain ⟨f, hf⟩ := Classical.axiomOfChoice hex
    refine (Tryz.slices_Clone i0 (.slice none 0 0) 1 24 hi0 hz0 hz1 hz2 rfl (by decide) (fun w => Tryz.sizeOf29 w) g 0 n c (List.ofFn f) W (by simp) (by unfold maxLen; omega) (by omega) (fun j u hu => ?_) (fun u hu => ?_)).mono fun e w' ⟨v', he, ho, _, hb⟩ => ⟨v', he, ⟨List.ofFn f, by rw [List.length_map, hl]; exact ho, fun k u p hu hp => ?_⟩, hb⟩
    · obtain ⟨hj, rfl⟩ := List.getElem?_eq_some_iff.1 hu
      rw [List.getElem_ofFn, Nat.zero_add]
      exact (hf ⟨j, by simpa using hj⟩).1
    · obtain ⟨k, hk⟩ := List.getElem?_of_mem hu
      obtain ⟨hj, rfl⟩ := List.getElem?_eq_some_iff.1 hk
      have hkn : k < n := by simpa using hj
      rw [List.getElem_ofFn]
      obtain ⟨b, o, c', he, _⟩ := (hf ⟨k, hkn⟩).2 C[k] (List.getElem?_eq_getElem (by rw [hl]; exact hkn))
      rw [he]
      rfl
    · obtain ⟨hj, rfl⟩ := List.getElem?_eq_some_iff.1 hu
      have hkn : k < n := by simpa using hj
      rw [List.getElem_ofFn]
      rw [List.getElem?_map] at hp
      obtain ⟨q, hq, rfl⟩ := Option.map_eq_some_iff.1 hp
      exact ((hf ⟨k, hkn⟩).2 q hq).below hb
end Go.Proofs.YtbahddjbncinbaaGreatDoor
