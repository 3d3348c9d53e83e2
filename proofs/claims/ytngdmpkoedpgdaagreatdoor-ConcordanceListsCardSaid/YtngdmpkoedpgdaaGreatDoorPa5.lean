/-
  Parse (program): the walk.
-/
import Derived.Test.YtngdmpkoedpgdaaGreatDoorU4
import Derived.Test.YtngdmpkoedpgdaaGreatDoorIp
import Derived.Test.YtngdmpkoedpgdaaGreatDoorU8
namespace Go.Ap
open Go Go.RowKit
theorem grown_any {A B : World} (h : Below A.heap.size A B) : A.grownBy B none := ⟨h.os, h.tape, h.output, h.size, fun k hk _ => h.block k hk⟩
/-- what Parse has done after some lines -/
structure PaI (tps te ts tp ti : TypeId) (w : World) (B : Nat) (xs : List Str) (W : World) : Prop where
  below : Below B w W
  r2 : Boxed W B tps (.slice none 0 0)
  r3 : Boxed W (B + 1) te (.int .i64 0)
  out : ∃ l v, postsG xs = some l ∧ Boxed W (B + 2) tps v ∧ OwnPp ti tp W B v l
  bx : ∃ v, Boxed W (B + 3) ts v
/-- how it has ended -/
structure PaX (tps te : TypeId) (w : World) (B : Nat) (xs : List Str) (W : World) : Prop where
  below : Below B w W
  r2 : Boxed W B tps (.slice none 0 0)
  r3 : Boxed W (B + 1) te (.int .i64 3)
  none : postsG xs = none
section
variable {tps te ts tp ti : TypeId} {w W W' : World} {B : Nat} {xs : List Str} {row : Option Nat}
theorem PaI.kept (h : PaI tps te ts tp ti w B xs W) (hg : W.grownBy W' row) (hr : ∀ r, row = some r → B + 3 < r ∧ ∀ (cs : Array Value) (t : TypeId) (fz : Nat × Nat), W.heap[r]? = some (Obj.cells cs t fz) → t ≠ tp ∧ t ≠ ti) : PaI tps te ts tp ti w B xs W' := by
  have hsz : B + 3 < W.heap.size := by obtain ⟨v, hv⟩ := h.bx; exact hv.lt
  have ne : ∀ k, k ≤ B + 3 → some k ≠ row := fun k hk e => by have := (hr k e.symm).1; omega
  obtain ⟨l, v, h1, h2, qs, h3, h4, h5⟩ := h.out
  refine ⟨h.below.grown hg (by omega) fun k hk => by have := (hr k hk).1; omega, h.r2.kept hg (ne _ (by omega)), h.r3.kept hg (ne _ (by omega)), ⟨l, v, h1, h2.kept hg (ne _ (by omega)), qs, h3, h4.kept hg ?_, fun q hq => (h5 q hq).keep (KeepI.of_grown hg fun k cs fz hk hc => ((hr k hk).2 cs ti fz hc).2 rfl)⟩, ?_⟩
  · rcases h4.2 with ⟨rfl, _⟩ | ⟨g, cap, cur, rfl, _, hgg, _⟩
    · exact .inl rfl
    · exact .inr fun e => ((hr g (by rw [← e]; rfl)).2 _ _ _ hgg).1 rfl
  · obtain ⟨u, hu⟩ := h.bx
    exact ⟨u, hu.kept hg (ne _ (by omega))⟩
theorem PaI.put (ht : ts ≠ tp ∧ ts ≠ ti) (h : PaI tps te ts tp ti w B xs W) (u : Value) : PaI tps te ts tp ti w B xs (W.setCell ⟨B + 3, 0, none⟩ u) := by
  have hsz : B + 3 < W.heap.size := by obtain ⟨v, hv⟩ := h.bx; exact hv.lt
  have hg := grownBy_setCell' W (B + 3) u
  have ne : ∀ k, k < B + 3 → some k ≠ some (B + 3) := fun k hk e => by cases e; omega
  obtain ⟨l, v, h1, h2, qs, h3, h4, h5⟩ := h.out
  obtain ⟨z, hz⟩ := h.bx
  have hz' : W.heap[B + 3]? = some (Obj.cells #[z] ts (0, 0)) := hz
  refine ⟨h.below.grown hg (by omega) fun k hk => by cases hk; omega, h.r2.kept hg (ne _ (by omega)), h.r3.kept hg (ne _ (by omega)), ⟨l, v, h1, h2.kept hg (ne _ (by omega)), qs, h3, h4.kept hg ?_, fun q hq => (h5 q hq).keep (KeepI.of_grown hg fun k cs fz hk hc => ?_)⟩, ⟨u, hz.set u⟩⟩
  · rcases h4.2 with ⟨rfl, _⟩ | ⟨g, cap, cur, rfl, _, hgg, _⟩
    · exact .inl rfl
    · refine .inr fun e => ?_
      have e2 : g = B + 3 := by simpa [Value.ownBlock] using e
      subst e2
      rw [hz'] at hgg
      cases hgg
      exact ht.1 rfl
  · cases hk
    rw [hz'] at hc
    cases hc
    exact ht.2 rfl
theorem PaX.kept (h : PaX tps te w B xs W) (hg : W.grownBy W' row) (hr : ∀ r, row = some r → B + 3 < r) : PaX tps te w B xs W' := by
  have hsz := h.r3.lt
  have ne : ∀ k, k ≤ B + 3 → some k ≠ row := fun k hk e => by have := hr k e.symm; omega
  exact ⟨h.below.grown hg (by omega) fun k hk => by have := hr k hk; omega, h.r2.kept hg (ne _ (by omega)), h.r3.kept hg (ne _ (by omega)), h.none⟩
theorem bx_below {k : Nat} {t : TypeId} {u : Value} {A C : World} (h : Boxed A k t u) (hb : Below A.heap.size A C) : Boxed C k t u := (hb.block _ h.lt).trans h
theorem PaI.bad {X : World} {x : Str} (h : PaI tps te ts tp ti w B xs W) (hk : Below W.heap.size W X) (hx : postL x = none) :
    Boxed X B tps (.slice none 0 0) ∧ Boxed X (B + 1) te (.int .i64 0) ∧ Boxed (X.setCell ⟨B, 0, none⟩ (.slice none 0 0)) (B + 1) te (.int .i64 0) ∧
    KeepsFrom (B + 4) W ((X.setCell ⟨B, 0, none⟩ (.slice none 0 0)).setCell ⟨B + 1, 0, none⟩ (.int .i64 3)) ∧ PaX tps te w B (xs ++ [x]) ((X.setCell ⟨B, 0, none⟩ (.slice none 0 0)).setCell ⟨B + 1, 0, none⟩ (.int .i64 3)) := by
  have hsz : B + 3 < W.heap.size := by obtain ⟨v, hv⟩ := h.bx; exact hv.lt
  have a2 := bx_below h.r2 hk
  have a3 := bx_below h.r3 hk
  have b2 := a2.set (.slice none 0 0)
  have b3 : Boxed (X.setCell ⟨B, 0, none⟩ (.slice none 0 0)) (B + 1) te (.int .i64 0) := a3.kept (grownBy_setCell' X B _) (by simp)
  have c2 : Boxed ((X.setCell ⟨B, 0, none⟩ (.slice none 0 0)).setCell ⟨B + 1, 0, none⟩ (.int .i64 3)) B tps (.slice none 0 0) := b2.kept (grownBy_setCell' _ (B + 1) _) (by simp)
  have k1 : KeepsFrom (B + 4) W X := (KeepsOthers.of_grownBy (grown_any hk) (by simp)).from _
  refine ⟨a2, a3, b3, (k1.trans (KeepsFrom.of_grownBy (grownBy_setCell' X B _) fun j hj => by cases hj; omega)).trans (KeepsFrom.of_grownBy (grownBy_setCell' _ (B + 1) _) fun j hj => by cases hj; omega), ?_, c2, b3.set _, postsG_bad (by simp) hx⟩
  have s1 := hk.size
  have s2 := (grownBy_setCell' X B (.slice none 0 0)).size
  exact ((h.below.trans (hk.mono (by omega))).grown (grownBy_setCell' X B _) (by omega) fun k hk => by cases hk; omega).grown (grownBy_setCell' _ (B + 1) _) (by omega) fun k hk => by cases hk; omega
theorem PaI.push {X Y : World} {x a b : Str} {L : List Int} {l : List Post} {vO v v' : Value} {qs : List PIt} {tmp : Obj}
    (t1 : tps ≠ tp) (t2 : te ≠ tp) (t3 : ts ≠ tp) (t4 : ti ≠ tp) (t5 : ti ≠ tps) (h : PaI tps te ts tp ti w B xs W) (hk : Below W.heap.size W X) (hp : postsG xs = some l)
    (hO : Boxed X (B + 2) tps vO) (hqs : qs.map (·.1) = l) (hrow : X.ownsRow B tp 3 vO l.length (qs.flatMap piC)) (hlin : ∀ q ∈ qs, LinT ti X q) (hq : LinT ti X (((a, b), L), v)) (hx : postL x = some ((a, b), L))
    (hown : Y.ownsRow B tp 3 v' (l.length + 1) (qs.flatMap piC ++ [.string (bs a), .string (bs b), v])) (hg : (X.alloc tmp).grownBy Y vO.ownBlock) :
    Boxed Y (B + 2) tps vO ∧ KeepsFrom (B + 4) W (Y.setCell ⟨B + 2, 0, none⟩ v') ∧ KpB ts (B + 3) W (Y.setCell ⟨B + 2, 0, none⟩ v') ∧ PaI tps te ts tp ti w B (xs ++ [x]) (Y.setCell ⟨B + 2, 0, none⟩ v') := by
  have hsz : B + 3 < W.heap.size := by obtain ⟨v, hv⟩ := h.bx; exact hv.lt
  have hszX : W.heap.size ≤ X.heap.size := hk.size
  obtain ⟨p1, p2, p3, p4, p5⟩ := hO.appended t1 hrow (by omega) (by omega) hown hg
  have keep : ∀ {k : Nat} {t : TypeId} {u : Value}, t ≠ tp → k ≠ B + 2 → Boxed W k t u → Boxed (Y.setCell ⟨B + 2, 0, none⟩ v') k t u := fun ht hne hb =>
    (((bx_below hb hk).alloc tmp).kept hg ((bx_below hb hk).not_row ht hrow)).kept (grownBy_setCell' Y (B + 2) v') (by simpa using hne)
  have kl : KeepI ti X (Y.setCell ⟨B + 2, 0, none⟩ v') := by
    refine ((KeepI.of_below (balloc X tmp)).trans (KeepI.of_grown hg fun k cs fz hr hc => ?_)).trans (KeepI.of_grown (grownBy_setCell' Y (B + 2) v') fun k cs fz hr hc => ?_)
    · rcases hrow.2 with ⟨rfl, _⟩ | ⟨g, cap, cur, rfl, _, hgg, _⟩
      · cases hr
      · cases hr
        rw [(balloc X tmp).block _ (Array.getElem?_eq_some_iff.1 hgg).1, hgg] at hc
        cases hc
        exact t4 rfl
    · cases hr
      rw [show Y.heap[B + 2]? = _ from p1] at hc
      cases hc
      exact t5 rfl
  refine ⟨p1, ((KeepsOthers.of_grownBy (grown_any hk) (by simp)).trans p4).from _, ⟨?_, fun u hu => keep t3 (by omega) hu⟩, ?_, keep t1 (by omega) h.r2, keep t2 (by omega) h.r3, ⟨l ++ [((a, b), L)], v', postsG_ok hp hx, p2, qs ++ [(((a, b), L), v)], by rw [List.map_append, hqs]; rfl, ?_, fun q hm => ?_⟩, ?_⟩
  · have := p5.size
    omega
  · exact (h.below.trans (hk.mono (by omega))).trans p5
  · rw [List.flatMap_append, List.length_append]
    exact p3
  · rcases List.mem_append.1 hm with hm | hm
    · exact (hlin q hm).keep kl
    · rw [List.mem_singleton] at hm
      rw [hm]
      exact hq.keep kl
  · obtain ⟨u, hu⟩ := h.bx
    exact ⟨u, keep t3 (by omega) hu⟩
theorem OwnI.linT {e : TypeId} {W : World} {base : Nat} {v : Value} {L : List Int} {a b : Str} (h : OwnI e W base v L) (hn : L ≠ []) (h1 : a.length ≤ 4611686018427387903) (h2 : b.length ≤ 4611686018427387903) (h3 : L.length ≤ 4611686018427387903) : LinT e W (((a, b), L), v) := by
  obtain ⟨g, h4⟩ := h
  obtain ⟨a9, c9, e9, hi⟩ := ints_of_owns g h4 h3
  rcases g.2 with ⟨_, e⟩ | ⟨g9, cap, cur, e, _, hgg, _⟩
  · exact absurd (List.length_eq_zero_iff.1 e) hn
  · obtain ⟨rfl, _, rfl⟩ := Value.slice.inj (e.symm.trans e9)
    subst e
    exact ⟨g9, 0, _, rfl, ⟨_, _, hgg⟩, h1, h2, hi⟩
theorem nums_step {A D v v9 : Value} {M : Nat} {L : List Int} {z : Int} {ss : Array Value} {tmp : Obj} (t1 : tp ≠ ti) (t2 : ts ≠ ti) (hO : OwnI ti W M v L) (hz : I64 z) (hP : BlkK W (M + 1) #[A, D, v] tp) (hS : BlkK W M ss ts) (hM : M + 1 ≤ W.heap.size)
    (hown : W'.ownsRow M ti 1 v9 (L.length + 1) (L.map (Value.int .i64) ++ [.int .i64 z])) (hg : (W.alloc tmp).grownBy W' v.ownBlock) :
    BlkK W' (M + 1) #[A, D, v] tp ∧ OwnI ti (W'.setCell ⟨M + 1, 2, none⟩ v9) M v9 (L ++ [z]) ∧ BlkK (W'.setCell ⟨M + 1, 2, none⟩ v9) (M + 1) #[A, D, v9] tp ∧ BlkK (W'.setCell ⟨M + 1, 2, none⟩ v9) M ss ts ∧ Below M W (W'.setCell ⟨M + 1, 2, none⟩ v9) := by
  have hP1 := (hP.allocK tmp).keptE hg (hP.apart hO.1 t1)
  have hS1 := (hS.allocK tmp).keptE hg (hS.apart hO.1 t2)
  have hs : W'.grownBy (W'.setCell ⟨M + 1, 2, none⟩ v9) (some (M + 1)) := ⟨rfl, rfl, rfl, by simp [World.setCell], fun k _ hk => Below.heap_setCell _ _ _ k fun e => hk (by rw [e])⟩
  have hb1 : Below M W W' := ((Below.refl M W).alloc (by omega) tmp).grown hg (by simp; omega) fun k hk => (hO.1.lt k hk).1
  have hs1 := hb1.size
  refine ⟨hP1, (OwnI.push1 hO hz hown).kept hs (.inr fun e => BlkK.apart hP1 hown t1 e.symm), ?_, hS1.keptE hs (by simp), hb1.grown hs (by omega) fun k hk => by cases hk; omega⟩
  obtain ⟨hl, he⟩ := Array.getElem?_eq_some_iff.1 (show W'.heap[M + 1]? = _ from hP1)
  refine Array.getElem?_eq_some_iff.2 ⟨by simpa [World.setCell] using hl, ?_⟩
  simp [World.setCell, Array.getElem_modify, he]
theorem BlkK.frz {b i : Nat} {cs : Array Value} (h : BlkK W b cs tp) : W.frozen? ⟨b, i, none⟩ = false := by simp [World.frozen?, show W.heap[b]? = _ from h]
theorem OwnPp.kept {v : Value} {l : List Post} (h : OwnPp ti tp W B v l) (hg : W.grownBy W' row) (hr : ∀ r, row = some r → ∀ (cs : Array Value) (t : TypeId) (fz : Nat × Nat), W.heap[r]? = some (Obj.cells cs t fz) → t ≠ tp ∧ t ≠ ti) : OwnPp ti tp W' B v l := by
  obtain ⟨qs, h3, h4, h5⟩ := h
  refine ⟨qs, h3, h4.kept hg ?_, fun q hq => (h5 q hq).keep (KeepI.of_grown hg fun k cs fz hk hc => (hr k hk cs ti fz hc).2 rfl)⟩
  rcases h4.2 with ⟨rfl, _⟩ | ⟨g, cap, cur, rfl, _, hgg, _⟩
  · exact .inl rfl
  · exact .inr fun e => (hr g (by rw [← e]; rfl) _ _ _ hgg).1 rfl
/-- the end: the two results are stored, what was put off is taken -/
theorem fin_cells {u u0 c c0 : Value} {D : Nat} (hB : Boxed W B tps u0) (h1 : Boxed W (B + 1) te c0) (hD : W.heap[D]? = some (.deferred (some []))) (hne : B + 1 < D) (hb : Below B w W) :
    Boxed (W.setCell ⟨B, 0, none⟩ u) (B + 1) te c0 ∧ ((W.setCell ⟨B, 0, none⟩ u).setCell ⟨B + 1, 0, none⟩ c).heap[D]? = some (.deferred (some [])) ∧
    ∀ o, Boxed (((W.setCell ⟨B, 0, none⟩ u).setCell ⟨B + 1, 0, none⟩ c).putObj D o) B tps u ∧ Boxed (((W.setCell ⟨B, 0, none⟩ u).setCell ⟨B + 1, 0, none⟩ c).putObj D o) (B + 1) te c ∧ Below B w (((W.setCell ⟨B, 0, none⟩ u).setCell ⟨B + 1, 0, none⟩ c).putObj D o) ∧
      ∀ {v : Value} {l : List Post}, tps ≠ tp → tps ≠ ti → te ≠ tp → te ≠ ti → OwnPp ti tp W B v l → OwnPp ti tp (((W.setCell ⟨B, 0, none⟩ u).setCell ⟨B + 1, 0, none⟩ c).putObj D o) B v l := by
  have g1 := grownBy_setCell' W B u
  have g2 := grownBy_setCell' (W.setCell ⟨B, 0, none⟩ u) (B + 1) c
  have a1 : Boxed (W.setCell ⟨B, 0, none⟩ u) (B + 1) te c0 := h1.kept g1 (by simp)
  have b0 := (hB.set u).kept g2 (by simp)
  have b1 := a1.set c
  have hlt := (Array.getElem?_eq_some_iff.1 hD).1
  have d1 : (W.setCell ⟨B, 0, none⟩ u).heap[D]? = some (.deferred (some [])) := (g1.block D hlt (by simp; omega)).trans hD
  have hlt1 := (Array.getElem?_eq_some_iff.1 d1).1
  have d2 : ((W.setCell ⟨B, 0, none⟩ u).setCell ⟨B + 1, 0, none⟩ c).heap[D]? = some (.deferred (some [])) := (g2.block D hlt1 (by simp; omega)).trans d1
  have hlt2 := (Array.getElem?_eq_some_iff.1 d2).1
  refine ⟨a1, d2, fun o => ?_⟩
  have g3 := grownBy_putObj' ((W.setCell ⟨B, 0, none⟩ u).setCell ⟨B + 1, 0, none⟩ c) D o
  refine ⟨b0.kept g3 (by simp; omega), b1.kept g3 (by simp; omega), ((hb.grown g1 (by omega) fun k hk => by cases hk; omega).grown g2 (by omega) fun k hk => by cases hk; omega).grown g3 (by omega) fun k hk => by cases hk; omega, fun t1 t2 t3 t4 h => ((h.kept g1 fun r hr cs t fz hc => ?_).kept g2 fun r hr cs t fz hc => ?_).kept g3 fun r hr cs t fz hc => ?_⟩
  · cases hr
    rw [show W.heap[B]? = _ from hB] at hc
    cases hc
    exact ⟨t1, t2⟩
  · cases hr
    rw [show (W.setCell ⟨B, 0, none⟩ u).heap[B + 1]? = _ from a1] at hc
    cases hc
    exact ⟨t3, t4⟩
  · cases hr
    rw [d2] at hc
    cases hc
theorem postsG_pre : ∀ {xs ys : List Str}, xs <+: ys → postsG xs = none → postsG ys = none
  | [], _, _, h => by cases h
  | x :: xs, ys, hp, h => by
    obtain ⟨zs, rfl⟩ := hp
    rw [List.cons_append]
    unfold postsG at h ⊢
    cases hx : postL x with
    | none => rfl
    | some q =>
      rw [hx] at h
      simp only at h ⊢
      cases hr : postsG xs with
      | none => rw [postsG_pre (List.prefix_append xs zs) hr]; rfl
      | some r => rw [hr] at h; cases h
end
end Go.Ap
namespace Go.Proofs.YtngdmpkoedpgdaaGreatDoor
open Go.RowKit Go.Ap Go.Shelf Go.Proofs

attribute [local go_sem] Oper.semAt_some bs_toList empty_toList bs_size bs_extract
theorem lines105 (s : Str) (w : World) : Calls Tryz.prog 105 #[.string (bs s)] w fun e w' => e = .returned (.func (.func 157) #[] #[.pointer (some ⟨w.heap.size, 0, none⟩)]) ∧ w' = w.alloc (.cells #[.string (bs s)] 9) := by
  go_enter Tryz.func105, Tryz.ntmps105
  go_wp2_with (fail)
  go_ret
  exact ⟨rfl, rfl⟩
/-- what Parse answers -/
def ParseA (e : Ending) (w w' : World) (o : Option (List Post)) : Prop := ∃ u c, e = .returned (.tuple #[u, .int .i64 c]) ∧ (∀ l, o = some l → c = 0 ∧ ∃ a k, u = .slice a l.length k ∧ Posts w' a l.length l) ∧ (o = none → c = 3 ∧ u = .slice none 0 0) ∧ Below w.heap.size w w'
abbrev PaJ (w : World) (B : Nat) (xs : List Str) (W : World) : Prop := PaI 27 28 9 37 3 w B xs W
abbrev PaY (w : World) (B : Nat) (xs : List Str) (W : World) : Prop := PaX 27 28 w B xs W
theorem infoPo5 : (Tryz.prog.info? 37).map (fun i => (i.zero, i.size, i.bytes)) = some (some (.agg #[.string { data := #[] }, .string { data := #[] }, .slice none 0 0]), 3, 56) := by kernel_rfl
set_option maxRecDepth 100000 in
set_option maxHeartbeats 8000000 in
theorem parseP (s : Str) (w : World) (hs : s.length ≤ 65536) (ht : ET w) (hev : EV w) (hem : EM w) :
    CallsIn Fence.wide 20 Tryz.prog 47 #[.string (bs s)] w fun e w' => ParseA e w w' (parseS s) := by
  obtain ⟨B, hB⟩ : ∃ B, w.heap.size = B := ⟨_, rfl⟩
  have HBE := Lib.hid hB
  have HS := Lib.hid hs
  have d0 : decide ((65536 : Int) < (s.length : Int)) = false := decide_eq_false (by omega)
  have HT := Lib.hid ht
  have HEV := Lib.hid hev
  have HEM := Lib.hid hem
  have eg := enters_of Tryz.func157 (by kernel_rfl) rfl
  have hF1 : Fence.wide.fn 105 := trivial
  have hF2 : Fence.wide.fn 109 := trivial
  have HLI := Lib.hid (fun W => lines105 s W)
  clear ht hev hem hs
  refine callsIn_of_wp_marks Tryz.func47 rfl trivial ?_ rfl
  simp only [Tryz.ntmps47, List.size_toArray, List.length_cons, List.length_nil, Nat.reduceAdd, Nat.reduceSub, Array.replicate_succ, Array.replicate_zero, List.push_toArray, List.append_toArray, List.nil_append, List.cons_append]
  obtain ⟨W1, hW1⟩ : ∃ W, w.alloc (.cells #[.slice none 0 0] 27) = W := ⟨_, rfl⟩
  obtain ⟨W2, hW2⟩ : ∃ W, W1.alloc (.cells #[.int .i64 0] 28) = W := ⟨_, rfl⟩
  obtain ⟨W3, hW3⟩ : ∃ W, W2.alloc (.cells #[.slice none 0 0] 27) = W := ⟨_, rfl⟩
  obtain ⟨W4, hW4⟩ : ∃ W, W3.alloc (.cells #[.string (bs s)] 9) = W := ⟨_, rfl⟩
  have s1 : W1.heap.size = B + 1 := by rw [← hW1, World.size_alloc, hB]
  have s2 : W2.heap.size = B + 2 := by rw [← hW2, World.size_alloc, s1]
  have s3 : W3.heap.size = B + 3 := by rw [← hW3, World.size_alloc, s2]
  have s4 : W4.heap.size = B + 4 := by rw [← hW4, World.size_alloc, s3]
  have b1 : Boxed W1 B 27 (.slice none 0 0) := by rw [← hW1, ← hB]; exact Boxed.new _ _ _
  have b2 : Boxed W2 (B + 1) 28 (.int .i64 0) := by rw [← hW2, ← s1]; exact Boxed.new _ _ _
  have b3 : Boxed W3 (B + 2) 27 (.slice none 0 0) := by rw [← hW3, ← s2]; exact Boxed.new _ _ _
  have b4 : Boxed W4 (B + 3) 9 (.string (bs s)) := by rw [← hW4, ← s3]; exact Boxed.new _ _ _
  have k2 : Below W1.heap.size W1 W2 := by rw [← hW2]; exact balloc _ _
  have k3 : Below W2.heap.size W2 W3 := by rw [← hW3]; exact balloc _ _
  have k4 : Below W3.heap.size W3 W4 := by rw [← hW4]; exact balloc _ _
  have k1 : Below w.heap.size w W1 := by rw [← hW1]; exact balloc _ _
  have HB4 := Lib.hid b4
  have HS4 := Lib.hid s4
  have HI := Lib.hid (show PaJ w B [] W4 from ⟨by rw [← hB]; exact bstep (bstep (bstep k1 k2) k3) k4, boxed_below (boxed_below (boxed_below b1 k2) k3) k4, boxed_below (boxed_below b2 k3) k4, ⟨[], .slice none 0 0, rfl, boxed_below b3 k4, [], rfl, World.ownsRow_nil _ _ _ _, fun q hq => by cases hq⟩, ⟨_, b4⟩⟩)
  have HSEQ := Lib.hid (fun m hm => lines_it s m hm W4 (B + 3) HS.out b4)
  have HL1 := Lib.hid (HLI.out W3)
  rw [s3] at HL1
  clear b1 b2 b3 b4 k1 k2 k3 k4 HLI
  gi_wp2_with (fail)
  refine (callsIn_wide.2 HL1.out).mono ?_
  rintro e W9 ⟨rfl, rfl⟩
  gi_wp2_with (fail)
  refine wpIn_rangeFunc_writes (F := Fence.wide) rfl (by omega) (gf := 157) rfl trivial eg (HSEQ.out _ (by omega)) KpB.trans
    (fun W l o o' hl ho hc hw => ⟨Nat.le_of_eq (by simp), fun u hu => (World.putObj_heap_other (by have := HS4.out; omega)).trans hu⟩) (fun W o hl => ⟨by simp, fun u hu => hu.alloc o⟩) (fun _ => rfl)
    (fun xs => PaJ w B (xs.map (·.1))) (fun xs => PaY w B (xs.map (·.1)))
    (fun xs A C row h hg hr => h.kept hg fun r e => by
      obtain ⟨g1, o, g2, g3⟩ := hr r e
      refine ⟨by have := HS4.out; omega, fun cs t fz hc => ?_⟩
      rw [hc] at g2
      cases g2
      cases g3)
    (fun xs A C row h hg hr => h.kept hg fun r e => by
      have := (hr r e).1
      have := HS4.out
      omega)
    (fun pre A C h hst => by
      obtain ⟨u, z, rfl, _⟩ := hst
      exact h.put (by decide) u)
    (fun A C k o hst hk ho hc => by
      obtain ⟨u, z, rfl, _⟩ := hst
      exact ((grownBy_setCell' A (B + 3) u).block k (Array.getElem?_eq_some_iff.1 ho).1 (by have := HS4.out; simp; omega)).trans ho)
    HI.out
    (fun x => { tmps := #[.string (bs s), undef, .pointer (some ⟨B, 0, none⟩), .pointer (some ⟨B + 1, 0, none⟩), .pointer (some ⟨B + 2, 0, none⟩), .string (bs x.1), undef, undef, undef, undef, undef, undef, .string (bs s), .int .i64 (s.length : Int), .bool false, .string (bs s), .func (.func 157) #[] #[.pointer (some ⟨B + 3, 0, none⟩)], .string (bs x.1), undef, undef, undef, undef, undef, undef, undef, undef, undef, undef, undef, undef, undef, undef, undef, undef, undef, undef, undef, undef, undef, undef, undef, undef, undef, undef, undef, undef, undef, undef, undef, undef, undef, undef, undef, undef, undef, undef, undef, undef, undef, undef, undef, undef, undef, undef, undef, undef], defers := [] }) ?assign ?body ?done ?stop
  case assign =>
    intro l x W K hK
    gi_wp2
    exact hK
  case body =>
    as_aux_lemma =>
    rintro l pre x W hI hlt
    rw [HS4.out]
    obtain ⟨x, hx⟩ := x
    simp only at hI ⊢
    have HI2 := Lib.hid hI
    have HXL := Lib.hid (linesL_mem hx)
    have HSZ := Lib.hid (show B + 3 < W.heap.size from by obtain ⟨v, hv⟩ := hI.bx; exact hv.lt)
    have HTR := Lib.hid (trimP x W (by have := linesL_mem hx; have := HS.out; omega))
    have HSP := Lib.hid (splitP (trimNl x) W (by have := linesL_mem hx; have := HS.out; have := trimNl_len x; omega) (HEM.out.mono (Nat.le_of_eq HBE.out) hI.below))
    clear hI
    obtain ⟨M, hM⟩ : ∃ M, W.heap.size = M := ⟨_, rfl⟩
    rw [hM] at HSP
    have HM := Lib.hid hM
    clear hM
    gi_wp2_with (fail)
    refine ⟨trivial, (CallsIn.inRound _ (callsIn_wide.2 HTR.out)).mono ?_⟩
    rintro e W9 ⟨rfl, rfl⟩
    gi_wp2_with (fail)
    refine ⟨trivial, (CallsIn.inRound _ (callsIn_wide.2 HSP.out)).mono ?_⟩
    rintro e X0 ⟨rfl, hX0⟩
    have HX0 := Lib.hid (show Below W.heap.size W X0 by rw [hX0]; exact balloc _ _)
    have HSB := Lib.hid (show BlkK X0 M ((cutAt 32 (trimNl x)).map sv).toArray 9 by rw [hX0, ← HM.out]; exact BlkK.new _ _ _)
    have HSX := Lib.hid (show X0.heap.size = M + 1 by rw [hX0, World.size_alloc, HM.out])
    clear hX0 HTR HSP
    by_cases hlen : (cutAt 32 (trimNl x)).length < 3
    · have d1 : decide (((cutAt 32 (trimNl x)).length : Int) < 3) = true := decide_eq_true (by omega)
      obtain ⟨g1, g2, g3, g4, g5⟩ := PaI.bad HI2.out HX0.out (postL_short hlen)
      have c1 := g1.cell
      have c1' := g1.frozen
      have c2 := g2.cell
      have c2' := g2.frozen
      have c3 := g3.cell
      have c3' := g3.frozen
      have HG := Lib.hid (And.intro g4 g5)
      clear g1 g2 g3 g4 g5 hlen
      gi_wp2_with (fail)
      refine ⟨HG.out.1, ?_⟩
      show PaY w B ((pre ++ [(⟨x, hx⟩ : {x : Str // x ∈ linesL s})]).map (·.1)) _
      rw [List.map_append]
      exact HG.out.2
    · obtain ⟨a, b, r, hcut, hrn⟩ : ∃ a b r, cutAt 32 (trimNl x) = a :: b :: r ∧ r ≠ [] := by
        match hc : cutAt 32 (trimNl x), hlen with
        | [], h => exact absurd (by decide) h
        | [_], h => exact absurd (by simp) h
        | [_, _], h => exact absurd (by simp) h
        | a :: b :: c :: r, _ => exact ⟨a, b, c :: r, rfl, by simp⟩
      have HCUT := Lib.hid hcut
      have HPL := Lib.hid (postL_long hcut hrn)
      have HRN := Lib.hid hrn
      have HRL := Lib.hid (show ∀ y ∈ a :: b :: r, y.length ≤ 65536 from fun y hy => by
        have := cutAt_mem (c := 32) (s := trimNl x) (x := y) (by rw [hcut]; exact hy)
        have := trimNl_len x
        have := HXL.out
        have := HS.out
        omega)
      rw [hcut] at HSB hlen ⊢
      obtain ⟨k, hk⟩ : ∃ k, (a :: b :: r).length = k := ⟨_, rfl⟩
      have HK := Lib.hid (show k = r.length + 2 by rw [← hk]; rfl)
      have HKB := Lib.hid (show k ≤ 65537 by
        have := cutAt_len 32 (trimNl x)
        rw [hcut] at this
        have := trimNl_len x
        have := HXL.out
        have := HS.out
        omega)
      rw [hk] at hlen ⊢
      have d1 : decide ((k : Int) < 3) = false := decide_eq_false (by omega)
      have i0 : (0 : Int) < (k : Int) := by omega
      have j0 : 0 < k := by omega
      have j1 : 1 < k := by omega
      have hsx := HSX.out
      have i1 : (1 : Int) < (k : Int) := by omega
      have HSB9 := Lib.hid (HSB.out.below (bdrewN X0 1))
      have HX9 := Lib.hid (show BlkK (X0.drew.alloc (.cells #[.string { data := #[] }, .string { data := #[] }, .slice none 0 0] 37)) (M + 1) #[.string { data := #[] }, .string { data := #[] }, .slice none 0 0] 37 by
        have := BlkK.new X0.drew #[.string { data := #[] }, .string { data := #[] }, .slice none 0 0] 37
        rw [show X0.drew.heap.size = M + 1 from HSX.out] at this
        exact this)
      clear hcut hrn hk hlen
      gi_wp2_with (fail)
      refine wpIn_region_planN (fun W' => BlkK W' M ((a :: b :: r).map sv).toArray 9) (.take 0 <| .take 1 <| .take 2 <| .take 3 <| .take 4 <| .take 5 <| .take 6 <| .one 7 <| .one 8 <| .fin) (fun _ => trivial) (by kernel_rfl) (by kernel_rfl) HSB9.out ?_
      iterate 2
        apply plan_take rfl rfl (by rfl)
        case hy =>
          rintro W' hb'
          clear hb'
          go_simp
          first | done | with_reducible rfl
        simp only [List.setIfInBounds_toArray, List.set_cons_zero, List.set_cons_succ]
      apply plan_take rfl rfl (by rfl)
      case hy =>
        rintro W' hb'
        have x0 : W'.cell? ⟨M, 0, none⟩ = some (.string (bs a)) := hb'.cell (i := 0) rfl
        have x1 : W'.cell? ⟨M, 1, none⟩ = some (.string (bs b)) := hb'.cell (i := 1) rfl
        clear hb'
        go_simp
        first | done | with_reducible rfl
      simp only [List.setIfInBounds_toArray, List.set_cons_zero, List.set_cons_succ]
      iterate 2
        apply plan_take rfl rfl (by rfl)
        case hy =>
          rintro W' hb'
          clear hb'
          go_simp
          first | done | with_reducible rfl
        simp only [List.setIfInBounds_toArray, List.set_cons_zero, List.set_cons_succ]
      apply plan_take rfl rfl (by rfl)
      case hy =>
        rintro W' hb'
        have x0 : W'.cell? ⟨M, 0, none⟩ = some (.string (bs a)) := hb'.cell (i := 0) rfl
        have x1 : W'.cell? ⟨M, 1, none⟩ = some (.string (bs b)) := hb'.cell (i := 1) rfl
        clear hb'
        go_simp
        first | done | with_reducible rfl
      simp only [List.setIfInBounds_toArray, List.set_cons_zero, List.set_cons_succ]
      apply plan_take rfl rfl (by rfl)
      case hy =>
        rintro W' hb'
        clear hb'
        go_simp
        first | done | with_reducible rfl
      simp only [List.setIfInBounds_toArray, List.set_cons_zero, List.set_cons_succ]
      refine plan_one rfl ?_
      gi_wp2_with (fail)
      refine ⟨HSB9.out.below (balloc _ _), ?_⟩
      refine plan_one rfl ?_
      gi_wp2_with (fail)
      have HB1 := Lib.hid (show Below M W (X0.alloc (.cells #[.string (bs a), .string (bs b), .slice none 0 0] 37)).drew by
        have := bstep HX0.out (below_drew (balloc X0 (.cells #[.string (bs a), .string (bs b), .slice none 0 0] 37)))
        rw [HM.out] at this
        exact this)
      have HSB1 := Lib.hid (HSB.out.below (below_drew (balloc X0 (.cells #[.string (bs a), .string (bs b), .slice none 0 0] 37))))
      have HPB1 := Lib.hid (show BlkK (X0.alloc (.cells #[.string (bs a), .string (bs b), .slice none 0 0] 37)).drew (M + 1) #[.string (bs a), .string (bs b), .slice none 0 0] 37 by
        have := BlkK.new X0 #[.string (bs a), .string (bs b), .slice none 0 0] 37
        rw [HSX.out] at this
        exact this)
      refine ⟨HSB1.out, ?_⟩
      refine plan_fin ?_
      obtain ⟨X1, hX1⟩ : ∃ X, (X0.alloc (.cells #[.string (bs a), .string (bs b), .slice none 0 0] 37)).drew = X := ⟨_, rfl⟩
      rw [hX1] at HB1 HSB1 HPB1 ⊢
      clear hX1 HSB9 HX9 hsx HSX HSB HX0
      have j2 : (2 : Int) ≤ (k : Int) := by omega
      have j3 : 2 ≤ k := by omega
      have j4 : 2 < k := by have := HK.out; have := List.length_pos_iff.2 HRN.out; omega
      obtain ⟨m, hm⟩ : ∃ m, r.length = m := ⟨_, rfl⟩
      have j5 : k - 2 = m := by have := HK.out; omega
      have HRM := Lib.hid hm
      have hmb : m ≤ 65537 := by have := HKB.out; omega
      rw [hm] at HK
      clear hm
      obtain ⟨i0, hi0, hz0, hz1, hz2⟩ := info_parts infoPo5
      obtain ⟨i9, hi9, hy0, hy1, hy2⟩ := info_parts infoInt5
      gi_wp2_with (fail)
      gi_loopw [34] (fun iv wr => ∃ (i : Nat) (L : List Int) (v : Value), i ≤ m ∧ iv = .int .i64 i ∧ numsL (r.take i) = some L ∧ OwnI 3 wr M v L ∧ BlkK wr (M + 1) #[.string (bs a), .string (bs b), v] 37 ∧ BlkK wr M ((a :: b :: r).map sv).toArray 9 ∧ Below M W wr) (fun iv _ => m - (intOf iv).toNat)
      case atStart => exact ⟨0, [], .slice none 0 0, Nat.zero_le _, rfl, rfl, OwnI.nil _ _ _, HPB1.out, HSB1.out, HB1.out⟩
      case round =>
        obtain ⟨wi, rfl⟩ : ∃ wi : World, wi = wr := ⟨_, rfl⟩
        obtain ⟨i, L, v, hile, rfl, hL, hO, hP, hSb, hb⟩ := hrel
        have HL := Lib.hid hL
        have HO := Lib.hid hO
        have HP := Lib.hid hP
        have HSb := Lib.hid hSb
        have HB := Lib.hid hb
        have HMW := Lib.hid (show M + 2 ≤ wi.heap.size by have := hP.lt; omega)
        have HLE := Lib.hid (show L.length ≤ 65537 by
          have := numsL_len hL
          rw [List.length_take] at this
          have := HK.out
          have := HKB.out
          omega)
        clear hL hO hP hSb hb
        by_cases hin : i < m
        · as_aux_lemma =>
          obtain ⟨y, hy⟩ : ∃ y, r[i]? = some y := ⟨r[i]'(by have := HRM.out; omega), List.getElem?_eq_getElem _⟩
          have hyr : y ∈ r := List.mem_of_getElem? hy
          have hyl := HRL.out y (List.mem_cons_of_mem _ (List.mem_cons_of_mem _ hyr))
          have c5 : wi.cell? ⟨M, 2 + i, none⟩ = some (.string (bs y)) := HSb.out.cell (by
            rw [List.getElem?_toArray, List.getElem?_map, show 2 + i = i + 1 + 1 by omega, List.getElem?_cons_succ, List.getElem?_cons_succ, hy]
            rfl)
          have hev2 : EV wi := HEV.out.mono (Nat.le_of_eq HBE.out) (HI2.out.below.trans (HB.out.mono (by have := HSZ.out; have := HM.out; omega)))
          have i2 : (i : Int) < (m : Int) := by omega
          by_cases hok : ∃ z, Lib.atoiAll y = .ok z
          · obtain ⟨z, hz⟩ := hok
            have HA := Lib.hid (atoi_good y wi (by omega) z hz)
            have HN2 := Lib.hid (show numsL (r.take (i + 1)) = some (L ++ [z]) by
              rw [List.take_add_one, hy]
              exact numsL_ok HL.out hz)
            have HZ := Lib.hid (atoi_i64 hz)
            clear hz hy hyr hyl hev2
            gi_wp2_with (fail)
            refine ⟨trivial, (CallsIn.inRound _ (callsIn_wide.2 HA.out)).mono ?_⟩
            rintro e w2 ⟨rfl, hb2⟩
            have HB2 := Lib.hid hb2
            have HP2 := Lib.hid (HP.out.below hb2)
            have HS2 := Lib.hid (HSb.out.below hb2)
            have HO2 := Lib.hid (HO.out.below hb2)
            have HM2 := Lib.hid (show M + 2 ≤ w2.heap.size by have := hb2.size; have := HMW.out; omega)
            have c6 : w2.cell? ⟨M + 1, 2, none⟩ = some v := HP2.out.cell rfl
            have HNW := Lib.hid (show ∀ (j : Nat) (u : Value), [.int .i64 z][j]? = some u → (w2.alloc (.cells #[.int .i64 z] 3)).cell? ((⟨w2.heap.size, 0, none⟩ : Addr).add j) = some u from World.news_of_block (cs := #[.int .i64 z]) (heap_fresh rfl))
            clear hb2 HA c5
            gi_wp2_with (gi_at_builtin; refine wpListIn_append_own _ rfl _ _ 26 rfl M 3 i9 (.int .i64 0) 1 8 Tryz.underlying26 hi9 hy0 hy1 hy2 rfl (by decide) _ _ _ rfl (World.ownsRow.alloc HO2.out.1 _) ⟨w2.heap.size, 0, none⟩ 1 1 [.int .i64 z] rfl rfl HNW.out (by simp [Value.oneCell']) (by have := HLE.out; unfold maxLen; omega) (by have := HLE.out; omega) (by have := HM2.out; simp; omega) ?_; intro v9 w4 hown1 hgrow1 _; obtain ⟨g8, cap8, rfl⟩ := ownsRow_succ hown1; have HST := Lib.hid (nums_step (by decide) (by decide) HO2.out HZ.out HP2.out HS2.out (by have := HM2.out; omega) hown1 hgrow1); have c7 := HST.out.1.frz (i := 2); have c8 : w4.cell? ⟨M + 1, 2, none⟩ = some v := HST.out.1.cell rfl; clear hown1 hgrow1)
            exact ⟨⟨i + 1, L ++ [z], .slice (some ⟨g8, 0, none⟩) (L.length + 1) cap8, by omega, by simp, HN2.out, HST.out.2.1, HST.out.2.2.1, HST.out.2.2.2.1, HB.out.trans ((HB2.out.mono (by have := HMW.out; omega)).trans HST.out.2.2.2.2)⟩, by simp [intOf]; omega⟩
          · have HA := Lib.hid (atoi_bad y wi (by omega) hev2 fun v e => hok ⟨v, e⟩)
            have HX9 := Lib.hid (show postL x = none by rw [HPL.out, numsL_bad hyr fun v e => hok ⟨v, e⟩]; rfl)
            clear hok hy hyr hyl hev2
            gi_wp2_with (fail)
            refine ⟨trivial, (CallsIn.inRound _ (callsIn_wide.2 HA.out)).mono ?_⟩
            rintro e w2 ⟨z9, t9, p9, rfl, hb2⟩
            obtain ⟨g1, g2, g3, g4, g5⟩ := PaI.bad HI2.out (show Below W.heap.size W w2 by rw [HM.out]; exact HB.out.trans (hb2.mono (by have := HMW.out; omega))) HX9.out
            have c1 := g1.cell
            have c1' := g1.frozen
            have c2 := g2.cell
            have c2' := g2.frozen
            have c3 := g3.cell
            have c3' := g3.frozen
            have HG := Lib.hid (And.intro g4 g5)
            clear g1 g2 g3 g4 g5 hb2 HA
            gi_wp2_with (fail)
            refine ⟨HG.out.1, ?_⟩
            show PaY w B ((pre ++ [(⟨x, hx⟩ : {x : Str // x ∈ linesL s})]).map (·.1)) _
            rw [List.map_append]
            exact HG.out.2
        · as_aux_lemma =>
          obtain rfl : m = i := by omega
          have hLr : numsL r = some L := by
            have := HL.out
            rwa [List.take_of_length_le (Nat.le_of_eq HRM.out)] at this
          have hne : L ≠ [] := fun e => HRN.out (List.length_eq_zero_iff.1 (by rw [← numsL_len hLr, e]; rfl))
          obtain ⟨a9, c9, rfl, _⟩ := ints_of_owns HO.out.1 HO.out.2 (by have := HLE.out; omega)
          have hWi : Below W.heap.size W wi := by rw [HM.out]; exact HB.out
          obtain ⟨l9, vO, hp9, hO9, qs, hqs, hrow, hlin⟩ := HI2.out.out
          have HWI := Lib.hid hWi
          have HP9 := Lib.hid hp9
          have HO9 := Lib.hid (bx_below hO9 hWi)
          have HQS := Lib.hid hqs
          have HROW := Lib.hid (owns_below hrow hWi)
          have HLIN := Lib.hid (show ∀ q ∈ qs, LinT 3 wi q from fun q hq => (hlin q hq).keep (KeepI.of_below hWi))
          have HLT := Lib.hid (OwnI.linT (a := a) (b := b) HO.out hne (by have := HRL.out a (by simp); omega) (by have := HRL.out b (by simp); omega) (by have := HLE.out; omega))
          have HPX := Lib.hid (show postL x = some ((a, b), L) by rw [HPL.out, hLr]; rfl)
          have HLL := Lib.hid (show l9.length ≤ 65536 by
            have := postsG_len hp9
            rw [List.length_map] at this
            have := linesL_len s
            have := HS.out
            omega)
          have HNW := Lib.hid (show ∀ (j : Nat) (u : Value), [.string (bs a), .string (bs b), .slice a9 L.length c9][j]? = some u → (wi.alloc (.cells #[.string (bs a), .string (bs b), .slice a9 L.length c9] 37)).cell? ((⟨wi.heap.size, 0, none⟩ : Addr).add j) = some u from World.news_of_block (cs := #[.string (bs a), .string (bs b), .slice a9 L.length c9]) (heap_fresh rfl))
          have HBW := Lib.hid (show B ≤ wi.heap.size by have := HMW.out; have := HM.out; have := HSZ.out; omega)
          have c5 := HO9.out.cell
          have c6 : wi.cell? ⟨M + 1, 0, none⟩ = some (.string (bs a)) := HP.out.cell rfl
          have c7 : wi.cell? ⟨M + 1, 1, none⟩ = some (.string (bs b)) := HP.out.cell rfl
          have c8 : wi.cell? ⟨M + 1, 2, none⟩ = some (.slice a9 L.length c9) := HP.out.cell rfl
          clear hLr hne hWi hp9 hO9 hqs hrow hlin
          gi_wp2_with (gi_at_builtin; refine wpListIn_append_own _ rfl _ _ 27 rfl B 37 i0 (.agg #[.string { data := #[] }, .string { data := #[] }, .slice none 0 0]) 3 56 Tryz.underlying27 hi0 hz0 hz1 hz2 rfl (by decide) _ _ _ rfl (HROW.out.alloc _) ⟨wi.heap.size, 0, none⟩ 1 1 [.string (bs a), .string (bs b), .slice a9 L.length c9] rfl rfl HNW.out (by simp [Value.oneCell']) (by have := HLL.out; unfold maxLen; omega) (by have := HLL.out; omega) (by have := HBW.out; simp; omega) ?_; intro v9 w4 hown1 hgrow1 _; obtain ⟨g8, cap8, rfl⟩ := ownsRow_succ hown1; have HPU := Lib.hid (PaI.push (by decide) (by decide) (by decide) (by decide) (by decide) HI2.out HWI.out HP9.out HO9.out HQS.out HROW.out HLIN.out HLT.out HPX.out hown1 hgrow1); have d5 := HPU.out.1.cell; have d6 := HPU.out.1.frozen; clear hown1 hgrow1)
          refine ⟨HPU.out.2.1, HPU.out.2.2.1, ?_⟩
          show PaJ w B ((pre ++ [(⟨x, hx⟩ : {x : Str // x ∈ linesL s})]).map (·.1)) _
          rw [List.map_append]
          exact HPU.out.2.2.2
  case done =>
    as_aux_lemma =>
    rintro D xs W hD hS hI hK
    clear hF1 hF2
    rw [hS] at hI
    rw [HS4.out] at hD
    obtain ⟨l9, vO, hp9, hO9, howp⟩ := hI.out
    have HLL := Lib.hid (show l9.length ≤ 65536 by
      have := postsG_len hp9
      have := linesL_len s
      have := HS.out
      omega)
    obtain ⟨a9, k9, rfl, hpo, _⟩ := howp.posts (by have := HLL.out; omega)
    have HOW := Lib.hid howp
    have c5 := hO9.cell
    have HO9 := Lib.hid hO9
    have HRX := Lib.hid hI.r2
    have HRY := Lib.hid hI.r3
    have HBW := Lib.hid hI.below
    have HK := Lib.hid hK
    have HD := Lib.hid hD
    have HIX := Lib.hid (indexP l9 a9 l9.length k9 W hpo)
    have HPS := Lib.hid (show parseS s = if indexB l9 = true ∧ textS l9 = s then some l9 else none by unfold parseS; rw [hp9])
    have HTX := Lib.hid (fun W5 (hb : Below W.heap.size W W5) (hi : indexB l9 = true) => textP l9 a9 l9.length k9 W5 (hpo.mono (Nat.le_refl _) hb) (HT.out.mono (Nat.le_of_eq HBE.out) (hI.below.trans (hb.mono (by have := hO9.lt; omega)))) (textS_len hi))
    have HWB := Lib.hid (show B ≤ W.heap.size by have := hO9.lt; omega)
    clear hS hI hK hD hp9 hO9 howp hpo
    obtain ⟨n9, hn9⟩ : ∃ n, l9.length = n := ⟨_, rfl⟩
    rw [hn9] at HIX HTX c5 HO9 HOW
    cases hix : indexB l9
    · rw [hix] at HIX HPS
      have HPN := Lib.hid (show parseS s = none by rw [HPS.out]; simp)
      clear hix hn9
      gi_wp2_with (fail)
      refine ⟨trivial, (callsIn_wide.2 HIX.out).mono ?_⟩
      rintro e W5 ⟨rfl, hb⟩
      have HFC := Lib.hid (fin_cells (u := .slice none 0 0) (c := .int .i64 3) (tp := 37) (ti := 3) (bx_below HRX.out hb) (bx_below HRY.out hb) ((hb.block D (Array.getElem?_eq_some_iff.1 HK.out).1).trans HK.out) (by have := HD.out; omega) (HBW.out.trans (hb.mono HWB.out)))
      have c6 := (bx_below HRX.out hb).cell
      have f6 := (bx_below HRX.out hb).frozen
      have c7 := HFC.out.1.cell
      have f7 := HFC.out.1.frozen
      clear hb
      gi_wp2_with (fail)
      refine ⟨trivial, ?_⟩
      gi_wp2_with (fail)
      refine ⟨by simp, .inl ⟨_, _, rfl, run_takeDeferred HFC.out.2.1, ?_⟩⟩
      obtain ⟨e1, e2, e3, e4⟩ := HFC.out.2.2 (.deferred none)
      have r1 := e1.cell
      have r2 := e2.cell
      refine ⟨.tuple #[.slice none 0 0, .int .i64 3], by simp [results, Tryz.f47, go_sem, r1, r2], _, _, rfl, fun l hl => absurd (HPN.out.symm.trans hl) (by simp), fun _ => ⟨rfl, rfl⟩, by rw [HBE.out]; exact e3⟩
    · rw [hix] at HIX HPS
      have HTX2 := Lib.hid (fun W5 (hb : Below W.heap.size W W5) => HTX.out W5 hb hix)
      clear HTX
      by_cases hts : textS l9 = s
      · have HPN := Lib.hid (show parseS s = some l9 by rw [HPS.out, if_pos ⟨rfl, hts⟩])
        rw [hts] at HTX2
        clear hix hts
        have HN9 := Lib.hid hn9
        clear hn9
        gi_wp2_with (fail)
        refine ⟨trivial, (callsIn_wide.2 HIX.out).mono ?_⟩
        rintro e W5 ⟨rfl, hb⟩
        have HB5 := Lib.hid hb
        have HTA := Lib.hid (HTX2.out W5 hb)
        have c8 := (bx_below HO9.out hb).cell
        clear hb HTX2 HIX
        gi_wp2_with (fail)
        refine ⟨trivial, (callsIn_wide.2 HTA.out).mono ?_⟩
        rintro e W6 ⟨rfl, hb6⟩
        have hb : Below W.heap.size W W6 := bstep HB5.out hb6
        have HFC := Lib.hid (fin_cells (u := .slice a9 n9 k9) (c := .int .i64 0) (tp := 37) (ti := 3) (bx_below HRX.out hb) (bx_below HRY.out hb) ((hb.block D (Array.getElem?_eq_some_iff.1 HK.out).1).trans HK.out) (by have := HD.out; omega) (HBW.out.trans (hb.mono HWB.out)))
        have HO5 := Lib.hid (HOW.out.kept (grown_any hb) fun r hr => by cases hr)
        have c9 := (bx_below HO9.out hb).cell
        have c6 := (bx_below HRX.out hb).cell
        have f6 := (bx_below HRX.out hb).frozen
        have c7 := HFC.out.1.cell
        have f7 := HFC.out.1.frozen
        have c10 : (W6.setCell ⟨B, 0, none⟩ (.slice a9 n9 k9)).cell? ⟨B + 2, 0, none⟩ = some (.slice a9 n9 k9) := ((bx_below HO9.out hb).kept (grownBy_setCell' W6 B _) (by simp)).cell
        clear hb hb6 HTA
        gi_wp2_with (fail)
        refine ⟨by simp, .inl ⟨_, _, rfl, run_takeDeferred HFC.out.2.1, ?_⟩⟩
        obtain ⟨e1, e2, e3, e4⟩ := HFC.out.2.2 (.deferred none)
        have r1 := e1.cell
        have r2 := e2.cell
        have e5 := e4 (by decide) (by decide) (by decide) (by decide) HO5.out
        obtain ⟨a8, k8, e6, e7, _⟩ := e5.posts (by have := HLL.out; omega)
        obtain ⟨rfl, _, rfl⟩ := Value.slice.inj e6
        refine ⟨.tuple #[.slice a9 n9 k9, .int .i64 0], by simp [results, Tryz.f47, go_sem, r1, r2], _, _, rfl, fun l hl => ?_, fun hl => absurd (HPN.out.symm.trans hl) (by simp), by rw [HBE.out]; exact e3⟩
        obtain rfl := Option.some.inj (HPN.out.symm.trans hl)
        exact ⟨rfl, _, _, by rw [HN9.out], e7⟩
      · have HPN := Lib.hid (show parseS s = none by rw [HPS.out, if_neg (fun h => hts h.2)])
        obtain ⟨t9, ht9⟩ : ∃ t, textS l9 = t := ⟨_, rfl⟩
        rw [ht9] at HTX2 hts
        have q1 : (t9 == s) = false := by rw [beq_eq_false_iff_ne]; exact hts
        have q2 : (t9 != s) = true := by rw [bne_iff_ne]; exact hts
        have q3 : ¬t9 = s := hts
        clear hix hts hn9 ht9
        gi_wp2_with (fail)
        refine ⟨trivial, (callsIn_wide.2 HIX.out).mono ?_⟩
        rintro e W5 ⟨rfl, hb⟩
        have HB5 := Lib.hid hb
        have HTA := Lib.hid (HTX2.out W5 hb)
        have c8 := (bx_below HO9.out hb).cell
        clear hb HTX2 HIX
        gi_wp2_with (fail)
        refine ⟨trivial, (callsIn_wide.2 HTA.out).mono ?_⟩
        rintro e W6 ⟨rfl, hb6⟩
        have hb : Below W.heap.size W W6 := bstep HB5.out hb6
        have HFC := Lib.hid (fin_cells (u := .slice none 0 0) (c := .int .i64 3) (tp := 37) (ti := 3) (bx_below HRX.out hb) (bx_below HRY.out hb) ((hb.block D (Array.getElem?_eq_some_iff.1 HK.out).1).trans HK.out) (by have := HD.out; omega) (HBW.out.trans (hb.mono HWB.out)))
        have c6 := (bx_below HRX.out hb).cell
        have f6 := (bx_below HRX.out hb).frozen
        have c7 := HFC.out.1.cell
        have f7 := HFC.out.1.frozen
        clear hb hb6 HTA
        gi_wp2_with (fail)
        refine ⟨by simp, .inl ⟨_, _, rfl, run_takeDeferred HFC.out.2.1, ?_⟩⟩
        obtain ⟨e1, e2, e3, e4⟩ := HFC.out.2.2 (.deferred none)
        have r1 := e1.cell
        have r2 := e2.cell
        refine ⟨.tuple #[.slice none 0 0, .int .i64 3], by simp [results, Tryz.f47, go_sem, r1, r2], _, _, rfl, fun l hl => absurd (HPN.out.symm.trans hl) (by simp), fun _ => ⟨rfl, rfl⟩, by rw [HBE.out]; exact e3⟩
  case stop =>
    as_aux_lemma =>
    rintro D pre W hD hS hI hK
    rw [HS4.out] at hD
    have HPN := Lib.hid (parse_none (postsG_pre hS hI.none))
    have b1 := hI.r2.kept (grownBy_putObj' W D (.deferred none)) (by simp; omega)
    have b2 := hI.r3.kept (grownBy_putObj' W D (.deferred none)) (by simp; omega)
    have HBW := Lib.hid (hI.below.grown (grownBy_putObj' W D (.deferred none)) (by have := hI.r2.lt; omega) fun k hk => by cases hk; omega)
    have r1 := b1.cell
    have r2 := b2.cell
    have HK := Lib.hid hK
    clear hI hS hK b1 b2
    gi_wp2_with (fail)
    refine ⟨by simp, .inl ⟨_, _, rfl, run_takeDeferred HK.out, ?_⟩⟩
    refine ⟨.tuple #[.slice none 0 0, .int .i64 3], by simp [results, Tryz.f47, go_sem, r1, r2], _, _, rfl, fun l hl => absurd (HPN.out.symm.trans hl) (by simp), fun _ => ⟨rfl, rfl⟩, by rw [HBE.out]; exact HBW.out⟩
end Go.Proofs.YtngdmpkoedpgdaaGreatDoor
