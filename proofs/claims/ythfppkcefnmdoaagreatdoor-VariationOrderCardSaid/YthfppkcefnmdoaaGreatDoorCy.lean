/-
  choose: the range over the columns: what its rounds know.
-/
import Derived.Test.YthfppkcefnmdoaaGreatDoorOwV
namespace Go.Ap
open Go Go.RowKit
theorem owns_none {W : World} {base size n : Nat} {e : TypeId} {v : Value} {xs : List Value} {row : Option Nat} (h : W.ownsRow base e size v n xs) (hr : NoCells W row) : v.ownBlock = none ∨ v.ownBlock ≠ row := by
  rcases h.2 with ⟨rfl, _⟩ | ⟨g, cap, cur, rfl, _, hg, _⟩
  · exact .inl rfl
  · refine .inr fun e => ?_
    obtain ⟨o, ho, hc⟩ := hr g (e ▸ rfl)
    rw [hg] at ho
    cases ho
    cases hc
/-- rows of ints of the call's own, in one world -/
def ColV (w W : World) (v : Value) (xss : List (List Int)) : Prop := OwnV 37 (fun u xs => OwnI 3 W w.heap.size u xs) W w.heap.size v xss
section
variable {w W W' : World} {v v' u : Value} {xss : List (List Int)} {xs : List Int}
theorem ColV.nil : ColV w W (.slice none 0 0) [] := OwnV.nil _ _
theorem ColV.below (h : ColV w W v xss) (hb : Below W.heap.size W W') : ColV w W' v xss := (OwnV.below h hb).imp fun _ _ hu => hu.below hb
theorem ColV.keptN {row : Option Nat} (h : ColV w W v xss) (hg : W.grownBy W' row) (hr : NoCells W row) : ColV w W' v xss := by
  obtain ⟨vs, h1, h2⟩ := h
  exact ⟨vs, h1.kept hg (owns_none h1 hr), fun k x hk => by obtain ⟨u, hu, ho⟩ := h2 k x hk; exact ⟨u, hu, ho.kept hg (owns_none ho.1 hr)⟩⟩
/-- a block of other cells is written -/
theorem ColV.keptE {b : Nat} {cs : Array Value} {t : TypeId} (h : ColV w W v xss) (hb : BlkK W b cs t) (h1 : t ≠ 37) (h2 : t ≠ 3) (hg : W.grownBy W' (some b)) : ColV w W' v xss := by
  obtain ⟨vs, g1, g2⟩ := h
  exact ⟨vs, g1.kept hg (.inr fun e => BlkK.apart hb g1 h1 e.symm), fun k x hk => by obtain ⟨u, hu, ho⟩ := g2 k x hk; exact ⟨u, hu, ho.kept hg (.inr fun e => BlkK.apart hb ho.1 h2 e.symm)⟩⟩
/-- one row more -/
theorem ColV.push (h : ColV w W v xss) : ∃ vs, W.ownsRow w.heap.size 37 1 v xss.length vs ∧ ∀ (tmp : Obj) (W' : World) (v' u : Value) (xs : List Int), W'.ownsRow w.heap.size 37 1 v' (xss.length + 1) (vs ++ [u]) → (W.alloc tmp).grownBy W' v.ownBlock → OwnI 3 W w.heap.size u xs → ColV w W' v' (xss ++ [xs]) := by
  obtain ⟨vs, h1, hn⟩ := OwnV.ready h
  refine ⟨vs, h1, fun tmp W' v' u xs hown hg hu => ?_⟩
  exact (hn W' v' u xs hown hu).imp fun _ _ ho => (ho.below (balloc W tmp)).kept hg (owns_apart (ho.below (balloc W tmp)).1 (owns_below h1 (balloc W tmp)) (by decide))
theorem ColV.rows (h : ColV w W v xss) (hn : xss.length ≤ 4611686018427387903) (hm : ∀ xs ∈ xss, xs.length ≤ 4611686018427387903) : ∃ a c, v = .slice a xss.length c ∧ Rows2 W a xss.length xss := by
  obtain ⟨vs, h1, h2⟩ := h
  refine OwnV.sl (P := fun u xs => xs ∈ xss ∧ OwnI 3 W w.heap.size u xs) ⟨vs, h1, fun k x hk => by obtain ⟨u, hu, ho⟩ := h2 k x hk; exact ⟨u, hu, List.mem_of_getElem? hk, ho⟩⟩ hn fun u xs hu => ?_
  obtain ⟨a, c, rfl, hI⟩ := hu.2.ints (hm xs hu.1)
  exact ⟨a, _, c, rfl, hI⟩
end
/-- a collation of the call's own: its tokens are the old ones -/
structure OwnC (w0 w W : World) (v1 v2 v3 : Value) (x : Coll) : Prop where
  sig : OwnS W w.heap.size v1 x.sigla
  tok : OwnV 45 (ToksV w0) W w.heap.size v2 x.tokens
  col : ColV w W v3 x.columns
section
variable {w0 w W W' : World} {v1 v2 v3 : Value} {x : Coll}
theorem OwnC.below (h : OwnC w0 w W v1 v2 v3 x) (hb : Below W.heap.size W W') : OwnC w0 w W' v1 v2 v3 x := ⟨h.sig.below hb, h.tok.below hb, h.col.below hb⟩
theorem OwnC.keptN {row : Option Nat} (h : OwnC w0 w W v1 v2 v3 x) (hg : W.grownBy W' row) (hr : NoCells W row) : OwnC w0 w W' v1 v2 v3 x := by
  obtain ⟨ts, ht, _⟩ := h.tok.ready
  exact ⟨World.ownsRow.kept h.sig hg (owns_none h.sig hr), h.tok.kept hg (owns_none ht hr), h.col.keptN hg hr⟩
theorem OwnC.keptE {b : Nat} {cs : Array Value} (h : OwnC w0 w W v1 v2 v3 x) (hb : BlkK W b cs 26) (hg : W.grownBy W' (some b)) : OwnC w0 w W' v1 v2 v3 x := by
  obtain ⟨ts, ht, _⟩ := h.tok.ready
  exact ⟨World.ownsRow.kept h.sig hg (.inr fun e => BlkK.apart hb h.sig (by decide) e.symm), h.tok.kept hg (.inr fun e => BlkK.apart hb ht (by decide) e.symm), h.col.keptE hb (by decide) (by decide) hg⟩
theorem OwnC.coll (h : OwnC w0 w W v1 v2 v3 x) (hb : Below w0.heap.size w0 W) (h0 : x.sec.length ≤ 4611686018427387903) (h1 : x.sigla.length ≤ 4611686018427387903) (h2 : x.tokens.length ≤ 4611686018427387903) (h3 : x.columns.length ≤ 4611686018427387903) (h4 : ∀ c ∈ x.columns, c.length ≤ 4611686018427387903) (h5 : ∀ s ∈ x.sigla, s.length ≤ 4611686018427387903) :
    ∃ d1 k1 d2 k2 d3 k3, v1 = .slice d1 x.sigla.length k1 ∧ v2 = .slice d2 x.tokens.length k2 ∧ v3 = .slice d3 x.columns.length k3 ∧ x.sigla.length ≤ k1 ∧ CollM W d1 d2 d3 x.sigla.length x.tokens.length x.columns.length x := by
  obtain ⟨d1, k1, e1, s1, hk⟩ := h.sig.cap h1
  obtain ⟨d2, k2, e2, s2⟩ := OwnV.sl (R := ToksV) h.tok h2 fun u l hu => hu.mono (Nat.le_refl _) hb
  obtain ⟨d3, k3, e3, s3⟩ := h.col.rows h3 h4
  exact ⟨d1, k1, d2, k2, d3, k3, e1, e2, e3, hk, h0, s1, h5, s2, s3⟩
end
/-- what the rounds over the columns know -/
structure ChC (w0 w : World) (xs zs : Array Value) (sec : Str) (v1 : Value) (l1 : List Str) (v2 : Value) (l2 : List (List Tok)) (Bx : Nat) (os : Value) (cs : List (List Int)) (W : World) : Prop where
  out : ∃ v3, BlkK W (w.heap.size + 2) #[.string (bs sec), v1, v2, v3] 26 ∧ ColV w W v3 cs ∧ v3.ownBlock ≠ some (Bx + 1)
  res : BlkK W (w.heap.size + 1) zs 26
  sig : OwnS W w.heap.size v1 l1
  tok : OwnV 45 (ToksV w0) W w.heap.size v2 l2
  bx : BlkK W Bx xs 26
  bo : BlkK W (Bx + 1) #[os] 37
  bel : Below w.heap.size w W
section
variable {w0 w W W' : World} {xs zs : Array Value} {sec : Str} {v1 v2 os : Value} {l1 : List Str} {l2 : List (List Tok)} {Bx : Nat} {cs : List (List Int)}
theorem ChC.below (h : ChC w0 w xs zs sec v1 l1 v2 l2 Bx os cs W) (hb : Below W.heap.size W W') : ChC w0 w xs zs sec v1 l1 v2 l2 Bx os cs W' := by
  obtain ⟨v3, g1, g2, g3⟩ := h.out
  exact ⟨⟨v3, g1.below hb, g2.below hb, g3⟩, h.res.below hb, h.sig.below hb, h.tok.below hb, h.bx.below hb, h.bo.below hb, bstep h.bel hb⟩
theorem ChC.keptN {row : Option Nat} (h : ChC w0 w xs zs sec v1 l1 v2 l2 Bx os cs W) (hg : W.grownBy W' row) (hr : NoCells W row) (hr2 : ∀ r, row = some r → w.heap.size ≤ r) : ChC w0 w xs zs sec v1 l1 v2 l2 Bx os cs W' := by
  obtain ⟨v3, g1, g2, g3⟩ := h.out
  obtain ⟨ts, ht, _⟩ := h.tok.ready
  exact ⟨⟨v3, g1.keptN hg hr, g2.keptN hg hr, g3⟩, h.res.keptN hg hr, World.ownsRow.kept h.sig hg (owns_none h.sig hr), h.tok.kept hg (owns_none ht hr), h.bx.keptN hg hr, h.bo.keptN hg hr, h.bel.grown hg h.bel.size fun r he => hr2 r he⟩
theorem BlkK.put {b : Nat} {cs : Array Value} {t : TypeId} {i : Nat} {v : Value} (h : BlkK W b cs t) : BlkK (W.setCell ⟨b, i, none⟩ v) b (cs.setIfInBounds i v) t := by
  obtain ⟨hl, he⟩ := Array.getElem?_eq_some_iff.1 (show W.heap[b]? = _ from h)
  refine Array.getElem?_eq_some_iff.2 ⟨by simpa [World.setCell] using hl, ?_⟩
  simp [World.setCell, Array.getElem_modify, he]
theorem BlkK.hard {b : Nat} {cs : Array Value} {t : TypeId} {i : Nat} (h : BlkK W b cs t) : W.frozen? ⟨b, i, none⟩ = false := by simp [World.frozen?, show W.heap[b]? = _ from h]
theorem grown_put (W : World) (b i : Nat) (v : Value) : W.grownBy (W.setCell ⟨b, i, none⟩ v) (some b) := ⟨rfl, rfl, rfl, by simp [World.setCell], fun k _ hk => Below.heap_setCell _ _ _ k fun e => hk (by rw [e])⟩
/-- one column more: the row grows, the field is stored -/
theorem ChC.push (h : ChC w0 w xs zs sec v1 l1 v2 l2 Bx os cs W) (hB : w.heap.size + 3 ≤ Bx) : ∃ v3 vs, BlkK W (w.heap.size + 2) #[.string (bs sec), v1, v2, v3] 26 ∧ W.ownsRow w.heap.size 37 1 v3 cs.length vs ∧
    ∀ (tmp : Obj) (W' : World) (v' u : Value) (c : List Int), W'.ownsRow w.heap.size 37 1 v' (cs.length + 1) (vs ++ [u]) → (W.alloc tmp).grownBy W' v3.ownBlock → (v'.ownBlock = v3.ownBlock ∨ v'.ownBlock = some (W.alloc tmp).heap.size) → OwnI 3 W w.heap.size u c →
      BlkK W' (w.heap.size + 2) #[.string (bs sec), v1, v2, v3] 26 ∧ ChC w0 w xs zs sec v1 l1 v2 l2 Bx os (cs ++ [c]) (W'.setCell ⟨w.heap.size + 2, 3, none⟩ v') ∧ Go.Proofs.YthfppkcefnmdoaaGreatDoor.KeepR w.heap.size Bx (Bx + 1) W (W'.setCell ⟨w.heap.size + 2, 3, none⟩ v') ∧ KeepsOthers W (W'.setCell ⟨w.heap.size + 2, 3, none⟩ v') := by
  obtain ⟨v3, g1, g2, g3⟩ := h.out
  obtain ⟨vs, hr, hn⟩ := g2.push
  obtain ⟨ts, ht, _⟩ := h.tok.ready
  refine ⟨v3, vs, g1, hr, fun tmp W' v' u c hown hg hb hu => ?_⟩
  have A := balloc W tmp
  have hrA := owns_below hr A
  have k1 := (g1.below A).keptE hg (BlkK.apart (g1.below A) hrA (by decide))
  have gp := grown_put W' (w.heap.size + 2) 3 v'
  have hx : ∀ {b : Nat} {q : Array Value} {t : TypeId}, BlkK W b q t → t ≠ 37 → b ≠ w.heap.size + 2 → BlkK (W'.setCell ⟨w.heap.size + 2, 3, none⟩ v') b q t := fun hq h1 h2 => ((hq.below A).keptE hg (BlkK.apart (hq.below A) hrA h1)).keptE gp (by simpa using h2)
  have kb : Below w.heap.size W (W'.setCell ⟨w.heap.size + 2, 3, none⟩ v') := (((Below.refl _ W).alloc h.bel.size tmp).grown hg (by simp; have := h.bel.size; omega) fun k hk => (hr.lt k hk).1).trans (by
    exact (Below.refl _ W').grown gp (by have := h.bel.size; have := hg.size; simp at this; omega) fun k hk => by cases hk; omega)
  have hbo : BlkK (W'.setCell ⟨w.heap.size + 2, 3, none⟩ v') (Bx + 1) #[os] 37 := ((h.bo.below A).keptE hg fun e => g3 e.symm).keptE gp (by simp; omega)
  have hbx := hx h.bx (by decide) (by omega)
  refine ⟨k1, ⟨⟨v', ?_, ?_, ?_⟩, hx h.res (by decide) (by omega), ?_, ?_, hbx, hbo, h.bel.trans kb⟩, ⟨kb.os, kb.tape, kb.output, kb.size, fun k hk => ?_⟩, ?_⟩
  · have := BlkK.put (i := 3) (v := v') k1
    exact this
  · exact (hn tmp W' v' u c hown hg hu).keptE k1 (by decide) (by decide) gp
  · rcases hb with e | e
    · rw [e]; exact g3
    · rw [e]
      have := h.bo.lt
      simp
      omega
  · exact World.ownsRow.kept (World.ownsRow.kept (h.sig.below A) hg (owns_apart (h.sig.below A) hrA (by decide))) gp (.inr fun e => BlkK.apart k1 (World.ownsRow.kept (h.sig.below A) hg (owns_apart (h.sig.below A) hrA (by decide))) (by decide) e.symm)
  · have t1 := (h.tok.below A).kept hg (owns_apart (owns_below ht A) hrA (by decide))
    obtain ⟨us, hu2, _⟩ := t1.ready
    exact t1.kept gp (.inr fun e => BlkK.apart k1 hu2 (by decide) e.symm)
  · rcases hk with hk | rfl | rfl
    · exact kb.block k hk
    · exact Eq.trans hbx h.bx.symm
    · exact Eq.trans hbo h.bo.symm
  · refine (KeepsOthers.alloc W tmp).trans ((KeepsOthers.of_grownBy hg fun j o hj ho => ?_).trans (KeepsOthers.setCell _ _ _))
    rcases hrA.2 with ⟨rfl, _⟩ | ⟨g, cap, cur, rfl, _, hgg, _⟩
    · cases hj
    · obtain rfl : g = j := by simpa [Value.ownBlock] using hj
      rw [hgg] at ho
      cases ho
      rfl
/-- a store into the result's block -/
theorem ChC.storeR (h : ChC w0 w xs zs sec v1 l1 v2 l2 Bx os cs W) (hB : w.heap.size + 3 ≤ Bx) (i : Nat) (v : Value) : ChC w0 w xs (zs.setIfInBounds i v) sec v1 l1 v2 l2 Bx os cs (W.setCell ⟨w.heap.size + 1, i, none⟩ v) := by
  obtain ⟨v3, g1, g2, g3⟩ := h.out
  obtain ⟨ts, ht, _⟩ := h.tok.ready
  have gp := grown_put W (w.heap.size + 1) i v
  exact ⟨⟨v3, g1.keptE gp (by simp), g2.keptE h.res (by decide) (by decide) gp, g3⟩, h.res.put, World.ownsRow.kept h.sig gp (.inr fun e => BlkK.apart h.res h.sig (by decide) e.symm), h.tok.kept gp (.inr fun e => BlkK.apart h.res ht (by decide) e.symm), h.bx.keptE gp (by simp; omega), h.bo.keptE gp (by simp; omega), h.bel.grown gp h.bel.size fun r he => by cases he; omega⟩
/-- the shapes of the three slices -/
theorem ChC.shape (h : ChC w0 w xs zs sec v1 l1 v2 l2 Bx os cs W) (h1 : l1.length ≤ 4611686018427387903) (h2 : l2.length ≤ 4611686018427387903) (h3 : cs.length ≤ 4611686018427387903) (h4 : ∀ c ∈ cs, c.length ≤ 4611686018427387903) :
    ∃ d1 k1 d2 k2 d3 k3, v1 = .slice d1 l1.length k1 ∧ v2 = .slice d2 l2.length k2 ∧ l1.length ≤ k1 ∧ BlkK W (w.heap.size + 2) #[.string (bs sec), v1, v2, .slice d3 cs.length k3] 26 ∧ OwnC w0 w W v1 v2 (.slice d3 cs.length k3) ⟨sec, l1, l2, cs⟩ := by
  obtain ⟨v3, g1, g2, g3⟩ := h.out
  obtain ⟨d1, k1, e1, s1, hk⟩ := h.sig.cap h1
  obtain ⟨d2, k2, e2, s2⟩ := OwnV.sl (R := fun _ _ _ => True) h.tok h2 fun u l hu => trivial
  obtain ⟨d3, k3, e3, s3⟩ := g2.rows h3 h4
  subst e3
  exact ⟨d1, k1, d2, k2, d3, k3, e1, e2, hk, g1, h.sig, h.tok, g2⟩
end
end Go.Ap
