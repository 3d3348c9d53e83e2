/-
  choose: the collation in another order of the sources.
-/
import Derived.Test.YthfppkcefnmdoaaGreatDoorCy
import Derived.Maps.OwnIn
namespace Go.Proofs.YthfppkcefnmdoaaGreatDoor
open Go.RowKit Go.Ap Go.Shelf Go.Proofs

attribute [local go_sem] Oper.semAt_some bs_toList empty_toList bs_size bs_extract
theorem infoSt : (Tryz.prog.info? 9).map (fun i => (i.zero, i.size, i.bytes)) = some (some (.string ⟨#[]⟩), 1, 16) := by kernel_rfl
theorem infoTk : (Tryz.prog.info? 45).map (fun i => (i.zero, i.size, i.bytes)) = some (some (.slice none 0 0), 1, 24) := by kernel_rfl
theorem infoRw : (Tryz.prog.info? 37).map (fun i => (i.zero, i.size, i.bytes)) = some (some (.slice none 0 0), 1, 24) := by kernel_rfl
/-- what the loop over the order knows: what the new collation holds in memory, the two rows -/
structure ChG (w0 w : World) (xs zs : Array Value) (sec : Str) (u1 u2 v1 : Value) (l1 : List Str) (v2 : Value) (l2 : List (List Tok)) (W : World) : Prop where
  out : BlkK W (w.heap.size + 2) #[.string (bs sec), u1, u2, .slice none 0 0] 26
  src : BlkK W w.heap.size xs 26
  res : BlkK W (w.heap.size + 1) zs 26
  sig : OwnS W w.heap.size v1 l1
  tok : OwnV 45 (ToksV w0) W w.heap.size v2 l2
  bel : Below w.heap.size w W
section
variable {w0 w W W' : World} {xs zs : Array Value} {sec : Str} {u1 u2 v1 v2 v' : Value} {l1 : List Str} {l2 : List (List Tok)} {s : Str} {l : List Tok} {tmp : Obj}
theorem ChG.below (h : ChG w0 w xs zs sec u1 u2 v1 l1 v2 l2 W) (hb : Below W.heap.size W W') : ChG w0 w xs zs sec u1 u2 v1 l1 v2 l2 W' :=
  ⟨h.out.below hb, h.src.below hb, h.res.below hb, h.sig.below hb, h.tok.below hb, bstep h.bel hb⟩
theorem ChG.pushS (h : ChG w0 w xs zs sec u1 u2 v1 l1 v2 l2 W) (hown : W'.ownsRow w.heap.size 9 1 v' (l1.length + 1) (l1.map sv ++ [.string (bs s)])) (hg : W.grownBy W' v1.ownBlock) : ChG w0 w xs zs sec u1 u2 v' (l1 ++ [s]) v2 l2 W' := by
  obtain ⟨vs, hr, _⟩ := h.tok.ready
  refine ⟨h.out.keptE hg (BlkK.apart h.out h.sig (by decide)), h.src.keptE hg (BlkK.apart h.src h.sig (by decide)), h.res.keptE hg (BlkK.apart h.res h.sig (by decide)), ?_, h.tok.kept hg (owns_apart hr h.sig (by decide)), ?_⟩
  · unfold OwnS; simpa [sv] using hown
  · exact h.bel.grown hg h.bel.size fun k hk => (h.sig.lt k hk).1
theorem ChG.pushT (h : ChG w0 w xs zs sec u1 u2 v1 l1 v2 l2 W) : ∃ vs, W.ownsRow w.heap.size 45 1 v2 l2.length vs ∧ ∀ (W' : World) (v' u : Value) (l : List Tok), W'.ownsRow w.heap.size 45 1 v' (l2.length + 1) (vs ++ [u]) → W.grownBy W' v2.ownBlock → ToksV w0 u l → ChG w0 w xs zs sec u1 u2 v1 l1 v' (l2 ++ [l]) W' := by
  obtain ⟨vs, hr, hn⟩ := h.tok.ready
  refine ⟨vs, hr, fun W' v' u l hown hg hl => ⟨h.out.keptE hg (BlkK.apart h.out hr (by decide)), h.src.keptE hg (BlkK.apart h.src hr (by decide)), h.res.keptE hg (BlkK.apart h.res hr (by decide)), ?_, hn W' v' u l hown hl, ?_⟩⟩
  · exact World.ownsRow.kept h.sig hg (owns_apart h.sig hr (by decide))
  · exact h.bel.grown hg h.bel.size fun k hk => (hr.lt k hk).1
theorem BlkK.stored {b : Nat} {cs : Array Value} {t : TypeId} {i : Nat} {v : Value} (h : BlkK W b cs t) : BlkK (W.setCell ⟨b, i, none⟩ v) b (cs.setIfInBounds i v) t := by
  obtain ⟨hl, he⟩ := Array.getElem?_eq_some_iff.1 (show W.heap[b]? = _ from h)
  refine Array.getElem?_eq_some_iff.2 ⟨by simpa [World.setCell] using hl, ?_⟩
  simp [World.setCell, Array.getElem_modify, he]
theorem BlkK.frozen {b : Nat} {cs : Array Value} {t : TypeId} {i : Nat} (h : BlkK W b cs t) : W.frozen? ⟨b, i, none⟩ = false := by simp [World.frozen?, show W.heap[b]? = _ from h]
theorem ChG.store (h : ChG w0 w xs zs sec u1 u2 v1 l1 v2 l2 W) (i : Nat) (v : Value) {a b : Value} (he : #[.string (bs sec), u1, u2, .slice none 0 0].setIfInBounds i v = #[.string (bs sec), a, b, .slice none 0 0]) : ChG w0 w xs zs sec a b v1 l1 v2 l2 (W.setCell ⟨w.heap.size + 2, i, none⟩ v) := by
  obtain ⟨vs, hr, _⟩ := h.tok.ready
  have hg : W.grownBy (W.setCell ⟨w.heap.size + 2, i, none⟩ v) (some (w.heap.size + 2)) := ⟨rfl, rfl, rfl, by simp [World.setCell], fun k _ hk => Below.heap_setCell _ _ _ k fun e => hk (by rw [e])⟩
  refine ⟨by have := BlkK.stored (i := i) (v := v) h.out; rwa [he] at this, h.src.keptE hg (by simp), h.res.keptE hg (by simp), World.ownsRow.kept h.sig hg (.inr fun e => BlkK.apart h.out h.sig (by decide) e.symm), h.tok.kept hg (.inr fun e => BlkK.apart h.out hr (by decide) e.symm), ?_⟩
  exact h.bel.grown hg h.bel.size fun k hk => by cases hk; omega
end
theorem store4 {W : World} {b : Nat} {c0 c1 c2 c3 : Value} {t : TypeId} (h : BlkK W b #[c0, c1, c2, c3] t) (a0 a1 a2 a3 : Value) :
    ∃ W', W' = (((W.setCell ⟨b, 0, none⟩ a0).setCell ⟨b, 1, none⟩ a1).setCell ⟨b, 2, none⟩ a2).setCell ⟨b, 3, none⟩ a3 ∧ BlkK W' b #[a0, a1, a2, a3] t ∧ W.grownBy W' (some b) := by
  refine ⟨_, rfl, BlkK.put (BlkK.put (BlkK.put (BlkK.put h))), rfl, rfl, rfl, by simp [World.setCell], fun k _ hk => ?_⟩
  have hne : b ≠ k := fun e => hk (by rw [e])
  rw [Below.heap_setCell _ _ _ _ hne.symm, Below.heap_setCell _ _ _ _ hne.symm, Below.heap_setCell _ _ _ _ hne.symm, Below.heap_setCell _ _ _ _ hne.symm]
theorem range_getD {α β : Type} (l : List α) (d : α) (g : α → β) : (List.range l.length).map (fun i => g (l.getD i d)) = l.map g := by
  apply List.ext_getElem
  · simp
  · intro i h1 h2
    have : i < l.length := by simpa using h1
    simp [this]
set_option maxRecDepth 100000 in
set_option maxHeartbeats 8000000 in
theorem chooseP (x : Coll) (a1 : Option Addr) (n1 c1 : Nat) (a2 : Option Addr) (n2 c2 : Nat) (a3 : Option Addr) (n3 c3 : Nat) (ao : Option Addr) (co : Nat) (f : Nat → Nat) (w0 w : World) (h0 : CollM w0 a1 a2 a3 n1 n2 n3 x) (hb0 : Below w0.heap.size w0 w) (hv : Val x) (hf : Inv x.sigla.length f) (ho : Ints w ao n1 (ordL f n1)) (h32 : x.columns.length ≤ 1048576) :
    CallsIn Fence.wide 10 Tryz.prog 73 #[collV x.sec a1 n1 c1 a2 n2 c2 a3 n3 c3, .slice ao n1 co] w fun e w' => ∃ b1 k1 b2 k2 b3 k3, e = .returned (collV x.sec b1 n1 k1 b2 n1 k2 b3 n3 k3) ∧ OwnC w0 w w' (.slice b1 n1 k1) (.slice b2 n1 k2) (.slice b3 n3 k3) (reoC x f) ∧ n1 ≤ k1 ∧ Below w.heap.size w w' := by
  have h := h0.mono (Nat.le_refl _) hb0
  obtain ⟨i9, hi9, hy0, hy1, hy2⟩ := info_parts infoInt
  obtain ⟨is, his, hs0, hs1, hs2⟩ := info_parts infoSt
  obtain ⟨it, hit, ht0, ht1, ht2⟩ := info_parts infoTk
  obtain ⟨ir, hir, hr0, hr1, hr2⟩ := info_parts infoRw
  have hl1 := h.sigla.len
  have hl2 := h.tokens.len
  have hl3 := h.columns.len
  have hn3 : n3 ≤ 1048576 := by rw [← hl3]; exact h32
  have hle := hv.le
  have hpos := hv.pos
  have htk := hv.toks
  have hf0 := hf
  rw [hl1] at hf hle hpos
  have hno := ho.at hpos
  obtain ⟨bo, oo, rfl, HOC0⟩ := hno
  have HOC := Lib.hid HOC0
  have HFL := Lib.hid hf.lt
  have HCP := Lib.hid (fun W => columnsP x a1 n1 c1 a2 n2 c2 a3 n3 c3 (some ⟨bo, oo, none⟩) n1 co W)
  have HSG := Lib.hid (fun k (hk : k < n1) => Sl.at h.sigla hk)
  have HTG := Lib.hid (fun k (hk : k < n2) => Sl.at h0.tokens hk)
  have HB0 := Lib.hid hb0
  have HH := Lib.hid h
  have HV := Lib.hid hv
  have HF0 := Lib.hid hf0
  have HO := Lib.hid ho
  have eg := enters_of Tryz.func122 (by kernel_rfl) rfl
  have hF93 : Fence.wide.fn 93 := trivial
  clear h h0 hb0 hv hf hf0 ho HOC0
  unfold collV at HCP ⊢
  refine callsIn_of_wp_marks Tryz.func73 rfl trivial ?_ rfl
  simp only [Tryz.ntmps73, List.size_toArray, List.length_cons, List.length_nil, Nat.reduceAdd, Nat.reduceSub, Array.replicate_succ, Array.replicate_zero, List.push_toArray, List.append_toArray, List.nil_append, List.cons_append]
  have HK1 := Lib.hid (BlkK.new w #[.string (bs x.sec), .slice a1 n1 c1, .slice a2 n2 c2, .slice a3 n3 c3] 26)
  gi_wp2_with (fail)
  have b1 := balloc w (.cells #[.string (bs x.sec), .slice a1 n1 c1, .slice a2 n2 c2, .slice a3 n3 c3] 26)
  have b2 := balloc (w.alloc (.cells #[.string (bs x.sec), .slice a1 n1 c1, .slice a2 n2 c2, .slice a3 n3 c3] 26)) (.cells #[.string ⟨#[]⟩, .slice none 0 0, .slice none 0 0, .slice none 0 0] 26)
  have b3 := balloc ((w.alloc (.cells #[.string (bs x.sec), .slice a1 n1 c1, .slice a2 n2 c2, .slice a3 n3 c3] 26)).alloc (.cells #[.string ⟨#[]⟩, .slice none 0 0, .slice none 0 0, .slice none 0 0] 26)) (.cells #[.string (bs x.sec), .slice none 0 0, .slice none 0 0, .slice none 0 0] 26)
  have k1 := BlkK.new w #[.string (bs x.sec), .slice a1 n1 c1, .slice a2 n2 c2, .slice a3 n3 c3] 26
  have k2 := BlkK.new (w.alloc (.cells #[.string (bs x.sec), .slice a1 n1 c1, .slice a2 n2 c2, .slice a3 n3 c3] 26)) #[.string ⟨#[]⟩, .slice none 0 0, .slice none 0 0, .slice none 0 0] 26
  have k3 := BlkK.new ((w.alloc (.cells #[.string (bs x.sec), .slice a1 n1 c1, .slice a2 n2 c2, .slice a3 n3 c3] 26)).alloc (.cells #[.string ⟨#[]⟩, .slice none 0 0, .slice none 0 0, .slice none 0 0] 26)) #[.string (bs x.sec), .slice none 0 0, .slice none 0 0, .slice none 0 0] 26
  have HI := Lib.hid (show ChG w0 w #[.string (bs x.sec), .slice a1 n1 c1, .slice a2 n2 c2, .slice a3 n3 c3] #[.string ⟨#[]⟩, .slice none 0 0, .slice none 0 0, .slice none 0 0] x.sec (.slice none 0 0) (.slice none 0 0) (.slice none 0 0) (perL f x.sigla 0) (.slice none 0 0) (perL f x.tokens 0) (((w.alloc (.cells #[.string (bs x.sec), .slice a1 n1 c1, .slice a2 n2 c2, .slice a3 n3 c3] 26)).alloc (.cells #[.string ⟨#[]⟩, .slice none 0 0, .slice none 0 0, .slice none 0 0] 26)).alloc (.cells #[.string (bs x.sec), .slice none 0 0, .slice none 0 0, .slice none 0 0] 26)) from
    ⟨by simpa [World.size_alloc] using k3, (k1.below b2).below b3, by simpa [World.size_alloc] using k2.below b3, OwnS.nil _ _, OwnV.nil _ _, bstep (bstep b1 b2) b3⟩)
  clear b1 b2 b3 k1 k2 k3 HK1
  gi_loopw [15] (fun fv wr => ∃ (j : Nat) (v1 v2 : Value), j ≤ n1 ∧ fv = .int .i64 j ∧ ChG w0 w #[.string (bs x.sec), .slice a1 n1 c1, .slice a2 n2 c2, .slice a3 n3 c3] #[.string ⟨#[]⟩, .slice none 0 0, .slice none 0 0, .slice none 0 0] x.sec v1 v2 v1 (perL f x.sigla j) v2 (perL f x.tokens j) wr) (fun fv _ => n1 - (intOf fv).toNat)
  case atStart => exact ⟨0, _, _, Nat.zero_le _, rfl, HI.out⟩
  case round =>
    obtain ⟨j, v1, v2, hj, rfl, hI⟩ := hrel
    have HI := Lib.hid hI
    clear hI
    by_cases hjn : j < n1
    · have hfj := HFL.out j hjn
      obtain ⟨sg, b1, o1, y1, hsg, rfl, hc1, rfl⟩ := HSG.out (f j) hfj
      obtain ⟨tk, b2, o2, y2, htk2, rfl, hc2, at2, nt2, ct2, rfl, hT⟩ := HTG.out (f j) (by omega)
      have HB := Lib.hid HI.out.bel
      have HP1 := Lib.hid (perL_succ (n := j) hsg)
      have HP2 := Lib.hid (perL_succ (n := j) htk2)
      have HT := Lib.hid hT
      have v0 := cell_keep HB.out (HOC.out j hjn)
      rw [ordL_nth hjn] at v0
      have v1' := cell_keep HB.out hc1
      have v2' := cell_keep (bstep HB0.out HB.out) hc2
      obtain ⟨fj, hfj2⟩ : ∃ k, f j = k := ⟨_, rfl⟩
      rw [hfj2] at v0 v1' v2' hfj
      obtain ⟨wa, hwa⟩ : ∃ wa, wr = wa := ⟨_, rfl⟩
      rw [hfj2] at hc1 hc2
      have HC1 := Lib.hid hc1
      have HC2 := Lib.hid (cell_keep HB0.out hc2)
      clear hsg hc1 htk2 hc2 hT hfj2 hwa
      have i1 : (fj : Int) < (n1 : Int) := by omega
      have i2 : (fj : Int) < (n2 : Int) := by omega
      have i3 : (j : Int) < (n1 : Int) := by omega
      gi_wp2_with (fail)
      clear v0
      refine wpIn_region_heldA (fun W' => BlkK W' (w.heap.size + 2) #[.string (bs x.sec), v1, v2, .slice none 0 0] 26 ∧ BlkK W' w.heap.size #[.string (bs x.sec), .slice (some ⟨b1, o1, none⟩) n1 c1, .slice (some ⟨b2, o2, none⟩) n2 c2, .slice a3 n3 c3] 26 ∧ W'.cell? ⟨b1, o1 + fj, none⟩ = some (.string (bs sg)) ∧ W'.cell? ⟨b2, o2 + fj, none⟩ = some (.slice at2 nt2 ct2)) 19 8 [0, 1, 2, 3, 4, 5, 6, 9, 10, 11, 12, 13, 14, 15] _ (fun _ => trivial) (by kernel_rfl) (by decide +kernel) rfl rfl ⟨HI.out.out, HI.out.src, v1', v2'⟩ ?_
      apply wpTakes_consD rfl rfl (by rfl)
      case hy =>
        rintro W' ⟨e1, e2, e3, e4⟩
        have q0 := e1.cell (i := 1) rfl
        have q1 := e1.cell (i := 2) rfl
        obtain ⟨d0, d1, d2, d3⟩ := e2.coll
        go_simp
        first | done | with_reducible rfl
      simp only [List.setIfInBounds_toArray, List.set_cons_zero, List.set_cons_succ]
      apply wpTakes_consD rfl rfl (by rfl)
      case hy =>
        rintro W' ⟨e1, e2, e3, e4⟩
        have q0 := e1.cell (i := 1) rfl
        have q1 := e1.cell (i := 2) rfl
        obtain ⟨d0, d1, d2, d3⟩ := e2.coll
        go_simp
        first | done | with_reducible rfl
      simp only [List.setIfInBounds_toArray, List.set_cons_zero, List.set_cons_succ]
      apply wpTakes_consD rfl rfl (by rfl)
      case hy =>
        rintro W' ⟨e1, e2, e3, e4⟩
        have q0 := e1.cell (i := 1) rfl
        have q1 := e1.cell (i := 2) rfl
        obtain ⟨d0, d1, d2, d3⟩ := e2.coll
        go_simp
        first | done | with_reducible rfl
      simp only [List.setIfInBounds_toArray, List.set_cons_zero, List.set_cons_succ]
      apply wpTakes_consD rfl rfl (by rfl)
      case hy =>
        rintro W' ⟨e1, e2, e3, e4⟩
        have q0 := e1.cell (i := 1) rfl
        have q1 := e1.cell (i := 2) rfl
        obtain ⟨d0, d1, d2, d3⟩ := e2.coll
        go_simp
        first | done | with_reducible rfl
      simp only [List.setIfInBounds_toArray, List.set_cons_zero, List.set_cons_succ]
      apply wpTakes_consD rfl rfl (by rfl)
      case hy =>
        rintro W' ⟨e1, e2, e3, e4⟩
        have q0 := e1.cell (i := 1) rfl
        have q1 := e1.cell (i := 2) rfl
        obtain ⟨d0, d1, d2, d3⟩ := e2.coll
        go_simp
        first | done | with_reducible rfl
      simp only [List.setIfInBounds_toArray, List.set_cons_zero, List.set_cons_succ]
      apply wpTakes_consD rfl rfl (by rfl)
      case hy =>
        rintro W' ⟨e1, e2, e3, e4⟩
        have q0 := e1.cell (i := 1) rfl
        have q1 := e1.cell (i := 2) rfl
        obtain ⟨d0, d1, d2, d3⟩ := e2.coll
        go_simp
        first | done | with_reducible rfl
      simp only [List.setIfInBounds_toArray, List.set_cons_zero, List.set_cons_succ]
      apply wpTakes_consD rfl rfl (by rfl)
      case hy =>
        rintro W' ⟨e1, e2, e3, e4⟩
        have q0 := e1.cell (i := 1) rfl
        have q1 := e1.cell (i := 2) rfl
        obtain ⟨d0, d1, d2, d3⟩ := e2.coll
        go_simp
        first | done | with_reducible rfl
      simp only [List.setIfInBounds_toArray, List.set_cons_zero, List.set_cons_succ]
      apply wpTakes_consD rfl rfl (by rfl)
      case hy =>
        rintro W' ⟨e1, e2, e3, e4⟩
        have q0 := e1.cell (i := 1) rfl
        have q1 := e1.cell (i := 2) rfl
        obtain ⟨d0, d1, d2, d3⟩ := e2.coll
        go_simp
        first | done | with_reducible rfl
      simp only [List.setIfInBounds_toArray, List.set_cons_zero, List.set_cons_succ]
      apply wpTakes_consD rfl rfl (by rfl)
      case hy =>
        rintro W' ⟨e1, e2, e3, e4⟩
        have q0 := e1.cell (i := 1) rfl
        have q1 := e1.cell (i := 2) rfl
        obtain ⟨d0, d1, d2, d3⟩ := e2.coll
        go_simp
        first | done | with_reducible rfl
      simp only [List.setIfInBounds_toArray, List.set_cons_zero, List.set_cons_succ]
      apply wpTakes_consD rfl rfl (by rfl)
      case hy =>
        rintro W' ⟨e1, e2, e3, e4⟩
        have q0 := e1.cell (i := 1) rfl
        have q1 := e1.cell (i := 2) rfl
        obtain ⟨d0, d1, d2, d3⟩ := e2.coll
        go_simp
        first | done | with_reducible rfl
      simp only [List.setIfInBounds_toArray, List.set_cons_zero, List.set_cons_succ]
      apply wpTakes_consD rfl rfl (by rfl)
      case hy =>
        rintro W' ⟨e1, e2, e3, e4⟩
        have q0 := e1.cell (i := 1) rfl
        have q1 := e1.cell (i := 2) rfl
        obtain ⟨d0, d1, d2, d3⟩ := e2.coll
        go_simp
        first | done | with_reducible rfl
      simp only [List.setIfInBounds_toArray, List.set_cons_zero, List.set_cons_succ]
      apply wpTakes_consD rfl rfl (by rfl)
      case hy =>
        rintro W' ⟨e1, e2, e3, e4⟩
        have q0 := e1.cell (i := 1) rfl
        have q1 := e1.cell (i := 2) rfl
        obtain ⟨d0, d1, d2, d3⟩ := e2.coll
        go_simp
        first | done | with_reducible rfl
      simp only [List.setIfInBounds_toArray, List.set_cons_zero, List.set_cons_succ]
      apply wpTakes_consD rfl rfl (by rfl)
      case hy =>
        rintro W' ⟨e1, e2, e3, e4⟩
        have q0 := e1.cell (i := 1) rfl
        have q1 := e1.cell (i := 2) rfl
        obtain ⟨d0, d1, d2, d3⟩ := e2.coll
        go_simp
        first | done | with_reducible rfl
      simp only [List.setIfInBounds_toArray, List.set_cons_zero, List.set_cons_succ]
      apply wpTakes_consD rfl rfl (by rfl)
      case hy =>
        rintro W' ⟨e1, e2, e3, e4⟩
        have q0 := e1.cell (i := 1) rfl
        have q1 := e1.cell (i := 2) rfl
        obtain ⟨d0, d1, d2, d3⟩ := e2.coll
        go_simp
        first | done | with_reducible rfl
      simp only [List.setIfInBounds_toArray, List.set_cons_zero, List.set_cons_succ]
      apply wpTakes_nil
      have HD := Lib.hid (HI.out.below (Below.refl _ _).drew)
      have HS := Lib.hid (show ∀ (a : Value) (l : List Str) (b : Value) (m : List (List Tok)) W', ChG w0 w #[.string (bs x.sec), .slice (some ⟨b1, o1, none⟩) n1 c1, .slice (some ⟨b2, o2, none⟩) n2 c2, .slice a3 n3 c3] #[.string ⟨#[]⟩, .slice none 0 0, .slice none 0 0, .slice none 0 0] x.sec v1 v2 a l b m W' → BlkK W' (w.heap.size + 2) #[.string (bs x.sec), v1, v2, .slice none 0 0] 26 ∧ BlkK W' w.heap.size #[.string (bs x.sec), .slice (some ⟨b1, o1, none⟩) n1 c1, .slice (some ⟨b2, o2, none⟩) n2 c2, .slice a3 n3 c3] 26 ∧ W'.cell? ⟨b1, o1 + fj, none⟩ = some (.string (bs sg)) ∧ W'.cell? ⟨b2, o2 + fj, none⟩ = some (.slice at2 nt2 ct2) from fun a l b m W' G => ⟨G.out, G.src, cell_keep G.bel HC1.out, cell_keep G.bel HC2.out⟩)
      obtain ⟨wd, hwd⟩ : ∃ wd, wr.drew = wd := ⟨_, rfl⟩
      obtain ⟨p, hp⟩ : ∃ p, perL f x.sigla j = p := ⟨_, rfl⟩
      obtain ⟨r, hr⟩ : ∃ r, perL f x.tokens j = r := ⟨_, rfl⟩
      have hpl : p.length = j := by rw [← hp]; exact perL_len fun t ht => by rw [hl1]; exact HFL.out t (by omega)
      have hrl : r.length = j := by rw [← hr]; exact perL_len fun t ht => by rw [htk, hl1]; exact HFL.out t (by omega)
      rw [hp, hr, hwd] at HD
      rw [hp] at HP1
      rw [hr] at HP2
      rw [hwd]
      have HPL := Lib.hid hpl
      have HRL := Lib.hid hrl
      have hszd : w.heap.size ≤ wd.heap.size := HD.out.bel.size
      clear hwd hp hr hpl hrl v1' v2'
      refine wpAnyR_two (i := 7) (j := 16) rfl rfl (by decide +kernel) ?_ ?_
      · skip
        gi_wp2_with (fail)
        have G1 := Lib.hid (HD.out.below (balloc wd (.cells #[.string (bs sg)] 9)))
        first | refine ⟨fun _ => HS.out _ _ _ _ _ G1.out, ?_⟩ | refine ⟨HS.out _ _ _ _ _ G1.out, ?_⟩
        refine wpAnyR_two (i := 8) (j := 16) rfl rfl (by decide +kernel) ?_ ?_
        · skip
          have SRG2 := Lib.hid (show World.ownsRow _ w.heap.size 9 1 v1 j (p.map sv) from by have := G1.out.sig; unfold OwnS at this; rwa [HPL.out] at this)
          refine wpListIn_append_own _ rfl _ _ 22 rfl w.heap.size 9 is (.string ⟨#[]⟩) 1 16 Tryz.underlying22 his hs0 hs1 hs2 rfl (by decide) _ _ _ rfl SRG2.out ⟨wd.heap.size, 0, none⟩ 1 1 [.string (bs sg)] rfl rfl (cell_one_new _ _ _) (by simp [Value.oneCell']) (by unfold maxLen; omega) (by first | omega | (simp; omega)) (by first | omega | (simp; omega)) ?_
          intro v9 w4 hown hgrow _
          obtain ⟨g9, k9, rfl⟩ := ownsRow_succ hown
          have G2 := Lib.hid (ChG.pushS (s := sg) G1.out (by rw [HPL.out]; exact hown) hgrow)
          clear hown hgrow
          gi_wp2_with (fail)
          first | refine ⟨fun _ => HS.out _ _ _ _ _ G2.out, ?_⟩ | refine ⟨HS.out _ _ _ _ _ G2.out, ?_⟩
          try simp only [Act.put, List.getElem_toArray, List.getElem_cons_succ, List.getElem_cons_zero, List.setIfInBounds_toArray, List.set_cons_succ, List.set_cons_zero]
          apply wpAnyR_early (i := 18) (d := 37) rfl rfl (fun _ => trivial) (by decide +kernel) (by rfl)
          case hS => exact HS.out _ _ _ _ _ G2.out
          case hy =>
            rintro W' ⟨e1, e2, e3, e4⟩
            go_simp
            first | done | with_reducible rfl
          try simp only [List.setIfInBounds_toArray, List.set_cons_zero, List.set_cons_succ]
          refine wpAnyR_one (i := 16) rfl (by decide +kernel) ?_
          gi_wp2_with (fail)
          have G3 := Lib.hid (G2.out.below (balloc w4 (.cells #[.slice at2 nt2 ct2] 45)))
          first | refine ⟨fun _ => HS.out _ _ _ _ _ G3.out, ?_⟩ | refine ⟨HS.out _ _ _ _ _ G3.out, ?_⟩
          refine wpAnyR_one (i := 17) rfl (by decide +kernel) ?_
          have hsz4 := G3.out.bel.size
          try simp only [World.size_alloc] at hsz4
          obtain ⟨vs, hrow, hnx⟩ := G3.out.pushT
          rw [HRL.out] at hrow hnx
          have HROW := Lib.hid hrow
          have HNX := Lib.hid hnx
          clear hrow hnx
          refine wpListIn_append_own _ rfl _ _ 23 rfl w.heap.size 45 it (.slice none 0 0) 1 24 Tryz.underlying23 hit ht0 ht1 ht2 rfl (by decide) _ _ _ rfl HROW.out ⟨w4.heap.size, 0, none⟩ 1 1 [.slice at2 nt2 ct2] rfl rfl (cell_one_new _ _ _) (by simp [Value.oneCell']) (by unfold maxLen; omega) (by first | omega | (simp; omega)) (by first | omega | (simp; omega)) ?_
          intro v10 w6 hown hgrow _
          obtain ⟨g10, k10, rfl⟩ := ownsRow_succ hown
          have G4 := Lib.hid (HNX.out _ _ _ tk hown hgrow ⟨at2, nt2, ct2, rfl, HT.out⟩)
          clear hown hgrow
          gi_wp2_with (fail)
          first | refine ⟨fun _ => HS.out _ _ _ _ _ G4.out, ?_⟩ | refine ⟨HS.out _ _ _ _ _ G4.out, ?_⟩
          try simp only [Act.put, List.getElem_toArray, List.getElem_cons_succ, List.getElem_cons_zero, List.setIfInBounds_toArray, List.set_cons_succ, List.set_cons_zero]
          refine wpAnyR_one (i := 19) rfl (by decide +kernel) ?_
          have c1 := G4.out.out.cell (i := 1) rfl
          have f1 := BlkK.frozen (i := 1) G4.out.out
          gi_wp2_with (fail)
          have GS := Lib.hid (ChG.store G4.out 1 (.slice (some ⟨g9, 0, none⟩) (j + 1) k9) rfl)
          refine ⟨fun h => absurd h (by omega), ?_⟩
          refine wpAnyR_one (i := 20) rfl (by decide +kernel) ?_
          clear c1 f1
          gi_wp2_with (fail)
          refine ⟨fun h => absurd h (by omega), ?_⟩
          refine wpAnyR_one (i := 21) rfl (by decide +kernel) ?_
          have c1 := GS.out.out.cell (i := 2) rfl
          have f1 := BlkK.frozen (i := 2) GS.out.out
          gi_wp2_with (fail)
          have GT := Lib.hid (ChG.store GS.out 2 (.slice (some ⟨g10, 0, none⟩) (j + 1) k10) rfl)
          refine ⟨fun h => absurd h (by omega), by decide +kernel, ?_⟩
          gi_wp2_with (fail)
          refine (by assumption : ∀ (a : Act) (w : World), _ → _) _ _ ?_
          gi_wp2_with (fail)
          exact ⟨⟨j + 1, _, _, by omega, by simp, by rw [HP1.out, HP2.out]; exact GT.out⟩, by simp [intOf]; omega⟩
        · skip
          gi_wp2_with (fail)
          have G2 := Lib.hid (G1.out.below (balloc (wd.alloc (.cells #[.string (bs sg)] 9)) (.cells #[.slice at2 nt2 ct2] 45)))
          first | refine ⟨fun _ => HS.out _ _ _ _ _ G2.out, ?_⟩ | refine ⟨HS.out _ _ _ _ _ G2.out, ?_⟩
          refine wpAnyR_one (i := 8) rfl (by decide +kernel) ?_
          have HB16 := Lib.hid (show BlkK (World.alloc (wd.alloc (.cells #[.string (bs sg)] 9)) (.cells #[.slice at2 nt2 ct2] 45)) (wd.heap.size + 1) #[.slice at2 nt2 ct2] 45 from by have := BlkK.new (wd.alloc (.cells #[.string (bs sg)] 9)) #[.slice at2 nt2 ct2] 45; rwa [World.size_alloc] at this)
          have SRG3 := Lib.hid (show World.ownsRow _ w.heap.size 9 1 v1 j (p.map sv) from by have := G2.out.sig; unfold OwnS at this; rwa [HPL.out] at this)
          refine wpListIn_append_own _ rfl _ _ 22 rfl w.heap.size 9 is (.string ⟨#[]⟩) 1 16 Tryz.underlying22 his hs0 hs1 hs2 rfl (by decide) _ _ _ rfl SRG3.out ⟨wd.heap.size, 0, none⟩ 1 1 [.string (bs sg)] rfl rfl (fun j u hu => cell_keep (balloc _ _) (cell_one_new _ _ _ j u hu)) (by simp [Value.oneCell']) (by unfold maxLen; omega) (by first | omega | (simp; omega)) (by first | omega | (simp; omega)) ?_
          intro v9 w4 hown hgrow _
          obtain ⟨g9, k9, rfl⟩ := ownsRow_succ hown
          have G3 := Lib.hid (ChG.pushS (s := sg) G2.out (by rw [HPL.out]; exact hown) hgrow)
          have HX2 := Lib.hid (World.news_of_block (HB16.out.keptE hgrow (fun e => by have := (HD.out.sig.lt _ e.symm).2; omega)))
          clear hown hgrow
          gi_wp2_with (fail)
          first | refine ⟨fun _ => HS.out _ _ _ _ _ G3.out, ?_⟩ | refine ⟨HS.out _ _ _ _ _ G3.out, ?_⟩
          try simp only [Act.put, List.getElem_toArray, List.getElem_cons_succ, List.getElem_cons_zero, List.setIfInBounds_toArray, List.set_cons_succ, List.set_cons_zero]
          apply wpAnyR_early (i := 18) (d := 37) rfl rfl (fun _ => trivial) (by decide +kernel) (by rfl)
          case hS => exact HS.out _ _ _ _ _ G3.out
          case hy =>
            rintro W' ⟨e1, e2, e3, e4⟩
            go_simp
            first | done | with_reducible rfl
          try simp only [List.setIfInBounds_toArray, List.set_cons_zero, List.set_cons_succ]
          refine wpAnyR_one (i := 17) rfl (by decide +kernel) ?_
          have hsz4 := G3.out.bel.size
          try simp only [World.size_alloc] at hsz4
          obtain ⟨vs, hrow, hnx⟩ := G3.out.pushT
          rw [HRL.out] at hrow hnx
          have HROW := Lib.hid hrow
          have HNX := Lib.hid hnx
          clear hrow hnx
          refine wpListIn_append_own _ rfl _ _ 23 rfl w.heap.size 45 it (.slice none 0 0) 1 24 Tryz.underlying23 hit ht0 ht1 ht2 rfl (by decide) _ _ _ rfl HROW.out ⟨wd.heap.size + 1, 0, none⟩ 1 1 [.slice at2 nt2 ct2] rfl rfl HX2.out (by simp [Value.oneCell']) (by unfold maxLen; omega) (by first | omega | (simp; omega)) (by first | omega | (simp; omega)) ?_
          intro v10 w6 hown hgrow _
          obtain ⟨g10, k10, rfl⟩ := ownsRow_succ hown
          have G4 := Lib.hid (HNX.out _ _ _ tk hown hgrow ⟨at2, nt2, ct2, rfl, HT.out⟩)
          clear hown hgrow
          gi_wp2_with (fail)
          first | refine ⟨fun _ => HS.out _ _ _ _ _ G4.out, ?_⟩ | refine ⟨HS.out _ _ _ _ _ G4.out, ?_⟩
          try simp only [Act.put, List.getElem_toArray, List.getElem_cons_succ, List.getElem_cons_zero, List.setIfInBounds_toArray, List.set_cons_succ, List.set_cons_zero]
          refine wpAnyR_one (i := 19) rfl (by decide +kernel) ?_
          have c1 := G4.out.out.cell (i := 1) rfl
          have f1 := BlkK.frozen (i := 1) G4.out.out
          gi_wp2_with (fail)
          have GS := Lib.hid (ChG.store G4.out 1 (.slice (some ⟨g9, 0, none⟩) (j + 1) k9) rfl)
          refine ⟨fun h => absurd h (by omega), ?_⟩
          refine wpAnyR_one (i := 20) rfl (by decide +kernel) ?_
          clear c1 f1
          gi_wp2_with (fail)
          refine ⟨fun h => absurd h (by omega), ?_⟩
          refine wpAnyR_one (i := 21) rfl (by decide +kernel) ?_
          have c1 := GS.out.out.cell (i := 2) rfl
          have f1 := BlkK.frozen (i := 2) GS.out.out
          gi_wp2_with (fail)
          have GT := Lib.hid (ChG.store GS.out 2 (.slice (some ⟨g10, 0, none⟩) (j + 1) k10) rfl)
          refine ⟨fun h => absurd h (by omega), by decide +kernel, ?_⟩
          gi_wp2_with (fail)
          refine (by assumption : ∀ (a : Act) (w : World), _ → _) _ _ ?_
          gi_wp2_with (fail)
          exact ⟨⟨j + 1, _, _, by omega, by simp, by rw [HP1.out, HP2.out]; exact GT.out⟩, by simp [intOf]; omega⟩
      · skip
        gi_wp2_with (fail)
        have G1 := Lib.hid (HD.out.below (balloc wd (.cells #[.slice at2 nt2 ct2] 45)))
        first | refine ⟨fun _ => HS.out _ _ _ _ _ G1.out, ?_⟩ | refine ⟨HS.out _ _ _ _ _ G1.out, ?_⟩
        refine wpAnyR_one (i := 7) rfl (by decide +kernel) ?_
        gi_wp2_with (fail)
        have G2 := Lib.hid (G1.out.below (balloc (wd.alloc (.cells #[.slice at2 nt2 ct2] 45)) (.cells #[.string (bs sg)] 9)))
        first | refine ⟨fun _ => HS.out _ _ _ _ _ G2.out, ?_⟩ | refine ⟨HS.out _ _ _ _ _ G2.out, ?_⟩
        refine wpAnyR_one (i := 8) rfl (by decide +kernel) ?_
        have HB7 := Lib.hid (show BlkK (World.alloc (wd.alloc (.cells #[.slice at2 nt2 ct2] 45)) (.cells #[.string (bs sg)] 9)) (wd.heap.size + 1) #[.string (bs sg)] 9 from by have := BlkK.new (wd.alloc (.cells #[.slice at2 nt2 ct2] 45)) #[.string (bs sg)] 9; rwa [World.size_alloc] at this)
        have HB16 := Lib.hid ((BlkK.new wd #[.slice at2 nt2 ct2] 45).below (balloc (wd.alloc (.cells #[.slice at2 nt2 ct2] 45)) (.cells #[.string (bs sg)] 9)))
        have SRG3 := Lib.hid (show World.ownsRow _ w.heap.size 9 1 v1 j (p.map sv) from by have := G2.out.sig; unfold OwnS at this; rwa [HPL.out] at this)
        refine wpListIn_append_own _ rfl _ _ 22 rfl w.heap.size 9 is (.string ⟨#[]⟩) 1 16 Tryz.underlying22 his hs0 hs1 hs2 rfl (by decide) _ _ _ rfl SRG3.out ⟨wd.heap.size + 1, 0, none⟩ 1 1 [.string (bs sg)] rfl rfl (World.news_of_block HB7.out) (by simp [Value.oneCell']) (by unfold maxLen; omega) (by first | omega | (simp; omega)) (by first | omega | (simp; omega)) ?_
        intro v9 w4 hown hgrow _
        obtain ⟨g9, k9, rfl⟩ := ownsRow_succ hown
        have G3 := Lib.hid (ChG.pushS (s := sg) G2.out (by rw [HPL.out]; exact hown) hgrow)
        have HX2 := Lib.hid (World.news_of_block (HB16.out.keptE hgrow (fun e => by have := (HD.out.sig.lt _ e.symm).2; omega)))
        clear hown hgrow
        gi_wp2_with (fail)
        first | refine ⟨fun _ => HS.out _ _ _ _ _ G3.out, ?_⟩ | refine ⟨HS.out _ _ _ _ _ G3.out, ?_⟩
        try simp only [Act.put, List.getElem_toArray, List.getElem_cons_succ, List.getElem_cons_zero, List.setIfInBounds_toArray, List.set_cons_succ, List.set_cons_zero]
        apply wpAnyR_early (i := 18) (d := 37) rfl rfl (fun _ => trivial) (by decide +kernel) (by rfl)
        case hS => exact HS.out _ _ _ _ _ G3.out
        case hy =>
          rintro W' ⟨e1, e2, e3, e4⟩
          go_simp
          first | done | with_reducible rfl
        try simp only [List.setIfInBounds_toArray, List.set_cons_zero, List.set_cons_succ]
        refine wpAnyR_one (i := 17) rfl (by decide +kernel) ?_
        have hsz4 := G3.out.bel.size
        try simp only [World.size_alloc] at hsz4
        obtain ⟨vs, hrow, hnx⟩ := G3.out.pushT
        rw [HRL.out] at hrow hnx
        have HROW := Lib.hid hrow
        have HNX := Lib.hid hnx
        clear hrow hnx
        refine wpListIn_append_own _ rfl _ _ 23 rfl w.heap.size 45 it (.slice none 0 0) 1 24 Tryz.underlying23 hit ht0 ht1 ht2 rfl (by decide) _ _ _ rfl HROW.out ⟨wd.heap.size, 0, none⟩ 1 1 [.slice at2 nt2 ct2] rfl rfl HX2.out (by simp [Value.oneCell']) (by unfold maxLen; omega) (by first | omega | (simp; omega)) (by first | omega | (simp; omega)) ?_
        intro v10 w6 hown hgrow _
        obtain ⟨g10, k10, rfl⟩ := ownsRow_succ hown
        have G4 := Lib.hid (HNX.out _ _ _ tk hown hgrow ⟨at2, nt2, ct2, rfl, HT.out⟩)
        clear hown hgrow
        gi_wp2_with (fail)
        first | refine ⟨fun _ => HS.out _ _ _ _ _ G4.out, ?_⟩ | refine ⟨HS.out _ _ _ _ _ G4.out, ?_⟩
        try simp only [Act.put, List.getElem_toArray, List.getElem_cons_succ, List.getElem_cons_zero, List.setIfInBounds_toArray, List.set_cons_succ, List.set_cons_zero]
        refine wpAnyR_one (i := 19) rfl (by decide +kernel) ?_
        have c1 := G4.out.out.cell (i := 1) rfl
        have f1 := BlkK.frozen (i := 1) G4.out.out
        gi_wp2_with (fail)
        have GS := Lib.hid (ChG.store G4.out 1 (.slice (some ⟨g9, 0, none⟩) (j + 1) k9) rfl)
        refine ⟨fun h => absurd h (by omega), ?_⟩
        refine wpAnyR_one (i := 20) rfl (by decide +kernel) ?_
        clear c1 f1
        gi_wp2_with (fail)
        refine ⟨fun h => absurd h (by omega), ?_⟩
        refine wpAnyR_one (i := 21) rfl (by decide +kernel) ?_
        have c1 := GS.out.out.cell (i := 2) rfl
        have f1 := BlkK.frozen (i := 2) GS.out.out
        gi_wp2_with (fail)
        have GT := Lib.hid (ChG.store GS.out 2 (.slice (some ⟨g10, 0, none⟩) (j + 1) k10) rfl)
        refine ⟨fun h => absurd h (by omega), by decide +kernel, ?_⟩
        gi_wp2_with (fail)
        refine (by assumption : ∀ (a : Act) (w : World), _ → _) _ _ ?_
        gi_wp2_with (fail)
        exact ⟨⟨j + 1, _, _, by omega, by simp, by rw [HP1.out, HP2.out]; exact GT.out⟩, by simp [intOf]; omega⟩
    · obtain rfl : n1 = j := by omega
      obtain ⟨g0, g1, g2, g3⟩ := HI.out.src.coll
      have hsz := HI.out.bel.size
      have hlt := HI.out.out.lt
      gi_wp2_with (fail)
      refine (callsIn_wide.2 (HCP.out _)).mono ?_
      rintro e w2 ⟨rfl, hbx, hby, hb2⟩
      have HG := Lib.hid (HI.out.below hb2)
      obtain ⟨Bx, hBx⟩ : ∃ Bx, wr.heap.size = Bx := ⟨_, rfl⟩
      rw [hBx] at hbx hby ⊢
      have hB3 : w.heap.size + 3 ≤ Bx := by omega
      have HC0 := Lib.hid (show ChC w0 w #[.string (bs x.sec), .slice a1 n1 c1, .slice a2 n2 c2, .slice a3 n3 c3] #[.string ⟨#[]⟩, .slice none 0 0, .slice none 0 0, .slice none 0 0] x.sec v1 (perL f x.sigla n1) v2 (perL f x.tokens n1) Bx (.slice (some ⟨bo, oo, none⟩) n1 co) [] w2 from
        ⟨⟨_, HG.out.out, ColV.nil, by simp [Value.ownBlock]⟩, HG.out.res, HG.out.sig, HG.out.tok, hbx, hby, HG.out.bel⟩)
      have hl1' := hbx.lt
      have hl2' := hby.lt
      have HT := Lib.hid (cols_tells 9 (by omega) x a1 n1 c1 a2 n2 c2 a3 n3 c3 (some ⟨bo, oo, none⟩) co f w2 w HH.out HV.out HF0.out HO.out Bx (Bx + 1) HG.out.bel hl1' hl2' hbx.coll (hby.cell rfl))
      have HBD := Lib.hid HG.out.bel
      have hszB := HG.out.bel.size
      clear hbx hby hb2 g0 g1 g2 g3 hBx
      gi_wp2_with (fail)
      refine wpIn_rangeFunc_tells (F := Fence.wide) rfl (by omega) (gf := 122) rfl trivial eg HT.out KeepR.trans (keepR_b (w := w2) (by omega) (by omega) (by omega)) (Below.refl _ _) (fun _ => rfl)
        (fun r _ A B row ⟨c, hc, ho⟩ hg hr => ⟨c, hc, ho.kept hg (owns_none ho.1 fun t ht => (hr t ht).2)⟩)
        (fun (pre : List (Nat × Value)) W => ChC w0 w #[.string (bs x.sec), .slice a1 n1 c1, .slice a2 n2 c2, .slice a3 n3 c3] #[.string ⟨#[]⟩, .slice none 0 0, .slice none 0 0, .slice none 0 0] x.sec v1 (perL f x.sigla n1) v2 (perL f x.tokens n1) Bx (.slice (some ⟨bo, oo, none⟩) n1 co) (pre.map fun r : Nat × Value => perL f (x.columns.getD r.1 []) n1) W)
        (fun _ A B row hI hg hr => ChC.keptN hI hg (fun r he => (hr r he).2) (fun r he => by have := (hr r he).1; omega))
        HC0.out
        (fun r => { tmps := #[.agg #[.string (bs x.sec), .slice a1 n1 c1, .slice a2 n2 c2, .slice a3 n3 c3], .slice (some ⟨bo, oo, none⟩) n1 co, .pointer (some ⟨w.heap.size, 0, none⟩), undef, .pointer (some ⟨w.heap.size + 1, 0, none⟩), .pointer (some ⟨w.heap.size + 1 + 1, 0, none⟩), undef, u7, undef, r.2, .pointer (some ⟨w.heap.size, 0, none⟩), .string (bs x.sec), .agg #[.string (bs x.sec), .slice none 0 0, .slice none 0 0, .slice none 0 0], .slice (some ⟨bo, oo, none⟩) n1 co, .int .i64 n1, .int .i64 n1, .bool false, u17, u18, u19, u20, u21, u22, u23, u24, u25, u26, u27, u28, u29, u30, u31, u32, u33, u34, u35, u36, u37, u38, u39, .agg #[.string (bs x.sec), .slice a1 n1 c1, .slice a2 n2 c2, .slice a3 n3 c3], .slice (some ⟨bo, oo, none⟩) n1 co, .func (.func 122) #[] #[.pointer (some ⟨Bx, 0, none⟩), .pointer (some ⟨Bx + 1, 0, none⟩)], .int .i64 (r.1 : Int), r.2, undef, undef, undef, undef, undef, undef, undef], defers := [] }) ?assign ?body ?done
      case assign =>
        intro l r W K hK
        gi_wp2
        exact hK
      case body =>
        rintro l pre ⟨i, v⟩ W hI hlen ⟨c, hc, ho⟩
        have hcl := (HV.out.somes hc).1
        have hpl : (perL f c n1).length = n1 := perL_len fun t ht => by rw [hcl, hl1]; exact HFL.out t ht
        have hsm := HH.out.columns.small
        have hcg : x.columns.getD i [] = c := by rw [List.getD_eq_getElem?_getD, show x.columns[i]? = some c from hc]; rfl
        obtain ⟨av, kv, hve, _⟩ := OwnI.ints ho (by omega)
        rw [hpl] at hve
        simp only at hve
        subst hve
        have hszW := (ChC.bel hI).size
        obtain ⟨v3, vs, h1, h2, hn⟩ := ChC.push hI hB3
        obtain ⟨m, hm⟩ : ∃ m, (pre.map fun r : Nat × Value => perL f (x.columns.getD r.1 []) n1).length = m := ⟨_, rfl⟩
        have hm' : m = pre.length := by rw [← hm, List.length_map]
        rw [hm] at h2 hn
        clear hm
        subst hm'
        have HN := Lib.hid hn
        have HR := Lib.hid h2
        have HO1 := Lib.hid (OwnI.mono ho hszB)
        have HCG := Lib.hid hcg
        have c0 := h1.cell (i := 3) rfl
        clear h1 h2 hn ho hcl hpl hI hc hcg
        gi_wp2_with (gi_at_builtin; refine wpListIn_append_own_at _ rfl _ _ 24 rfl w.heap.size 37 ir (.slice none 0 0) 1 24 Tryz.underlying24 hir hr0 hr1 hr2 rfl (by decide) _ _ _ rfl (HR.out.alloc _) ⟨W.heap.size, 0, none⟩ 1 1 [.slice av n1 kv] rfl rfl (cell_one_new _ _ _) (by simp [Value.oneCell']) (by unfold maxLen; omega) (by first | omega | (simp; omega)) (by first | omega | (simp; omega)) ?_; intro v9 w4 hown hgrow _ hblk; obtain ⟨g9, k9, rfl⟩ := ownsRow_succ hown; have HZ := Lib.hid (HN.out _ _ _ _ (perL f c n1) hown hgrow hblk HO1.out); have c1 := HZ.out.1.cell (i := 3) rfl; have f1 := BlkK.hard (i := 3) HZ.out.1; clear hown hgrow hblk)
        refine ⟨HZ.out.2.2.2.from _, HZ.out.2.2.1, ?_⟩
        simp only [List.map_append, List.map_cons, List.map_nil, ← List.getD_eq_getElem?_getD, HCG.out]
        exact HZ.out.2.1
      case done =>
        rintro D ys W hD hS hI hK
        have hcs : (ys.map fun r : Nat × Value => perL f (x.columns.getD r.1 []) n1) = (reoC x f).columns := by
          have e1 : (ys.map fun r : Nat × Value => perL f (x.columns.getD r.1 []) n1) = (ys.map (·.1)).map fun i => perL f (x.columns.getD i []) n1 := by rw [List.map_map]; rfl
          rw [e1, show ys.map (·.1) = List.range n3 from hS, ← hl3, range_getD x.columns [] fun c => perL f c n1]
          show _ = x.columns.map fun c => perL f c x.sigla.length
          rw [hl1]
        have hI := hI
        rw [hcs] at hI
        have hp1 : (perL f x.sigla n1).length = n1 := perL_len fun k hk => by rw [hl1]; exact HFL.out k hk
        have hp2 : (perL f x.tokens n1).length = n1 := perL_len fun k hk => by rw [htk, hl1]; exact HFL.out k hk
        have hp3 : (reoC x f).columns.length = n3 := by show (x.columns.map _).length = _; rw [List.length_map, hl3]
        have hsm := HH.out.sigla.small
        obtain ⟨d1, k1, d2, k2, d3, k3, rfl, rfl, hk1, hout, hown⟩ := ChC.shape hI (by omega) (by omega) (by omega) (fun c hc => by
          obtain ⟨c', _, rfl⟩ := List.mem_map.1 hc
          have := List.length_filterMap_le (fun k => c'[f k]?) (List.range x.sigla.length)
          rw [List.length_range] at this
          exact Nat.le_trans this (by omega))
        rw [hp1] at hk1
        rw [hp1, hp2, hp3] at hout hown
        have HOWN := Lib.hid hown
        have HRES := Lib.hid hI.res
        have HBEL := Lib.hid hI.bel
        have c0 := hout.cell (i := 0) rfl
        have c1 := hout.cell (i := 1) rfl
        have c2 := hout.cell (i := 2) rfl
        have c3 := hout.cell (i := 3) rfl
        have f0 := BlkK.hard (i := 0) HRES.out
        have g0 := HRES.out.cell (i := 0) rfl
        have f1 := BlkK.hard (i := 1) HRES.out
        have g1 := HRES.out.cell (i := 1) rfl
        have f2 := BlkK.hard (i := 2) HRES.out
        have g2 := HRES.out.cell (i := 2) rfl
        have f3 := BlkK.hard (i := 3) HRES.out
        have g3 := HRES.out.cell (i := 3) rfl
        clear hI hout hown hcs hS
        gi_wp2_with (fail)
        clear c0 c1 c2 c3 f0 f1 f2 f3 g0 g1 g2 g3
        obtain ⟨WS, hWS, hbs, hgs⟩ := store4 HRES.out (.string (bs x.sec)) (.slice d1 n1 k1) (.slice d2 n1 k2) (.slice d3 n3 k3)
        rw [← hWS]
        have hDne : w.heap.size + 1 ≠ D := by
          rintro e
          have h1 : W.heap[w.heap.size + 1]? = some (.cells _ _ (0, 0)) := HRES.out
          rw [e, hK] at h1
          cases h1
        have hK2 : WS.heap[D]? = some (.deferred (some [])) := by rw [hgs.block D (Array.getElem?_eq_some_iff.1 hK).1 (by simpa using fun e => hDne e.symm)]; exact hK
        have hbs2 := hbs.keptN (grownBy_putObj' WS D (.deferred none)) (fun r hr => by cases hr; exact ⟨_, hK2, rfl⟩)
        have r0 := hbs2.cell (i := 0) rfl
        have r1 := hbs2.cell (i := 1) rfl
        have r2 := hbs2.cell (i := 2) rfl
        have r3 := hbs2.cell (i := 3) rfl
        refine ⟨by simp, .inl ⟨_, _, rfl, run_takeDeferred hK2, ?_⟩⟩
        refine ⟨.agg #[.string (bs x.sec), .slice d1 n1 k1, .slice d2 n1 k2, .slice d3 n3 k3], by simp [results, Tryz.f73, go_sem, r0, r1, r2, r3], d1, k1, d2, k2, d3, k3, rfl, ?_, hk1, ?_⟩
        · have := (HOWN.out.keptE HRES.out hgs).keptN (grownBy_putObj' WS D (.deferred none)) (fun r hr => by cases hr; exact ⟨_, hK2, rfl⟩)
          rw [show reoC x f = ⟨x.sec, perL f x.sigla n1, perL f x.tokens n1, (reoC x f).columns⟩ by rw [← hl1]; rfl]
          exact this
        · exact (HBEL.out.grown hgs HBEL.out.size fun r he => by cases he; omega).trans (belowK_b (w := w) (Nat.le_refl _) WS D _ _ (by omega) hK2 rfl rfl)
end Go.Proofs.YthfppkcefnmdoaaGreatDoor
