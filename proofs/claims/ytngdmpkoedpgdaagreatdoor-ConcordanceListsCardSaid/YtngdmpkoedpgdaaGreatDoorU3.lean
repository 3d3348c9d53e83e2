import Derived.Test.YtngdmpkoedpgdaaGreatDoorU6
import Derived.Test.YtngdmpkoedpgdaaGreatDoorU2
import Derived.Test.YtngdmpkoedpgdaaGreatDoorFr5
import Derived.Test.YtngdmpkoedpgdaaGreatDoorU1
import Derived.Test.YtngdmpkoedpgdaaGreatDoorIs

/-
  Frequent (reference): what is kept while it runs.
-/



namespace Go.Ap
open Go Go.RowKit
theorem index_asc {l : List Post} (h : indexB l = true) : l.Pairwise fun p q => headM mkB p.1 q.1 < 0 := by
  unfold indexB at h
  simp only [Bool.and_eq_true] at h
  have ha := h.2
  have hstep : ∀ j (hj : j + 1 < l.length), headM mkB l[j].1 l[j + 1].1 < 0 := fun j hj => by
    have := List.all_eq_true.1 ha (j + 1) (List.mem_range.2 hj)
    unfold ascAt at this
    have e1 : nthP l j = l[j] := nthP_eq (List.getElem?_eq_getElem (by omega))
    have e2 : nthP l (j + 1) = l[j + 1] := nthP_eq (List.getElem?_eq_getElem hj)
    simp only [Nat.add_sub_cancel, e1, e2] at this
    simpa using this
  rw [List.pairwise_iff_getElem]
  intro i j hi hj hij
  obtain ⟨d, rfl⟩ : ∃ d, j = i + 1 + d := ⟨j - i - 1, by omega⟩
  induction d with
  | zero => exact hstep i (by omega)
  | succ d ih => exact (cmp_head mkB).trans (ih (by omega) (by omega)) (hstep (i + 1 + d) (by omega))
theorem countL_small {l : List Post} (h : ∀ p ∈ l, p.2.length ≤ 4096) : countL l ≤ l.length * 4096 := by
  unfold countL
  induction l with
  | nil => simp
  | cons p r ih =>
    have h1 := h p (List.mem_cons_self ..)
    have h2 := ih fun q hq => h q (List.mem_cons_of_mem _ hq)
    simp only [List.map_cons, List.sum_cons, List.length_cons]
    omega
def encN (n : Nat) : Value := .int .i64 (n : Int)
section
variable {ts ti : TypeId} {w W X Y : World} {B : Nat} {ws : List Str} {cs : List Nat} {v6 v7 : Value}
/-- the words and how often, while it runs -/
structure FsI (ts ti : TypeId) (w : World) (B : Nat) (ws : List Str) (cs : List Nat) (v6 v7 : Value) (W : World) : Prop where
  below : Below B w W
  base : B ≤ W.heap.size
  wrd : W.ownsRow B ts 1 v6 ws.length (ws.map sv)
  cnt : W.ownsRow B ti 1 v7 cs.length (cs.map encN)
theorem FsI.down (h : FsI ts ti w B ws cs v6 v7 W) (hk : Below W.heap.size W X) : FsI ts ti w B ws cs v6 v7 X :=
  ⟨h.below.trans (hk.mono h.base), Nat.le_trans h.base hk.size, owns_below h.wrd hk, owns_below h.cnt hk⟩
theorem FsI.word {x : Str} {v' : Value} {tmp : Obj} (t : ts ≠ ti) (h : FsI ts ti w B ws cs v6 v7 W) (hown : Y.ownsRow B ts 1 v' (ws.length + 1) (ws.map sv ++ [.string (bs x)])) (hg : (W.alloc tmp).grownBy Y v6.ownBlock) : FsI ts ti w B (ws ++ [x]) cs v' v7 Y := by
  have h1 := h.down (balloc W tmp)
  refine ⟨h1.below.grown hg h1.base fun k hk => (h.wrd.lt k hk).1, Nat.le_trans h1.base hg.size, ?_, World.ownsRow.kept h1.cnt hg (owns_apart h.cnt h.wrd t.symm)⟩
  rw [List.length_append, List.map_append]
  exact hown
theorem FsI.count {n : Nat} {v' : Value} {tmp : Obj} (t : ts ≠ ti) (h : FsI ts ti w B ws cs v6 v7 W) (hown : Y.ownsRow B ti 1 v' (cs.length + 1) (cs.map encN ++ [encN n])) (hg : (W.alloc tmp).grownBy Y v7.ownBlock) : FsI ts ti w B ws (cs ++ [n]) v6 v' Y := by
  have h1 := h.down (balloc W tmp)
  refine ⟨h1.below.grown hg h1.base fun k hk => (h.cnt.lt k hk).1, Nat.le_trans h1.base hg.size, World.ownsRow.kept h1.wrd hg (owns_apart h.wrd h.cnt t), ?_⟩
  rw [List.length_append, List.map_append]
  exact hown
theorem own_cell {e : TypeId} {b m cap n : Nat} {vs : List Value} (h : W.ownsRow B e 1 (.slice (some ⟨b, 0, none⟩) m cap) n vs) : B ≤ b ∧ ∀ k u, vs[k]? = some u → W.cell? ⟨b, k, none⟩ = some u ∧ W.frozen? ⟨b, k, none⟩ = false := by
  rcases h.2 with ⟨h0, _⟩ | ⟨g, cap', cur, he, hbb, hgg, _⟩
  · cases h0
  · simp only [Value.slice.injEq, Option.some.injEq, Addr.mk.injEq, and_true] at he
    obtain ⟨rfl, _, _⟩ := he
    refine ⟨hbb, fun k u hu => ⟨?_, by simp [World.frozen?, hgg]⟩⟩
    have hx := h.cells (g := b) rfl k u hu
    have hadd : (⟨b, 0, none⟩ : Addr).add k = ⟨b, k, none⟩ := by unfold Addr.add; split <;> simp_all
    rwa [hadd] at hx
theorem FsI.set {b m cap k z : Nat} (t : ts ≠ ti) (h : FsI ts ti w B ws cs v6 (.slice (some ⟨b, 0, none⟩) m cap) W) : FsI ts ti w B ws (cs.set k z) v6 (.slice (some ⟨b, 0, none⟩) m cap) (W.setCell ⟨b, k, none⟩ (encN z)) := by
  have hs : W.grownBy (W.setCell ⟨b, k, none⟩ (encN z)) (some b) := ⟨rfl, rfl, rfl, by simp [World.setCell], fun j _ hk => Below.heap_setCell _ _ _ j fun e => hk (by rw [e])⟩
  refine ⟨h.below.grown hs h.base fun j hj => by cases hj; exact (own_cell h.cnt).1, by simpa [World.setCell] using h.base, World.ownsRow.kept h.wrd hs (owns_apart h.wrd h.cnt t), ?_⟩
  have := own_set h.cnt k (encN z)
  rw [List.length_set, List.map_set]
  exact this
theorem own_shape {e : TypeId} {n size : Nat} {v : Value} {vs : List Value} (h : W.ownsRow B e size v n vs) : ∃ a c, v = .slice a n c := by
  rcases h.2 with ⟨rfl, rfl⟩ | ⟨g, cap, cur, rfl, _⟩
  · exact ⟨_, _, rfl⟩
  · exact ⟨_, _, rfl⟩
theorem cntsU_len (l : List Post) : (cntsU l).length = (wordsF l).length := by unfold cntsU; rw [List.length_map]
end
end Go.Ap

/-
  Frequent (reference): what is kept while the words are picked.
-/

namespace Go.Ap
open Go Go.RowKit
section
variable {ts ti : TypeId} {w W X Y : World} {B B' : Nat} {ws : List Str} {cs : List Nat} {out : List Str} {v6 v7 vo : Value}
structure FoI (ts ti : TypeId) (w : World) (B B' : Nat) (ws : List Str) (cs : List Nat) (out : List Str) (v6 v7 vo : Value) (W : World) : Prop where
  core : FsI ts ti w B ws cs v6 v7 W
  sep : ∀ k, v6.ownBlock = some k → k < B'
  base : B' ≤ W.heap.size
  low : B ≤ B'
  out : W.ownsRow B' ts 1 vo out.length (out.map sv)
theorem FoI.down (h : FoI ts ti w B B' ws cs out v6 v7 vo W) (hk : Below W.heap.size W X) : FoI ts ti w B B' ws cs out v6 v7 vo X :=
  ⟨h.core.down hk, h.sep, Nat.le_trans h.base hk.size, h.low, owns_below h.out hk⟩
theorem FoI.push {x : Str} {v' : Value} {tmp : Obj} (t : ts ≠ ti) (h : FoI ts ti w B B' ws cs out v6 v7 vo W) (hown : Y.ownsRow B' ts 1 v' (out.length + 1) (out.map sv ++ [.string (bs x)])) (hg : (W.alloc tmp).grownBy Y vo.ownBlock) : FoI ts ti w B B' ws cs (out ++ [x]) v6 v7 v' Y := by
  have h1 := h.down (balloc W tmp)
  have hlt : ∀ k, vo.ownBlock = some k → B' ≤ k := fun k hk => (h.out.lt k hk).1
  refine ⟨⟨h1.core.below.grown hg h1.core.base fun k hk => Nat.le_trans h.low (hlt k hk), Nat.le_trans h1.core.base hg.size, World.ownsRow.kept h1.core.wrd hg ?_, World.ownsRow.kept h1.core.cnt hg (owns_apart h.core.cnt h.out t.symm)⟩, h.sep, Nat.le_trans h1.base hg.size, h.low, ?_⟩
  · cases e6 : v6.ownBlock with
    | none => exact .inl rfl
    | some k =>
      refine .inr fun e => ?_
      have := h.sep k e6
      have := hlt k e.symm
      omega
  · rw [List.length_append, List.map_append]
    exact hown
theorem FoI.set {b m cap k z : Nat} (t : ts ≠ ti) (h : FoI ts ti w B B' ws cs out v6 (.slice (some ⟨b, 0, none⟩) m cap) vo W) : FoI ts ti w B B' ws (cs.set k z) out v6 (.slice (some ⟨b, 0, none⟩) m cap) vo (W.setCell ⟨b, k, none⟩ (encN z)) := by
  have hs : W.grownBy (W.setCell ⟨b, k, none⟩ (encN z)) (some b) := ⟨rfl, rfl, rfl, by simp [World.setCell], fun j _ hk => Below.heap_setCell _ _ _ j fun e => hk (by rw [e])⟩
  exact ⟨h.core.set t, h.sep, by simpa [World.setCell] using h.base, h.low, World.ownsRow.kept h.out hs (owns_apart h.out h.core.cnt t)⟩
theorem own_addr {e : TypeId} {base m n c : Nat} {a : Option Addr} {vs : List Value} (h : W.ownsRow base e 1 (.slice a m c) n vs) (hn : 0 < n) : ∃ b, a = some ⟨b, 0, none⟩ := by
  rcases h.2 with ⟨_, rfl⟩ | ⟨g, cap, cur, he, _⟩
  · omega
  · simp only [Value.slice.injEq] at he
    exact ⟨g, he.1⟩
theorem strs_of_own {e : TypeId} {base c : Nat} {a : Option Addr} {xs : List Str} (h : W.ownsRow base e 1 (.slice a xs.length c) xs.length (xs.map sv)) (hs : xs.length ≤ 4611686018427387903) : StrsL W a xs.length xs := by
  refine ⟨rfl, hs, fun k x hx => ?_⟩
  have hk : k < xs.length := (List.getElem?_eq_some_iff.1 hx).1
  obtain ⟨b, rfl⟩ := own_addr h (by omega)
  refine ⟨b, 0, sv x, rfl, ?_, rfl⟩
  rw [Nat.zero_add]
  exact ((own_cell h).2 k (sv x) (by rw [List.getElem?_map, hx]; rfl)).1
def lenV : Value → Nat
  | .slice _ n _ => n
  | _ => 0
theorem own_len {e : TypeId} {base n : Nat} {v : Value} {vs : List Value} (h : W.ownsRow base e 1 v n vs) : lenV v = n := by
  obtain ⟨a, c, rfl⟩ := own_shape h
  rfl
/-- what is left of the numbers, place by place -/
def leftA (l : List Post) (j i : Nat) : Nat := ((leftC l j)[i]?).getD 0
theorem leftC_len (l : List Post) (j : Nat) : (leftC l j).length = (wordsF l).length := by unfold leftC; rw [List.length_map]
theorem leftA_at {l : List Post} {j i : Nat} (h : i < (wordsF l).length) : (leftC l j)[i]? = some (leftA l j i) := by
  unfold leftA
  rw [List.getElem?_eq_getElem (by rw [leftC_len]; exact h)]
  rfl
theorem BestI.rng {C : Nat → Nat} {i : Nat} {b : Int} (h : BestI C i b) : b = -1 ∨ ∃ k : Nat, b = k ∧ k < i := by
  rcases h with ⟨h, _⟩ | ⟨k, h, hk, _⟩
  · exact .inl h
  · exact .inr ⟨k, h, hk⟩
theorem validB_ne {p : Post} (h : validB p = true) : p.2 ≠ [] := by
  unfold validB at h
  simp only [Bool.and_eq_true, decide_eq_true_eq] at h
  intro e
  have := h.1.1.2
  rw [e] at this
  simp at this
end
end Go.Ap

/-
  Frequent (reference), the walk.
-/



namespace Go.Proofs.YtngdmpkoedpgdaaGreatDoor
open Go.RowKit Go.Ap Go.Shelf Go.Proofs

attribute [local go_sem] Oper.semAt_some bs_toList empty_toList bs_size bs_extract
abbrev FsJ (w : World) (B : Nat) (ws : List Str) (cs : List Nat) (v6 v7 : Value) (W : World) : Prop := FsI 9 3 w B ws cs v6 v7 W
abbrev FoJ (w : World) (B B' : Nat) (ws : List Str) (cs : List Nat) (out : List Str) (v6 v7 vo : Value) (W : World) : Prop := FoI 9 3 w B B' ws cs out v6 v7 vo W
set_option maxRecDepth 100000 in
set_option maxHeartbeats 8000000 in
theorem frequentR (l : List Post) (z : Int) (a : Option Addr) (n c : Nat) (w : World) (h : Posts w a n l) (hn : n ≤ 12) :
    Calls Tryz.prog 54 #[.slice a n c, .int .i64 z] w fun e w' => FreqA e w w' (freqC l z) (freqL l z) := by
  obtain ⟨i9, hi9, hy0, hy1, hy2⟩ := info_parts infoInt5
  obtain ⟨i8, hi8, hx0, hx1, hx2⟩ := info_parts infoStr5
  have HI := Lib.hid (indexR l a n c w h)
  have HX := Lib.hid h
  have HLN := Lib.hid h.len
  have hsm := h.small
  obtain ⟨B, hB⟩ : ∃ B, w.heap.size = B := ⟨_, rfl⟩
  have HBE := Lib.hid hB
  cases hx : indexB l
  · rw [hx] at HI
    rw [show freqC l z = 1 by unfold freqC; rw [if_pos hx]]
    clear hx h
    go_enter Tryz.func54, Tryz.ntmps54
    go_wp2_with (fail)
    refine HI.out.mono ?_
    rintro e W ⟨rfl, hb⟩
    go_wp2_with (fail)
    go_ret2
    exact FreqA.bad (by decide) hb
  · rw [hx] at HI
    have HFC := Lib.hid (show freqC l z = if z < 0 ∨ 4096 < z then 2 else 0 by unfold freqC; rw [if_neg (by simp [hx])])
    by_cases z0 : z < 0
    · have d1 : decide (z < 0) = true := decide_eq_true z0
      rw [HFC.out, if_pos (.inl z0)]
      clear hx h
      go_enter Tryz.func54, Tryz.ntmps54
      go_wp2_with (fail)
      refine HI.out.mono ?_
      rintro e W ⟨rfl, hb⟩
      go_wp2_with (fail)
      go_ret2
      exact FreqA.bad (by decide) hb
    · by_cases z1 : 4096 < z
      · have d1 : decide (z < 0) = false := decide_eq_false z0
        have d2 : decide (4096 < z) = true := decide_eq_true z1
        rw [HFC.out, if_pos (.inr z1)]
        clear hx h
        go_enter Tryz.func54, Tryz.ntmps54
        go_wp2_with (fail)
        refine HI.out.mono ?_
        rintro e W ⟨rfl, hb⟩
        go_wp2_with (fail)
        go_ret2
        exact FreqA.bad (by decide) hb
      · have d1 : decide (z < 0) = false := decide_eq_false z0
        have d2 : decide (4096 < z) = false := decide_eq_false z1
        rw [HFC.out, if_neg (fun h => h.elim z0 z1)]
        obtain ⟨k, rfl⟩ : ∃ k : Nat, z = k := ⟨z.toNat, by omega⟩
        have HAS := Lib.hid (index_asc hx)
        have HVL := Lib.hid (indexB_valid hx).2
        obtain ⟨FL, hFL⟩ : ∃ x, freqL l (k : Int) = x := ⟨_, rfl⟩
        have HFL := Lib.hid hFL
        rw [hFL]
        clear hx h hFL HFC z0 z1
        go_enter Tryz.func54, Tryz.ntmps54
        go_wp2_with (fail)
        refine HI.out.mono ?_
        rintro e W0 ⟨rfl, hb⟩
        have hbs0 : B ≤ W0.heap.size := by have := hb.size; omega
        have HR0 := Lib.hid (show FsJ w B [] [] (.slice (some ⟨W0.heap.size, 0, none⟩) 0 0) (.slice (some ⟨W0.heap.size + 1, 0, none⟩) 0 0) ((W0.alloc (.cells #[] 9)).alloc (.cells #[] 3)) from by
          have k1 := balloc W0 (.cells #[] 9)
          have k2 := balloc (W0.alloc (.cells #[] 9)) (.cells #[] 3)
          refine ⟨by rw [← HBE.out]; exact bstep (bstep hb k1) k2, by simp; omega, owns_below (World.ownsRow_made W0 #[] 0 hbs0 (by simp [maxLen]) rfl) k2, ?_⟩
          have := World.ownsRow_made (base := B) (e := 3) (size := 1) (W0.alloc (.cells #[] 9)) #[] 0 (by simp; omega) (by simp [maxLen]) rfl
          rw [World.size_alloc] at this
          exact this)
        clear hb HI
        go_wp2_with (fail)
        go_loopw [6, 7, 8] (fun v6 v7 iv wr => ∃ i : Nat, i ≤ n ∧ iv = .int .i64 i ∧ FsJ w B (wordsF (l.take i)) (cntsU (l.take i)) v6 v7 wr) (fun _ _ iv _ => n - (intOf iv).toNat)
        case atStart => exact ⟨0, Nat.zero_le _, rfl, by simpa [wordsF, cntsU] using HR0.out⟩
        case round =>
          obtain ⟨W, rfl⟩ : ∃ W : World, W = wr := ⟨_, rfl⟩
          obtain ⟨i, hile, rfl, hr⟩ := hrel
          have HR := Lib.hid hr
          by_cases hin : i < n
          · obtain ⟨p, pb, off, hp, rfl, a1, k1, c0, c1, c2, hps⟩ := HX.out.at hin
            obtain ⟨⟨wd, sc⟩, lines⟩ := p
            simp only at c0 c2
            have HC0 := Lib.hid c0
            have HTK := Lib.hid (take_snoc hp)
            have hvp := validB_parts (HVL.out _ (List.mem_of_getElem? hp))
            have hm4 : lines.length ≤ 4096 := hvp.2.2.1
            obtain ⟨m, hm⟩ : ∃ m, lines.length = m := ⟨_, rfl⟩
            have HM := Lib.hid hm
            rw [hm] at c2 hm4
            have HC2 := Lib.hid c2
            have HWL := Lib.hid (show (wordsF (l.take i)).length ≤ 12 by have := wordsF_len (l.take i); rw [List.length_take] at this; omega)
            have HCU := Lib.hid (cntsU_len (l.take i))
            have i1 : (i : Int) < (n : Int) := by omega
            have HPW := Lib.hid (show (l.take i ++ [((wd, sc), lines)]).Pairwise fun p q => headM mkB p.1 q.1 < 0 by rw [← HTK.out]; exact HAS.out.sublist (List.take_sublist _ _))
            have HNEW := Lib.hid (show wd ∉ wordsF (l.take i) → wordsF (l.take (i + 1)) = wordsF (l.take i) ++ [wd] ∧ cntsU (l.take (i + 1)) = cntsU (l.take i) ++ [m] from fun h => by
              rw [HTK.out]
              exact ⟨by rw [wordsF_snoc, if_neg h], by rw [cntsU_new h, hm]⟩)
            clear hp hps hvp c1 hm
            replace c0 := Go.Ap.cell_kept (Nat.le_of_eq HBE.out) hr.below c0
            replace c2 := Go.Ap.cell_kept (Nat.le_of_eq HBE.out) hr.below c2
            have HRD := Lib.hid (show FsJ w B _ _ _ _ W.drew from hr.down (bdrewN W 1))
            have HD0 := Lib.hid c0
            have HD2 := Lib.hid c2
            have HE0 := Lib.hid (show W.drew.cell? _ = _ from c0)
            have HE2 := Lib.hid (show W.drew.cell? _ = _ from c2)
            obtain ⟨WS, hWS⟩ : ∃ x, wordsF (l.take i) = x := ⟨_, rfl⟩
            obtain ⟨CS, hCS⟩ : ∃ x, cntsU (l.take i) = x := ⟨_, rfl⟩
            have HWS := Lib.hid hWS
            have HCS := Lib.hid hCS
            rw [hWS, hCS] at HR HNEW HRD HCU hr
            rw [hWS] at HWL
            clear hWS hCS
            cases WS using snoc_ind with
            | h0 =>
              obtain ⟨ae, ce, rfl⟩ := own_shape hr.wrd
              obtain ⟨ab, cb, rfl⟩ := own_shape hr.cnt
              have hcl0 : CS.length = 0 := HCU.out
              rw [hcl0] at HR HRD hr ⊢
              rw [List.length_nil] at HR HRD hr ⊢
              clear hr c0 c2
              have HN := Lib.hid (HNEW.out (by simp))
              go_wp2_with (fail)
              refine (wpIn_wide (n := 20)).1 ?_
              refine wpIn_region_planN (fun W' => Below W.heap.size W W') (.take 0 <| .take 1 <| .take 2 <| .take 3 <| .take 4 <| .take 5 <| .take 6 <| .take 7 <| .take 8 <| .take 9 <| .take 10 <| .take 11 <| .take 12 <| .take 13 <| .take 14 <| .take 15 <| .take 16 .fin) (fun _ => trivial) (by kernel_rfl) (by kernel_rfl) (show Below _ W _ from bdrewN _ 1) ?_
              iterate 4
                apply plan_take rfl rfl (by rfl)
                case hy =>
                  rintro W' hb'
                  clear hb'
                  go_simp
                  first | done | with_reducible rfl
                simp only [List.setIfInBounds_toArray, List.set_cons_zero, List.set_cons_succ]
              iterate 12
                apply plan_no (j := 3) (t := 32) (b := false) (c := true) rfl rfl rfl rfl rfl (by simp) rfl
                simp only [List.setIfInBounds_toArray, List.set_cons_zero, List.set_cons_succ]
              apply plan_take rfl rfl (by rfl)
              case hy =>
                rintro W' hb'
                clear hb'
                go_simp
                first | done | with_reducible rfl
              simp only [List.setIfInBounds_toArray, List.set_cons_zero, List.set_cons_succ]
              refine plan_fin ?_
              gi_wp2_with (fail)
              obtain ⟨D, hD⟩ : ∃ D, W.drew = D := ⟨_, rfl⟩
              rw [hD] at HRD HE0 HE2
              change Code.wp _ _ _ _ (World.drew W)
              rw [hD]
              have e0 := HE0.out
              clear hD
              have hsD := HRD.out.base
              have hwl := HWL.out
              have hcl : CS.length ≤ 12 := by have := HCU.out; omega
              have HNW1 := Lib.hid (show ∀ (j : Nat) (u : Value), [.string (bs wd)][j]? = some u → (D.alloc (.cells #[.string (bs wd)] 9)).cell? ((⟨D.heap.size, 0, none⟩ : Addr).add j) = some u from World.news_of_block (cs := #[.string (bs wd)]) (heap_fresh rfl))
              go_wp2_with (at_builtin; first
                | (refine wpList_append_own _ rfl _ _ 22 rfl B 9 i8 (.string { data := #[] }) 1 16 Tryz.underlying22 hi8 hx0 hx1 hx2 rfl (by decide) _ _ _ rfl (World.ownsRow.alloc HRD.out.wrd _) ⟨D.heap.size, 0, none⟩ 1 1 [.string (bs wd)] rfl rfl HNW1.out (by simp [Value.oneCell']) (by unfold maxLen; omega) (by omega) (by simp; omega) ?_; intro v9 w4 hown1 hgrow1 _; have HF1 := Lib.hid (FsI.word (by decide) HRD.out hown1 hgrow1); have d2 := Go.Ap.cell_kept (Nat.le_of_eq HBE.out) HF1.out.below HC2.out; have hs4 := HF1.out.base; have HNW2 := Lib.hid (show ∀ (j : Nat) (u : Value), [encN m][j]? = some u → (w4.alloc (.cells #[encN m] 3)).cell? ((⟨w4.heap.size, 0, none⟩ : Addr).add j) = some u from World.news_of_block (cs := #[encN m]) (heap_fresh rfl)); clear hown1 hgrow1)
                | (refine wpList_append_own _ rfl _ _ 26 rfl B 3 i9 (.int .i64 0) 1 8 Tryz.underlying26 hi9 hy0 hy1 hy2 rfl (by decide) _ _ _ rfl (World.ownsRow.alloc HF1.out.cnt _) ⟨w4.heap.size, 0, none⟩ 1 1 [encN m] rfl rfl HNW2.out (by simp [Value.oneCell', encN]) (by unfold maxLen; omega) (by omega) (by simp; omega) ?_; intro v8 w5 hown2 hgrow2 _; have HF2 := Lib.hid (FsI.count (by decide) HF1.out hown2 hgrow2); clear hown2 hgrow2))
              exact ⟨⟨i + 1, by omega, by simp, by rw [HN.out.1, HN.out.2]; exact HF2.out⟩, by simp [intOf]; omega⟩
            | h1 WS' x =>
              obtain ⟨q, hq⟩ : ∃ q, WS'.length = q := ⟨_, rfl⟩
              have e6 : (WS' ++ [x]).length = q + 1 := by rw [List.length_append, hq]; rfl
              have f6 := hr.wrd
              rw [e6] at f6
              obtain ⟨bf, capf, rfl⟩ := ownsRow_succ f6
              have f7 := hr.cnt
              rw [HCU.out, e6] at f7
              obtain ⟨bc, capc, rfl⟩ := ownsRow_succ f7
              have HCX := Lib.hid (show W.cell? ⟨bf, q, none⟩ = some (.string (bs x)) from ((own_cell f6).2 q (sv x) (by rw [List.map_append, List.getElem?_append_right (by rw [List.length_map]; omega), List.length_map, hq, Nat.sub_self]; rfl)).1)
              have hq12 : q ≤ 12 := by have := HWL.out; omega
              have w1 : IntKind.i64.wrap (q : Int) = (q : Int) := IntWalk.i64_in _ (by omega)
              have v5 : (q : Int) < (q : Int) + 1 := by omega
              have v6' : q < q + 1 := by omega
              have v7' : (0 : Int) < (q : Int) + 1 := by omega
              have v8 : decide ((0 : Int) < (q : Int) + 1) = true := decide_eq_true v7'
              have HQ := Lib.hid hq
              clear hr c0 c2 f6 f7 e6 hq
              by_cases hxw : x = wd
              · subst hxw
                have hwm : (wordsF (l.take i))[q]? = some x := by rw [HWS.out, List.getElem?_append_right (by have := HQ.out; omega), show q - WS'.length = 0 by have := HQ.out; omega]; rfl
                have HOLD := Lib.hid (show wordsF (l.take (i + 1)) = WS' ++ [x] ∧ cntsU (l.take (i + 1)) = CS.set q (cntW (l.take i) x + m) from ⟨by rw [HTK.out, wordsF_snoc, if_pos (List.mem_of_getElem? hwm), HWS.out], by rw [HTK.out, cntsU_old (p := ((x, sc), lines)) hwm, HCS.out, HM.out]⟩)
                have hcv : CS[q]? = some (cntW (l.take i) x) := by rw [← HCS.out]; unfold cntsU; rw [List.getElem?_map, hwm]; rfl
                have hcb : cntW (l.take i) x ≤ 100000 := by
                  have a := cntW_le (l.take i) x
                  have b := countL_small (l := l.take i) (fun p hp => (validB_parts (HVL.out p (List.mem_of_mem_take hp))).2.2.1)
                  rw [List.length_take] at b
                  have := HLN.out
                  have hb2 : min i l.length * 4096 ≤ 12 * 4096 := Nat.mul_le_mul_right _ (by omega)
                  omega
                obtain ⟨cv, hcw⟩ : ∃ y, cntW (l.take i) x = y := ⟨_, rfl⟩
                rw [hcw] at HOLD hcv hcb
                have q1 : (x == x) = true := by simp
                clear hcw hwm
                go_wp2_with (fail)
                refine (wpIn_wide (n := 20)).1 ?_
                refine wpIn_region_planN (fun W' => Below W.heap.size W W') (.take 0 <| .take 1 <| .take 2 <| .take 3 <| .take 4 <| .take 5 <| .take 6 <| .take 7 <| .take 8 <| .take 9 <| .take 10 <| .take 11 <| .take 12 <| .take 13 <| .take 14 <| .take 15 <| .take 16 .fin) (fun _ => trivial) (by kernel_rfl) (by kernel_rfl) (show Below _ W _ from bdrewN _ 1) ?_
                iterate 4
                  apply plan_take rfl rfl (by rfl)
                  case hy =>
                    rintro W' hb'
                    clear hb'
                    go_simp
                    first | done | with_reducible rfl
                  simp only [List.setIfInBounds_toArray, List.set_cons_zero, List.set_cons_succ]
                iterate 5
                  apply plan_gd (j := 3) (t := 32) (b := true) (c := true) rfl rfl rfl rfl rfl (by simp) rfl
                  case hy =>
                    rintro W' hb'
                    clear hb'
                    go_simp
                    first | done | with_reducible rfl
                  simp only [List.setIfInBounds_toArray, List.set_cons_zero, List.set_cons_succ]
                apply plan_gd (j := 3) (t := 32) (b := true) (c := true) rfl rfl rfl rfl rfl (by simp) rfl
                case hy =>
                  rintro W' hb'
                  have x0 := cell_keep hb' HCX.out
                  have x1 := cell_keep hb' HD0.out
                  clear hb'
                  go_simp
                  first | done | with_reducible rfl
                simp only [List.setIfInBounds_toArray, List.set_cons_zero, List.set_cons_succ]
                iterate 4
                  apply plan_gd (j := 3) (t := 32) (b := true) (c := true) rfl rfl rfl rfl rfl (by simp) rfl
                  case hy =>
                    rintro W' hb'
                    clear hb'
                    go_simp
                    first | done | with_reducible rfl
                  simp only [List.setIfInBounds_toArray, List.set_cons_zero, List.set_cons_succ]
                apply plan_gd (j := 3) (t := 32) (b := true) (c := true) rfl rfl rfl rfl rfl (by simp) rfl
                case hy =>
                  rintro W' hb'
                  have x0 := cell_keep hb' HCX.out
                  have x1 := cell_keep hb' HD0.out
                  clear hb'
                  go_simp
                  first | done | with_reducible rfl
                simp only [List.setIfInBounds_toArray, List.set_cons_zero, List.set_cons_succ]
                apply plan_gd (j := 3) (t := 32) (b := true) (c := true) rfl rfl rfl rfl rfl (by simp) rfl
                case hy =>
                  rintro W' hb'
                  clear hb'
                  go_simp
                  first | done | with_reducible rfl
                simp only [List.setIfInBounds_toArray, List.set_cons_zero, List.set_cons_succ]
                apply plan_take rfl rfl (by rfl)
                case hy =>
                  rintro W' hb'
                  clear hb'
                  go_simp
                  first | done | with_reducible rfl
                simp only [List.setIfInBounds_toArray, List.set_cons_zero, List.set_cons_succ]
                refine plan_fin ?_
                gi_wp2_with (fail)
                obtain ⟨D, hD⟩ : ∃ D, W.drew = D := ⟨_, rfl⟩
                rw [hD] at HRD HE0 HE2
                change Code.wp _ _ _ _ (World.drew W)
                rw [hD]
                clear hD
                have HRE := Lib.hid (show FsJ w B _ _ _ _ D.drew from HRD.out.down (bdrewN D 1))
                have HG1 := Lib.hid (show D.drew.cell? ⟨bc, q, none⟩ = some (encN cv) ∧ D.drew.frozen? ⟨bc, q, none⟩ = false from (own_cell HRE.out.cnt).2 q (encN cv) (by rw [List.getElem?_map, hcv]; rfl))
                have HG2 := Lib.hid (show D.drew.cell? ⟨pb, off + i * 3 + 2, none⟩ = some (.slice a1 m k1) from HE2.out)
                have HST := Lib.hid (FsI.set (k := q) (z := cv + m) (by decide) HRE.out)
                have w2 : IntKind.i64.wrap ((cv : Int) + (m : Int)) = (cv : Int) + (m : Int) := IntWalk.i64_in _ (by omega)
                go_wp2_with (fail)
                refine (wpIn_wide (n := 20)).1 ?_
                refine wpIn_region_heldA (fun W' => W'.cell? ⟨bc, q, none⟩ = some (encN cv) ∧ W'.cell? ⟨pb, off + i * 3 + 2, none⟩ = some (.slice a1 m k1)) 18 1 [0, 1, 2, 3, 4, 5, 6, 7, 8, 9, 10, 11, 12, 13, 14, 15, 16, 17] _ (fun _ => trivial) (by kernel_rfl) (by kernel_rfl) rfl rfl ⟨HG1.out.1, HG2.out⟩ ?_
                iterate 18
                  apply wpTakes_consD rfl rfl (by rfl)
                  case hy =>
                    rintro W' ⟨x0, x1⟩
                    unfold encN at x0
                    go_simp
                    first | done | with_reducible rfl
                  simp only [List.setIfInBounds_toArray, List.set_cons_zero, List.set_cons_succ]
                refine wpTakes_nil ?_
                refine wpAnyR_rest [18] (by kernel_rfl) ?_
                have g1 := HG1.out.1
                have g2 := HG1.out.2
                unfold encN at g1
                refine wpSeqR_cons rfl ?_
                gi_wp2_with (fail)
                refine ⟨fun h => absurd h (by omega), ?_⟩
                refine wpSeqR_nilN ?_
                clear g1 g2
                gi_wp2_with (fail)
                go_wp2_with (fail)
                exact ⟨⟨i + 1, by omega, by simp, by rw [HOLD.out.1, HOLD.out.2]; exact HST.out⟩, by simp [intOf]; omega⟩
              · have HN := Lib.hid (HNEW.out (fun h => by
                  have h2 := (wordsF_last HPW.out).1 (by rw [HWS.out]; exact h)
                  rw [HWS.out] at h2
                  simp only [List.getLast?_append, List.getLast?_singleton, Option.some_or, Option.some.injEq] at h2
                  exact hxw h2))
                have q1 : (x == wd) = false := by rw [beq_eq_false_iff_ne]; exact hxw
                clear hxw
                go_wp2_with (fail)
                refine (wpIn_wide (n := 20)).1 ?_
                refine wpIn_region_planN (fun W' => Below W.heap.size W W') (.take 0 <| .take 1 <| .take 2 <| .take 3 <| .take 4 <| .take 5 <| .take 6 <| .take 7 <| .take 8 <| .take 9 <| .take 10 <| .take 11 <| .take 12 <| .take 13 <| .take 14 <| .take 15 <| .take 16 .fin) (fun _ => trivial) (by kernel_rfl) (by kernel_rfl) (show Below _ W _ from bdrewN _ 1) ?_
                iterate 4
                  apply plan_take rfl rfl (by rfl)
                  case hy =>
                    rintro W' hb'
                    clear hb'
                    go_simp
                    first | done | with_reducible rfl
                  simp only [List.setIfInBounds_toArray, List.set_cons_zero, List.set_cons_succ]
                iterate 5
                  apply plan_gd (j := 3) (t := 32) (b := true) (c := true) rfl rfl rfl rfl rfl (by simp) rfl
                  case hy =>
                    rintro W' hb'
                    clear hb'
                    go_simp
                    first | done | with_reducible rfl
                  simp only [List.setIfInBounds_toArray, List.set_cons_zero, List.set_cons_succ]
                apply plan_gd (j := 3) (t := 32) (b := true) (c := true) rfl rfl rfl rfl rfl (by simp) rfl
                case hy =>
                  rintro W' hb'
                  have x0 := cell_keep hb' HCX.out
                  have x1 := cell_keep hb' HD0.out
                  clear hb'
                  go_simp
                  first | done | with_reducible rfl
                simp only [List.setIfInBounds_toArray, List.set_cons_zero, List.set_cons_succ]
                iterate 4
                  apply plan_gd (j := 3) (t := 32) (b := true) (c := true) rfl rfl rfl rfl rfl (by simp) rfl
                  case hy =>
                    rintro W' hb'
                    clear hb'
                    go_simp
                    first | done | with_reducible rfl
                  simp only [List.setIfInBounds_toArray, List.set_cons_zero, List.set_cons_succ]
                apply plan_gd (j := 3) (t := 32) (b := true) (c := true) rfl rfl rfl rfl rfl (by simp) rfl
                case hy =>
                  rintro W' hb'
                  have x0 := cell_keep hb' HCX.out
                  have x1 := cell_keep hb' HD0.out
                  clear hb'
                  go_simp
                  first | done | with_reducible rfl
                simp only [List.setIfInBounds_toArray, List.set_cons_zero, List.set_cons_succ]
                apply plan_gd (j := 3) (t := 32) (b := true) (c := true) rfl rfl rfl rfl rfl (by simp) rfl
                case hy =>
                  rintro W' hb'
                  clear hb'
                  go_simp
                  first | done | with_reducible rfl
                simp only [List.setIfInBounds_toArray, List.set_cons_zero, List.set_cons_succ]
                apply plan_take rfl rfl (by rfl)
                case hy =>
                  rintro W' hb'
                  clear hb'
                  go_simp
                  first | done | with_reducible rfl
                simp only [List.setIfInBounds_toArray, List.set_cons_zero, List.set_cons_succ]
                refine plan_fin ?_
                gi_wp2_with (fail)
                obtain ⟨D, hD⟩ : ∃ D, W.drew = D := ⟨_, rfl⟩
                rw [hD] at HRD HE0 HE2
                change Code.wp _ _ _ _ (World.drew W)
                rw [hD]
                have e0 := HE0.out
                clear hD
                have hsD := HRD.out.base
                have hwl := HWL.out
                have hcl : CS.length ≤ 12 := by have := HCU.out; omega
                have HNW1 := Lib.hid (show ∀ (j : Nat) (u : Value), [.string (bs wd)][j]? = some u → (D.alloc (.cells #[.string (bs wd)] 9)).cell? ((⟨D.heap.size, 0, none⟩ : Addr).add j) = some u from World.news_of_block (cs := #[.string (bs wd)]) (heap_fresh rfl))
                go_wp2_with (at_builtin; first
                  | (refine wpList_append_own _ rfl _ _ 22 rfl B 9 i8 (.string { data := #[] }) 1 16 Tryz.underlying22 hi8 hx0 hx1 hx2 rfl (by decide) _ _ _ rfl (World.ownsRow.alloc HRD.out.wrd _) ⟨D.heap.size, 0, none⟩ 1 1 [.string (bs wd)] rfl rfl HNW1.out (by simp [Value.oneCell']) (by unfold maxLen; omega) (by omega) (by simp; omega) ?_; intro v9 w4 hown1 hgrow1 _; have HF1 := Lib.hid (FsI.word (by decide) HRD.out hown1 hgrow1); have d2 := Go.Ap.cell_kept (Nat.le_of_eq HBE.out) HF1.out.below HC2.out; have hs4 := HF1.out.base; have HNW2 := Lib.hid (show ∀ (j : Nat) (u : Value), [encN m][j]? = some u → (w4.alloc (.cells #[encN m] 3)).cell? ((⟨w4.heap.size, 0, none⟩ : Addr).add j) = some u from World.news_of_block (cs := #[encN m]) (heap_fresh rfl)); clear hown1 hgrow1)
                  | (refine wpList_append_own _ rfl _ _ 26 rfl B 3 i9 (.int .i64 0) 1 8 Tryz.underlying26 hi9 hy0 hy1 hy2 rfl (by decide) _ _ _ rfl (World.ownsRow.alloc HF1.out.cnt _) ⟨w4.heap.size, 0, none⟩ 1 1 [encN m] rfl rfl HNW2.out (by simp [Value.oneCell', encN]) (by unfold maxLen; omega) (by omega) (by simp; omega) ?_; intro v8 w5 hown2 hgrow2 _; have HF2 := Lib.hid (FsI.count (by decide) HF1.out hown2 hgrow2); clear hown2 hgrow2))
                exact ⟨⟨i + 1, by omega, by simp, by rw [HN.out.1, HN.out.2]; exact HF2.out⟩, by simp [intOf]; omega⟩
          · have hi : i = n := by omega
            have e0 : l.take i = l := List.take_of_length_le (by have := HLN.out; omega)
            rw [e0] at hr
            clear HR hi
            obtain ⟨a6, c6, rfl⟩ := own_shape hr.wrd
            obtain ⟨a7, c7, rfl⟩ := own_shape hr.cnt
            obtain ⟨m, hm⟩ : ∃ m, (wordsF l).length = m := ⟨_, rfl⟩
            have hcm : (cntsU l).length = m := by rw [cntsU_len, hm]
            rw [hcm] at hr ⊢
            rw [hm] at hr ⊢
            have HM := Lib.hid hm
            have HNE := Lib.hid (show ∀ p ∈ l, p.2 ≠ [] from fun p hp => (validB_ne (HVL.out p hp)))
            have hm12 : m ≤ 12 := by have := wordsF_len l; have := HLN.out; omega
            have HFM := Lib.hid (show (freqS l).length = m by rw [freqS_len]; exact hm)
            obtain ⟨B', hB'⟩ : ∃ B', W.heap.size = B' := ⟨_, rfl⟩
            have HBP := Lib.hid hB'
            have HO0 := Lib.hid (show FoJ w B B' (wordsF l) (leftC l 0) ((freqS l).take 0) (.slice a6 m c6) (.slice a7 m c7) (.slice (some ⟨W.heap.size, 0, none⟩) 0 0) (W.alloc (.cells #[] 9)) from by
              have k1 := balloc W (.cells #[] 9)
              have h1 := hr.down k1
              rw [leftC_zero]
              exact ⟨h1, fun k hk => by rw [← hB']; exact (hr.wrd.lt k hk).2, by simp; omega, by rw [← hB']; exact hr.base, World.ownsRow_made W #[] 0 (by omega) (by simp [maxLen]) rfl⟩)
            clear hr hm hcm hB' e0
            go_wp2_with (fail)
            go_loopw [9] (fun vo wr => ∃ j : Nat, j ≤ m ∧ j ≤ k ∧ FoJ w B B' (wordsF l) (leftC l j) ((freqS l).take j) (.slice a6 m c6) (.slice a7 m c7) vo wr) (fun vo _ => m - lenV vo)
            case atStart => exact ⟨0, Nat.zero_le _, Nat.zero_le _, HO0.out⟩
            case round =>
              obtain ⟨X, rfl⟩ : ∃ X : World, X = wr := ⟨_, rfl⟩
              obtain ⟨j, hjm, hjk, ho⟩ := hrel
              obtain ⟨ao, co, rfl⟩ := own_shape ho.out
              have ejl : ((freqS l).take j).length = j := by rw [List.length_take, HFM.out]; omega
              rw [ejl] at ho ⊢
              have HO := Lib.hid ho
              have HEJ := Lib.hid ejl
              clear ho ejl HO0
              by_cases hjk2 : j < k
              · by_cases hjm2 : j < m
                · obtain ⟨b6, rfl⟩ := own_addr HO.out.core.wrd (by rw [HM.out]; omega)
                  obtain ⟨b7, rfl⟩ := own_addr HO.out.core.cnt (by rw [leftC_len, HM.out]; omega)
                  go_wp2_with (fail)
                  go_loopw [10, 11] (fun bv iv wr => ∃ (i : Nat) (b : Int), i ≤ m ∧ bv = .int .i64 b ∧ iv = .int .i64 i ∧ BestI (leftA l j) i b ∧ FoJ w B B' (wordsF l) (leftC l j) ((freqS l).take j) (.slice (some ⟨b6, 0, none⟩) m c6) (.slice (some ⟨b7, 0, none⟩) m c7) (.slice ao j co) wr) (fun _ iv _ => m - (intOf iv).toNat)
                  case atStart => exact ⟨0, -1, Nat.zero_le _, rfl, rfl, BestI.zero _, HO.out⟩
                  case round =>
                    obtain ⟨Y, rfl⟩ : ∃ Y : World, Y = wr := ⟨_, rfl⟩
                    obtain ⟨q, b, hqm, rfl, rfl, hbest, ho⟩ := hrel
                    have HBS := Lib.hid hbest
                    have HOY := Lib.hid ho
                    clear ho HO
                    by_cases hq : q < m
                    · have q1 : (q : Int) < (m : Int) := by omega
                      obtain ⟨cv, hcv⟩ : ∃ y, leftA l j q = y := ⟨_, rfl⟩
                      have HCV := Lib.hid hcv
                      have HCI := Lib.hid (show Y.cell? ⟨b7, q, none⟩ = some (.int .i64 ((cv : Nat) : Int)) from ((own_cell HOY.out.core.cnt).2 q (encN cv) (by rw [List.getElem?_map, leftA_at (by rw [HM.out]; exact hq), hcv]; rfl)).1)
                      rcases hbest.rng with hb1 | ⟨kb, hb1, hkb⟩
                      · subst hb1
                        clear hbest hcv
                        rcases Nat.eq_zero_or_pos cv with hz | hz
                        · subst hz
                          go_wp2_with (fail)
                          refine (wpIn_wide (n := 20)).1 ?_
                          refine wpIn_region_planN (fun W' => Below Y.heap.size Y W') (.take 0 <| .take 1 <| .take 2 <| .take 3 <| .take 4 <| .take 5 <| .take 6 <| .take 7 <| .take 8 <| .take 9 <| .take 10 <| .take 11 <| .take 12 <| .take 13 <| .take 14 <| .take 15 <| .take 16 <| .take 17 <| .take 18 <| .take 19 .fin) (fun _ => trivial) (by kernel_rfl) (by kernel_rfl) (show Below _ Y _ from bdrewN _ 1) ?_
                          iterate 3
                            apply plan_take rfl rfl (by rfl)
                            case hy =>
                              rintro W' hb'
                              clear hb'
                              go_simp
                              first | done | with_reducible rfl
                            simp only [List.setIfInBounds_toArray, List.set_cons_zero, List.set_cons_succ]
                          apply plan_take rfl rfl (by rfl)
                          case hy =>
                            rintro W' hb'
                            have x0 := cell_keep hb' HCI.out
                            clear hb'
                            go_simp
                            first | done | with_reducible rfl
                          simp only [List.setIfInBounds_toArray, List.set_cons_zero, List.set_cons_succ]
                          iterate 2
                            apply plan_take rfl rfl (by rfl)
                            case hy =>
                              rintro W' hb'
                              clear hb'
                              go_simp
                              first | done | with_reducible rfl
                            simp only [List.setIfInBounds_toArray, List.set_cons_zero, List.set_cons_succ]
                          iterate 3
                            apply plan_no (j := 5) (t := 104) (b := false) (c := true) rfl rfl rfl rfl rfl (by simp) rfl
                            simp only [List.setIfInBounds_toArray, List.set_cons_zero, List.set_cons_succ]
                          iterate 9
                            apply plan_un (j := 8) (t := 107) rfl rfl rfl rfl rfl (by simp)
                            simp only [List.setIfInBounds_toArray, List.set_cons_zero, List.set_cons_succ]
                          apply plan_no (j := 5) (t := 104) (b := false) (c := true) rfl rfl rfl rfl rfl (by simp) rfl
                          simp only [List.setIfInBounds_toArray, List.set_cons_zero, List.set_cons_succ]
                          apply plan_take rfl rfl (by rfl)
                          case hy =>
                            rintro W' hb'
                            clear hb'
                            go_simp
                            first | done | with_reducible rfl
                          simp only [List.setIfInBounds_toArray, List.set_cons_zero, List.set_cons_succ]
                          refine plan_fin ?_
                          gi_wp2_with (fail)
                          have HOD := Lib.hid (show FoJ w B B' (wordsF l) (leftC l j) ((freqS l).take j) (.slice (some ⟨b6, 0, none⟩) m c6) (.slice (some ⟨b7, 0, none⟩) m c7) (.slice ao j co) Y.drew from HOY.out.down (bdrewN Y 1))
                          change Code.wp _ _ _ _ (World.drew Y)
                          obtain ⟨D, hD⟩ : ∃ D, Y.drew = D := ⟨_, rfl⟩
                          rw [hD] at HOD ⊢
                          clear hD
                          go_wp2_with (fail)
                          exact ⟨⟨q + 1, -1, by omega, by simp, by simp, HBS.out.none0 HCV.out, HOD.out⟩, by simp [intOf]; omega⟩
                        · have z1 : (0 : Int) < (cv : Int) := by omega
                          have z2 : decide ((0 : Int) < (cv : Int)) = true := decide_eq_true z1
                          have z3 : decide ((-1 : Int) < 0) = true := rfl
                          go_wp2_with (fail)
                          refine (wpIn_wide (n := 20)).1 ?_
                          refine wpIn_region_planN (fun W' => Below Y.heap.size Y W') (.take 0 <| .take 1 <| .take 2 <| .take 3 <| .take 4 <| .take 5 <| .take 6 <| .take 7 <| .take 8 <| .take 9 <| .take 10 <| .take 11 <| .take 12 <| .take 13 <| .take 14 <| .take 15 <| .take 16 <| .take 17 <| .take 18 <| .take 19 .fin) (fun _ => trivial) (by kernel_rfl) (by kernel_rfl) (show Below _ Y _ from bdrewN _ 1) ?_
                          iterate 3
                            apply plan_take rfl rfl (by rfl)
                            case hy =>
                              rintro W' hb'
                              clear hb'
                              go_simp
                              first | done | with_reducible rfl
                            simp only [List.setIfInBounds_toArray, List.set_cons_zero, List.set_cons_succ]
                          apply plan_take rfl rfl (by rfl)
                          case hy =>
                            rintro W' hb'
                            have x0 := cell_keep hb' HCI.out
                            clear hb'
                            go_simp
                            first | done | with_reducible rfl
                          simp only [List.setIfInBounds_toArray, List.set_cons_zero, List.set_cons_succ]
                          iterate 2
                            apply plan_take rfl rfl (by rfl)
                            case hy =>
                              rintro W' hb'
                              clear hb'
                              go_simp
                              first | done | with_reducible rfl
                            simp only [List.setIfInBounds_toArray, List.set_cons_zero, List.set_cons_succ]
                          iterate 3
                            apply plan_gd (j := 5) (t := 104) (b := true) (c := true) rfl rfl rfl rfl rfl (by simp) rfl
                            case hy =>
                              rintro W' hb'
                              clear hb'
                              go_simp
                              first | done | with_reducible rfl
                            simp only [List.setIfInBounds_toArray, List.set_cons_zero, List.set_cons_succ]
                          iterate 9
                            apply plan_no (j := 8) (t := 107) (b := true) (c := false) rfl rfl rfl rfl rfl (by simp) rfl
                            simp only [List.setIfInBounds_toArray, List.set_cons_zero, List.set_cons_succ]
                          apply plan_gd (j := 5) (t := 104) (b := true) (c := true) rfl rfl rfl rfl rfl (by simp) rfl
                          case hy =>
                            rintro W' hb'
                            clear hb'
                            go_simp
                            first | done | with_reducible rfl
                          simp only [List.setIfInBounds_toArray, List.set_cons_zero, List.set_cons_succ]
                          apply plan_take rfl rfl (by rfl)
                          case hy =>
                            rintro W' hb'
                            clear hb'
                            go_simp
                            first | done | with_reducible rfl
                          simp only [List.setIfInBounds_toArray, List.set_cons_zero, List.set_cons_succ]
                          refine plan_fin ?_
                          gi_wp2_with (fail)
                          have HOD := Lib.hid (show FoJ w B B' (wordsF l) (leftC l j) ((freqS l).take j) (.slice (some ⟨b6, 0, none⟩) m c6) (.slice (some ⟨b7, 0, none⟩) m c7) (.slice ao j co) Y.drew from HOY.out.down (bdrewN Y 1))
                          change Code.wp _ _ _ _ (World.drew Y)
                          obtain ⟨D, hD⟩ : ∃ D, Y.drew = D := ⟨_, rfl⟩
                          rw [hD] at HOD ⊢
                          clear hD
                          go_wp2_with (fail)
                          exact ⟨⟨q + 1, q, by omega, by simp, by simp, HBS.out.first (by rw [HCV.out]; exact hz), HOD.out⟩, by simp [intOf]; omega⟩
                      · subst hb1
                        obtain ⟨dv, hdv⟩ : ∃ y, leftA l j kb = y := ⟨_, rfl⟩
                        have HDV := Lib.hid hdv
                        have HCK := Lib.hid (show Y.cell? ⟨b7, kb, none⟩ = some (.int .i64 ((dv : Nat) : Int)) from ((own_cell HOY.out.core.cnt).2 kb (encN dv) (by rw [List.getElem?_map, leftA_at (by rw [HM.out]; omega), hdv]; rfl)).1)
                        have k1 : (kb : Int) < (m : Int) := by omega
                        have k2 : ¬((kb : Int) < 0) := by omega
                        have k3 : decide ((kb : Int) < 0) = false := decide_eq_false k2
                        clear hbest hcv hdv
                        rcases Nat.eq_zero_or_pos cv with hz | hz
                        · subst hz
                          go_wp2_with (fail)
                          refine (wpIn_wide (n := 20)).1 ?_
                          refine wpIn_region_planN (fun W' => Below Y.heap.size Y W') (.take 0 <| .take 1 <| .take 2 <| .take 3 <| .take 4 <| .take 5 <| .take 6 <| .take 7 <| .take 8 <| .take 9 <| .take 10 <| .take 11 <| .take 12 <| .take 13 <| .take 14 <| .take 15 <| .take 16 <| .take 17 <| .take 18 <| .take 19 .fin) (fun _ => trivial) (by kernel_rfl) (by kernel_rfl) (show Below _ Y _ from bdrewN _ 1) ?_
                          iterate 3
                            apply plan_take rfl rfl (by rfl)
                            case hy =>
                              rintro W' hb'
                              clear hb'
                              go_simp
                              first | done | with_reducible rfl
                            simp only [List.setIfInBounds_toArray, List.set_cons_zero, List.set_cons_succ]
                          apply plan_take rfl rfl (by rfl)
                          case hy =>
                            rintro W' hb'
                            have x0 := cell_keep hb' HCI.out
                            have x1 := cell_keep hb' HCK.out
                            clear hb'
                            go_simp
                            first | done | with_reducible rfl
                          simp only [List.setIfInBounds_toArray, List.set_cons_zero, List.set_cons_succ]
                          iterate 2
                            apply plan_take rfl rfl (by rfl)
                            case hy =>
                              rintro W' hb'
                              clear hb'
                              go_simp
                              first | done | with_reducible rfl
                            simp only [List.setIfInBounds_toArray, List.set_cons_zero, List.set_cons_succ]
                          iterate 3
                            apply plan_no (j := 5) (t := 104) (b := false) (c := true) rfl rfl rfl rfl rfl (by simp) rfl
                            simp only [List.setIfInBounds_toArray, List.set_cons_zero, List.set_cons_succ]
                          iterate 9
                            apply plan_un (j := 8) (t := 107) rfl rfl rfl rfl rfl (by simp)
                            simp only [List.setIfInBounds_toArray, List.set_cons_zero, List.set_cons_succ]
                          apply plan_no (j := 5) (t := 104) (b := false) (c := true) rfl rfl rfl rfl rfl (by simp) rfl
                          simp only [List.setIfInBounds_toArray, List.set_cons_zero, List.set_cons_succ]
                          apply plan_take rfl rfl (by rfl)
                          case hy =>
                            rintro W' hb'
                            clear hb'
                            go_simp
                            first | done | with_reducible rfl
                          simp only [List.setIfInBounds_toArray, List.set_cons_zero, List.set_cons_succ]
                          refine plan_fin ?_
                          gi_wp2_with (fail)
                          have HOD := Lib.hid (show FoJ w B B' (wordsF l) (leftC l j) ((freqS l).take j) (.slice (some ⟨b6, 0, none⟩) m c6) (.slice (some ⟨b7, 0, none⟩) m c7) (.slice ao j co) Y.drew from HOY.out.down (bdrewN Y 1))
                          change Code.wp _ _ _ _ (World.drew Y)
                          obtain ⟨D, hD⟩ : ∃ D, Y.drew = D := ⟨_, rfl⟩
                          rw [hD] at HOD ⊢
                          clear hD
                          go_wp2_with (fail)
                          exact ⟨⟨q + 1, kb, by omega, by simp, by simp, HBS.out.none0 HCV.out, HOD.out⟩, by simp [intOf]; omega⟩
                        · have z1 : (0 : Int) < (cv : Int) := by omega
                          have z2 : decide ((0 : Int) < (cv : Int)) = true := decide_eq_true z1
                          by_cases hdc : dv < cv
                          · have z4 : (dv : Int) < (cv : Int) := by omega
                            have z5 : decide ((dv : Int) < (cv : Int)) = true := decide_eq_true z4
                            go_wp2_with (fail)
                            refine (wpIn_wide (n := 20)).1 ?_
                            refine wpIn_region_planN (fun W' => Below Y.heap.size Y W') (.take 0 <| .take 1 <| .take 2 <| .take 3 <| .take 4 <| .take 5 <| .take 6 <| .take 7 <| .take 8 <| .take 9 <| .take 10 <| .take 11 <| .take 12 <| .take 13 <| .take 14 <| .take 15 <| .take 16 <| .take 17 <| .take 18 <| .take 19 .fin) (fun _ => trivial) (by kernel_rfl) (by kernel_rfl) (show Below _ Y _ from bdrewN _ 1) ?_
                            iterate 3
                              apply plan_take rfl rfl (by rfl)
                              case hy =>
                                rintro W' hb'
                                clear hb'
                                go_simp
                                first | done | with_reducible rfl
                              simp only [List.setIfInBounds_toArray, List.set_cons_zero, List.set_cons_succ]
                            apply plan_take rfl rfl (by rfl)
                            case hy =>
                              rintro W' hb'
                              have x0 := cell_keep hb' HCI.out
                              have x1 := cell_keep hb' HCK.out
                              clear hb'
                              go_simp
                              first | done | with_reducible rfl
                            simp only [List.setIfInBounds_toArray, List.set_cons_zero, List.set_cons_succ]
                            iterate 2
                              apply plan_take rfl rfl (by rfl)
                              case hy =>
                                rintro W' hb'
                                clear hb'
                                go_simp
                                first | done | with_reducible rfl
                              simp only [List.setIfInBounds_toArray, List.set_cons_zero, List.set_cons_succ]
                            iterate 3
                              apply plan_gd (j := 5) (t := 104) (b := true) (c := true) rfl rfl rfl rfl rfl (by simp) rfl
                              case hy =>
                                rintro W' hb'
                                clear hb'
                                go_simp
                                first | done | with_reducible rfl
                              simp only [List.setIfInBounds_toArray, List.set_cons_zero, List.set_cons_succ]
                            iterate 3
                              apply plan_gd (j := 8) (t := 107) (b := false) (c := false) rfl rfl rfl rfl rfl (by simp) rfl
                              case hy =>
                                rintro W' hb'
                                clear hb'
                                go_simp
                                first | done | with_reducible rfl
                              simp only [List.setIfInBounds_toArray, List.set_cons_zero, List.set_cons_succ]
                            apply plan_gd (j := 8) (t := 107) (b := false) (c := false) rfl rfl rfl rfl rfl (by simp) rfl
                            case hy =>
                              rintro W' hb'
                              have x0 := cell_keep hb' HCI.out
                              have x1 := cell_keep hb' HCK.out
                              clear hb'
                              go_simp
                              first | done | with_reducible rfl
                            simp only [List.setIfInBounds_toArray, List.set_cons_zero, List.set_cons_succ]
                            iterate 3
                              apply plan_gd (j := 8) (t := 107) (b := false) (c := false) rfl rfl rfl rfl rfl (by simp) rfl
                              case hy =>
                                rintro W' hb'
                                clear hb'
                                go_simp
                                first | done | with_reducible rfl
                              simp only [List.setIfInBounds_toArray, List.set_cons_zero, List.set_cons_succ]
                            apply plan_gd (j := 8) (t := 107) (b := false) (c := false) rfl rfl rfl rfl rfl (by simp) rfl
                            case hy =>
                              rintro W' hb'
                              have x0 := cell_keep hb' HCI.out
                              have x1 := cell_keep hb' HCK.out
                              clear hb'
                              go_simp
                              first | done | with_reducible rfl
                            simp only [List.setIfInBounds_toArray, List.set_cons_zero, List.set_cons_succ]
                            apply plan_gd (j := 8) (t := 107) (b := false) (c := false) rfl rfl rfl rfl rfl (by simp) rfl
                            case hy =>
                              rintro W' hb'
                              clear hb'
                              go_simp
                              first | done | with_reducible rfl
                            simp only [List.setIfInBounds_toArray, List.set_cons_zero, List.set_cons_succ]
                            apply plan_gd (j := 5) (t := 104) (b := true) (c := true) rfl rfl rfl rfl rfl (by simp) rfl
                            case hy =>
                              rintro W' hb'
                              clear hb'
                              go_simp
                              first | done | with_reducible rfl
                            simp only [List.setIfInBounds_toArray, List.set_cons_zero, List.set_cons_succ]
                            apply plan_take rfl rfl (by rfl)
                            case hy =>
                              rintro W' hb'
                              clear hb'
                              go_simp
                              first | done | with_reducible rfl
                            simp only [List.setIfInBounds_toArray, List.set_cons_zero, List.set_cons_succ]
                            refine plan_fin ?_
                            gi_wp2_with (fail)
                            have HOD := Lib.hid (show FoJ w B B' (wordsF l) (leftC l j) ((freqS l).take j) (.slice (some ⟨b6, 0, none⟩) m c6) (.slice (some ⟨b7, 0, none⟩) m c7) (.slice ao j co) Y.drew from HOY.out.down (bdrewN Y 1))
                            change Code.wp _ _ _ _ (World.drew Y)
                            obtain ⟨D, hD⟩ : ∃ D, Y.drew = D := ⟨_, rfl⟩
                            rw [hD] at HOD ⊢
                            clear hD
                            go_wp2_with (fail)
                            exact ⟨⟨q + 1, q, by omega, by simp, by simp, HBS.out.more (by rw [HCV.out, HDV.out]; exact hdc), HOD.out⟩, by simp [intOf]; omega⟩
                          · have z4 : ¬(dv : Int) < (cv : Int) := by omega
                            have z5 : decide ((dv : Int) < (cv : Int)) = false := decide_eq_false z4
                            go_wp2_with (fail)
                            refine (wpIn_wide (n := 20)).1 ?_
                            refine wpIn_region_planN (fun W' => Below Y.heap.size Y W') (.take 0 <| .take 1 <| .take 2 <| .take 3 <| .take 4 <| .take 5 <| .take 6 <| .take 7 <| .take 8 <| .take 9 <| .take 10 <| .take 11 <| .take 12 <| .take 13 <| .take 14 <| .take 15 <| .take 16 <| .take 17 <| .take 18 <| .take 19 .fin) (fun _ => trivial) (by kernel_rfl) (by kernel_rfl) (show Below _ Y _ from bdrewN _ 1) ?_
                            iterate 3
                              apply plan_take rfl rfl (by rfl)
                              case hy =>
                                rintro W' hb'
                                clear hb'
                                go_simp
                                first | done | with_reducible rfl
                              simp only [List.setIfInBounds_toArray, List.set_cons_zero, List.set_cons_succ]
                            apply plan_take rfl rfl (by rfl)
                            case hy =>
                              rintro W' hb'
                              have x0 := cell_keep hb' HCI.out
                              have x1 := cell_keep hb' HCK.out
                              clear hb'
                              go_simp
                              first | done | with_reducible rfl
                            simp only [List.setIfInBounds_toArray, List.set_cons_zero, List.set_cons_succ]
                            iterate 2
                              apply plan_take rfl rfl (by rfl)
                              case hy =>
                                rintro W' hb'
                                clear hb'
                                go_simp
                                first | done | with_reducible rfl
                              simp only [List.setIfInBounds_toArray, List.set_cons_zero, List.set_cons_succ]
                            iterate 3
                              apply plan_gd (j := 5) (t := 104) (b := true) (c := true) rfl rfl rfl rfl rfl (by simp) rfl
                              case hy =>
                                rintro W' hb'
                                clear hb'
                                go_simp
                                first | done | with_reducible rfl
                              simp only [List.setIfInBounds_toArray, List.set_cons_zero, List.set_cons_succ]
                            iterate 3
                              apply plan_gd (j := 8) (t := 107) (b := false) (c := false) rfl rfl rfl rfl rfl (by simp) rfl
                              case hy =>
                                rintro W' hb'
                                clear hb'
                                go_simp
                                first | done | with_reducible rfl
                              simp only [List.setIfInBounds_toArray, List.set_cons_zero, List.set_cons_succ]
                            apply plan_gd (j := 8) (t := 107) (b := false) (c := false) rfl rfl rfl rfl rfl (by simp) rfl
                            case hy =>
                              rintro W' hb'
                              have x0 := cell_keep hb' HCI.out
                              have x1 := cell_keep hb' HCK.out
                              clear hb'
                              go_simp
                              first | done | with_reducible rfl
                            simp only [List.setIfInBounds_toArray, List.set_cons_zero, List.set_cons_succ]
                            iterate 3
                              apply plan_gd (j := 8) (t := 107) (b := false) (c := false) rfl rfl rfl rfl rfl (by simp) rfl
                              case hy =>
                                rintro W' hb'
                                clear hb'
                                go_simp
                                first | done | with_reducible rfl
                              simp only [List.setIfInBounds_toArray, List.set_cons_zero, List.set_cons_succ]
                            apply plan_gd (j := 8) (t := 107) (b := false) (c := false) rfl rfl rfl rfl rfl (by simp) rfl
                            case hy =>
                              rintro W' hb'
                              have x0 := cell_keep hb' HCI.out
                              have x1 := cell_keep hb' HCK.out
                              clear hb'
                              go_simp
                              first | done | with_reducible rfl
                            simp only [List.setIfInBounds_toArray, List.set_cons_zero, List.set_cons_succ]
                            apply plan_gd (j := 8) (t := 107) (b := false) (c := false) rfl rfl rfl rfl rfl (by simp) rfl
                            case hy =>
                              rintro W' hb'
                              clear hb'
                              go_simp
                              first | done | with_reducible rfl
                            simp only [List.setIfInBounds_toArray, List.set_cons_zero, List.set_cons_succ]
                            apply plan_gd (j := 5) (t := 104) (b := true) (c := true) rfl rfl rfl rfl rfl (by simp) rfl
                            case hy =>
                              rintro W' hb'
                              clear hb'
                              go_simp
                              first | done | with_reducible rfl
                            simp only [List.setIfInBounds_toArray, List.set_cons_zero, List.set_cons_succ]
                            apply plan_take rfl rfl (by rfl)
                            case hy =>
                              rintro W' hb'
                              clear hb'
                              go_simp
                              first | done | with_reducible rfl
                            simp only [List.setIfInBounds_toArray, List.set_cons_zero, List.set_cons_succ]
                            refine plan_fin ?_
                            gi_wp2_with (fail)
                            have HOD := Lib.hid (show FoJ w B B' (wordsF l) (leftC l j) ((freqS l).take j) (.slice (some ⟨b6, 0, none⟩) m c6) (.slice (some ⟨b7, 0, none⟩) m c7) (.slice ao j co) Y.drew from HOY.out.down (bdrewN Y 1))
                            change Code.wp _ _ _ _ (World.drew Y)
                            obtain ⟨D, hD⟩ : ∃ D, Y.drew = D := ⟨_, rfl⟩
                            rw [hD] at HOD ⊢
                            clear hD
                            go_wp2_with (fail)
                            exact ⟨⟨q + 1, kb, by omega, by simp, by simp, HBS.out.less (by rw [HCV.out, HDV.out]; exact hdc), HOD.out⟩, by simp [intOf]; omega⟩
                    · have hqe : q = m := by omega
                      obtain ⟨kb, rfl, hkb, hword, hleft⟩ := best_next HNE.out HAS.out (j := j) (by rw [HFM.out]; exact hjm2) (b := b) (by rw [HM.out, ← hqe]; exact hbest)
                      have hkm : kb < m := by rw [← HM.out]; exact hkb
                      have k1 : (kb : Int) < (m : Int) := by omega
                      obtain ⟨x, hx⟩ : ∃ x, (freqS l)[j]'(by rw [HFM.out]; exact hjm2) = x := ⟨_, rfl⟩
                      have HWC := Lib.hid (show Y.cell? ⟨b6, kb, none⟩ = some (.string (bs x)) from ((own_cell HOY.out.core.wrd).2 kb (sv x) (by rw [List.getElem?_map, List.getElem?_eq_getElem hkb, hword, hx]; rfl)).1)
                      have HNX := Lib.hid (show (freqS l).take (j + 1) = (freqS l).take j ++ [x] from by rw [List.take_add_one, List.getElem?_eq_getElem (by rw [HFM.out]; exact hjm2), hx]; rfl)
                      have HLF := Lib.hid hleft
                      have HNW := Lib.hid (show ∀ (i : Nat) (u : Value), [.string (bs x)][i]? = some u → (Y.alloc (.cells #[.string (bs x)] 9)).cell? ((⟨Y.heap.size, 0, none⟩ : Addr).add i) = some u from World.news_of_block (cs := #[.string (bs x)]) (heap_fresh rfl))
                      have hbY := HOY.out.base
                      have hfl : ((freqS l).take j).length = j := HEJ.out
                      have HOO := Lib.hid (show Y.ownsRow B' 9 1 (.slice ao j co) j (((freqS l).take j).map sv) by have := HOY.out.out; rwa [hfl] at this)
                      have HJ := Lib.hid hjm2
                      have c0 := HWC.out
                      clear hbest HBS hkb hword hleft hx hfl hqe
                      go_wp2_with (at_builtin; (refine wpList_append_own _ rfl _ _ 22 rfl B' 9 i8 (.string { data := #[] }) 1 16 Tryz.underlying22 hi8 hx0 hx1 hx2 rfl (by decide) _ _ _ rfl (World.ownsRow.alloc HOO.out _) ⟨Y.heap.size, 0, none⟩ 1 1 [.string (bs x)] rfl rfl HNW.out (by simp [Value.oneCell']) (by unfold maxLen; omega) (by omega) (by simp; omega) ?_; intro v9 w4 hown1 hgrow1 _; have HF1 := Lib.hid (FoI.push (x := x) (by decide) HOY.out (by rw [HEJ.out]; exact hown1) hgrow1); have HG := Lib.hid ((own_cell HF1.out.core.cnt).2 kb (encN (leftA l j kb)) (by rw [List.getElem?_map, leftA_at (by rw [HM.out]; exact hkm)]; rfl)); have HF2 := Lib.hid (FoI.set (k := kb) (z := 0) (by decide) HF1.out); have HLV := Lib.hid (own_len HF1.out.out); have g0 := HG.out.1; have g1 := HG.out.2; clear hown1 hgrow1))
                      exact ⟨⟨j + 1, by omega, by omega, by rw [HNX.out, HLF.out]; exact HF2.out⟩, by have h1 := HLV.out; rw [List.length_append, HEJ.out, List.length_singleton] at h1; have h2 := HJ.out; simp only [lenV] at h1 ⊢; omega⟩
                · have HJE := Lib.hid (show j = m by omega)
                  have j1 : ¬ (j : Int) < (m : Int) := by omega
                  go_wp2_with (fail)
                  go_ret2
                  have HEL := Lib.hid (show FL = (freqS l).take j by rw [← HFL.out]; unfold freqL; rw [Int.toNat_natCast]; rw [List.take_of_length_le (by rw [HFM.out]; omega), List.take_of_length_le (by rw [HFM.out]; omega)])
                  rw [HEL.out]
                  refine ⟨_, rfl, fun _ => ⟨ao, co, by rw [HEJ.out]; rfl, ?_⟩, fun h => absurd rfl h, by rw [HBE.out]; exact HO.out.core.below⟩
                  have ho := HO.out.out
                  rw [HEJ.out] at ho ⊢
                  have h9 := strs_of_own (W := X) (base := B') (e := 9) (a := ao) (c := co) (xs := (freqS l).take j) (by rw [HEJ.out]; exact ho) (by rw [HEJ.out]; omega)
                  rw [HEJ.out] at h9
                  exact h9
              · have HJE := Lib.hid (show j = k by omega)
                have j1 : ¬ (j : Int) < (k : Int) := by omega
                go_wp2_with (fail)
                go_ret2
                have HEL := Lib.hid (show FL = (freqS l).take j by rw [← HFL.out]; unfold freqL; rw [Int.toNat_natCast]; rw [HJE.out])
                rw [HEL.out]
                refine ⟨_, rfl, fun _ => ⟨ao, co, by rw [HEJ.out]; rfl, ?_⟩, fun h => absurd rfl h, by rw [HBE.out]; exact HO.out.core.below⟩
                have ho := HO.out.out
                rw [HEJ.out] at ho ⊢
                have h9 := strs_of_own (W := X) (base := B') (e := 9) (a := ao) (c := co) (xs := (freqS l).take j) (by rw [HEJ.out]; exact ho) (by rw [HEJ.out]; omega)
                rw [HEJ.out] at h9
                exact h9
end Go.Proofs.YtngdmpkoedpgdaaGreatDoor
