import Derived.Test.YtngdmpkoedpgdaaGreatDoorPa5
import Derived.Test.YtngdmpkoedpgdaaGreatDoorU5
import Derived.Test.YtngdmpkoedpgdaaGreatDoorFr5
import Derived.Test.YtngdmpkoedpgdaaGreatDoorU1
import Derived.Test.YtngdmpkoedpgdaaGreatDoorIs

/-
  Parse (reference): what is kept while it runs.
-/



namespace Go.Ap
open Go Go.RowKit
theorem fold5_le (l : Str) (h : l.length ≤ 5) : l.foldl (fun n c => n * 10 + (c.toNat - 48)) 0 ≤ 100000000 := by
  match l, h with
  | [], _ => simp
  | [a], _ => have := a.toNat_lt; simp only [List.foldl_cons, List.foldl_nil]; omega
  | [a, b], _ => have := a.toNat_lt; have := b.toNat_lt; simp only [List.foldl_cons, List.foldl_nil]; omega
  | [a, b, c], _ => have := a.toNat_lt; have := b.toNat_lt; have := c.toNat_lt; simp only [List.foldl_cons, List.foldl_nil]; omega
  | [a, b, c, d], _ => have := a.toNat_lt; have := b.toNat_lt; have := c.toNat_lt; have := d.toNat_lt; simp only [List.foldl_cons, List.foldl_nil]; omega
  | [a, b, c, d, e], _ => have := a.toNat_lt; have := b.toNat_lt; have := c.toNat_lt; have := d.toNat_lt; have := e.toNat_lt; simp only [List.foldl_cons, List.foldl_nil]; omega
  | _ :: _ :: _ :: _ :: _ :: _ :: _, h => exact absurd h (by simp)
theorem numsR_ok : ∀ {xs : List Str} {x : Str} {l : List Int} {n : Int}, numsR xs = some l → numR x = some n → numsR (xs ++ [x]) = some (l ++ [n])
  | [], x, l, n, h, hx => by
    cases h
    rw [List.nil_append]
    unfold numsR
    rw [hx]
    rfl
  | y :: xs, x, l, n, h, hx => by
    rw [List.cons_append]
    unfold numsR at h ⊢
    cases hy : numR y with
    | some m =>
      rw [hy] at h
      simp only at h ⊢
      cases hr : numsR xs with
      | none => rw [hr] at h; cases h
      | some q =>
        rw [hr] at h
        cases h
        rw [numsR_ok hr hx]
        rfl
    | none => rw [hy] at h; cases h
theorem numsR_bad : ∀ {xs : List Str} {x : Str}, x ∈ xs → numR x = none → numsR xs = none
  | y :: xs, x, hx, h => by
    unfold numsR
    rcases List.mem_cons.1 hx with rfl | hx
    · rw [h]
    · have ih := numsR_bad hx h
      cases hy : numR y with
      | some m => simp only; rw [ih]; rfl
      | none => rfl
theorem numsR_len : ∀ {xs : List Str} {l : List Int}, numsR xs = some l → l.length = xs.length
  | [], l, h => by cases h; rfl
  | y :: xs, l, h => by
    unfold numsR at h
    cases hy : numR y with
    | some m =>
      rw [hy] at h
      simp only at h
      cases hr : numsR xs with
      | none => rw [hr] at h; cases h
      | some q =>
        rw [hr] at h
        cases h
        rw [List.length_cons, List.length_cons, numsR_len hr]
    | none => rw [hy] at h; cases h
theorem postR_short {x : Str} (h : (cutAt 32 x).length < 3) : postR x = none := by
  unfold postR
  match hc : cutAt 32 x, h with
  | [], _ => rfl
  | [_], _ => rfl
  | [_, _], _ => rfl
theorem postR_long {x a b : Str} {r : List Str} (h : cutAt 32 x = a :: b :: r) (hr : r ≠ []) : postR x = (numsR r).map fun l => ((a, b), l) := by
  unfold postR
  rw [h]
  cases r with
  | nil => exact absurd rfl hr
  | cons c r => rfl
theorem refP_bad {done : List Post} {cur r : Str} (h : postR cur = none) : refP done cur (10 :: r) = none := by
  rw [refP, if_pos rfl, h]
theorem refP_line {done : List Post} {cur r : Str} {p : Post} (h : postR cur = some p) : refP done cur (10 :: r) = refP (done ++ [p]) [] r := by
  rw [refP, if_pos rfl, h]
theorem refP_char {done : List Post} {cur r : Str} {c : UInt8} (h : c ≠ 10) : refP done cur (c :: r) = refP done (cur ++ [c]) r := by
  rw [refP, if_neg h]
theorem own_set {e : TypeId} {w : World} {base b c m n : Nat} {vs : List Value} (h : w.ownsRow base e 1 (.slice (some ⟨b, 0, none⟩) m c) n vs) (j : Nat) (z : Value) : (w.setCell ⟨b, j, none⟩ z).ownsRow base e 1 (.slice (some ⟨b, 0, none⟩) m c) n (vs.set j z) := by
  obtain ⟨h1, h2⟩ := h
  refine ⟨by simpa using h1, ?_⟩
  rcases h2 with ⟨h0, _⟩ | ⟨g, cap, cur, he, hbb, hg, r1, r2, r3, r4⟩
  · cases h0
  · simp only [Value.slice.injEq, Option.some.injEq, Addr.mk.injEq, and_true] at he
    obtain ⟨rfl, rfl, rfl⟩ := he
    refine .inr ⟨b, c, cur.setIfInBounds j z, rfl, hbb, ?_, by simpa using r1, r2, by simpa using r3, ?_⟩
    · simp [World.setCell, Array.getElem?_modify, hg]
    · rw [Array.toList_setIfInBounds, List.take_set, r4]
section
variable {ts tp ti : TypeId} {w W X Y : World} {B : Nat} {done : List Post} {cur : Str} {vo vf : Value}
theorem OwnPp.push {a b : Str} {L : List Int} {l : List Post} {vO v v' : Value} {qs : List PIt} {tmp : Obj} (t4 : ti ≠ tp)
    (hqs : qs.map (·.1) = l) (hrow : X.ownsRow B tp 3 vO l.length (qs.flatMap piC)) (hlin : ∀ q ∈ qs, LinT ti X q) (hq : LinT ti X (((a, b), L), v))
    (hown : Y.ownsRow B tp 3 v' (l.length + 1) (qs.flatMap piC ++ [.string (bs a), .string (bs b), v])) (hg : (X.alloc tmp).grownBy Y vO.ownBlock) : OwnPp ti tp Y B v' (l ++ [((a, b), L)]) := by
  have kl : KeepI ti X Y := by
    refine (KeepI.of_below (balloc X tmp)).trans (KeepI.of_grown hg fun k cs fz hr hc => ?_)
    rcases hrow.2 with ⟨rfl, _⟩ | ⟨g, cap, cur, rfl, _, hgg, _⟩
    · cases hr
    · cases hr
      rw [(balloc X tmp).block _ (Array.getElem?_eq_some_iff.1 hgg).1, hgg] at hc
      cases hc
      exact t4 rfl
  refine ⟨qs ++ [(((a, b), L), v)], by rw [List.map_append, hqs]; rfl, ?_, fun q hm => ?_⟩
  · rw [List.flatMap_append, List.length_append]
    exact hown
  · rcases List.mem_append.1 hm with hm | hm
    · exact (hlin q hm).keep kl
    · rw [List.mem_singleton] at hm
      rw [hm]
      exact hq.keep kl
/-- while it runs -/
structure RaI (ts tp ti : TypeId) (w : World) (B : Nat) (done : List Post) (cur : Str) (vo vf : Value) (W : World) : Prop where
  below : Below B w W
  base : B ≤ W.heap.size
  out : OwnPp ti tp W B vo done
  fld : W.ownsRow B ts 1 vf (cutAt 32 cur).length ((cutAt 32 cur).map sv)
theorem RaI.down (h : RaI ts tp ti w B done cur vo vf W) (hk : Below W.heap.size W X) : RaI ts tp ti w B done cur vo vf X :=
  ⟨h.below.trans (hk.mono h.base), Nat.le_trans h.base hk.size, h.out.kept (grown_any hk) (fun r hr => by cases hr), owns_below h.fld hk⟩
theorem RaI.space {v' : Value} {tmp : Obj} (t1 : ts ≠ tp) (t2 : ts ≠ ti) (h : RaI ts tp ti w B done cur vo vf W) (hown : Y.ownsRow B ts 1 v' ((cutAt 32 cur).length + 1) ((cutAt 32 cur).map sv ++ [.string (bs [])])) (hg : (W.alloc tmp).grownBy Y vf.ownBlock) : RaI ts tp ti w B done (cur ++ [32]) vo v' Y := by
  have h1 := h.down (balloc W tmp)
  refine ⟨h1.below.grown hg h1.base fun k hk => (h.fld.lt k hk).1, Nat.le_trans h1.base hg.size, h1.out.kept hg fun r hr cs t fz hc => ?_, ?_⟩
  · rcases h.fld.2 with ⟨rfl, _⟩ | ⟨g, cap, cur, rfl, _, hgg, _⟩
    · cases hr
    · cases hr
      rw [(balloc W tmp).block _ (Array.getElem?_eq_some_iff.1 hgg).1, hgg] at hc
      cases hc
      exact ⟨t1, t2⟩
  · rw [cutAt_snoc, List.length_append, List.map_append]
    exact hown
theorem RaI.char {b m cap : Nat} {c : UInt8} (t1 : ts ≠ tp) (t2 : ts ≠ ti) (hc : c ≠ 32) (h : RaI ts tp ti w B done cur vo (.slice (some ⟨b, 0, none⟩) m cap) W) (hm : (cutAt 32 cur).length = m) :
    1 ≤ m ∧ ∃ p, p.length ≤ cur.length ∧ W.cell? ⟨b, m - 1, none⟩ = some (.string (bs p)) ∧ W.frozen? ⟨b, m - 1, none⟩ = false ∧ RaI ts tp ti w B done (cur ++ [c]) vo (.slice (some ⟨b, 0, none⟩) m cap) (W.setCell ⟨b, m - 1, none⟩ (.string (bs (p ++ [c])))) ∧ (cutAt 32 (cur ++ [c])).length = m := by
  obtain ⟨r, p, e1, e2⟩ := cutAt_more hc cur
  have hml : m = r.length + 1 := by rw [← hm, e1, List.length_append]; rfl
  have hp : p.length ≤ cur.length := cutAt_mem (c := 32) (s := cur) (x := p) (by rw [e1]; simp)
  have hf := h.fld
  rw [e1] at hf
  have hb : W.heap[b]?.isSome ∧ B ≤ b ∧ ∃ cs, W.heap[b]? = some (Obj.cells cs ts (0, 0)) := by
    rcases hf.2 with ⟨h0, _⟩ | ⟨g, cap', cs, he, hbb, hgg, _⟩
    · cases h0
    · simp only [Value.slice.injEq, Option.some.injEq, Addr.mk.injEq, and_true] at he
      obtain ⟨rfl, _, _⟩ := he
      exact ⟨by rw [hgg]; rfl, hbb, cs, hgg⟩
  obtain ⟨_, hbb, cs, hgg⟩ := hb
  have hs : W.grownBy (W.setCell ⟨b, m - 1, none⟩ (.string (bs (p ++ [c])))) (some b) := ⟨rfl, rfl, rfl, by simp [World.setCell], fun k _ hk => Below.heap_setCell _ _ _ k fun e => hk (by rw [e])⟩
  have hcell : W.cell? ⟨b, m - 1, none⟩ = some (.string (bs p)) := by
    have hx := hf.cells (g := b) rfl (m - 1) (.string (bs p)) (by rw [List.map_append, List.getElem?_append_right (by rw [List.length_map]; omega), List.length_map, show m - 1 - r.length = 0 by omega]; rfl)
    have hadd : (⟨b, 0, none⟩ : Addr).add (m - 1) = ⟨b, m - 1, none⟩ := by unfold Addr.add; split <;> simp_all
    rwa [hadd] at hx
  refine ⟨by omega, p, hp, hcell, by simp [World.frozen?, hgg], ⟨h.below.grown hs h.base fun k hk => by cases hk; exact hbb, by simpa [World.setCell] using h.base, h.out.kept hs fun k hk cs' t fz hcc => ?_, ?_⟩, by rw [e2, hml, List.length_append]; rfl⟩
  · cases hk
    rw [hgg] at hcc
    cases hcc
    exact ⟨t1, t2⟩
  · have := own_set hf (m - 1) (.string (bs (p ++ [c])))
    rw [e2]
    rw [show (r ++ [p ++ [c]]).length = (r ++ [p]).length by simp]
    rw [show (r ++ [p ++ [c]]).map sv = ((r ++ [p]).map sv).set (m - 1) (.string (bs (p ++ [c]))) by
      rw [List.map_append, List.map_append, List.set_append_right _ _ (by rw [List.length_map]; omega), List.length_map, show m - 1 - r.length = 0 by omega]
      rfl]
    exact this
theorem RaI.line {a b : Str} {L : List Int} {v v' : Value} {qs : List PIt} {tmp : Obj} (t4 : ti ≠ tp)
    (h : RaI ts tp ti w B done cur vo vf X) (hqs : qs.map (·.1) = done) (hrow : X.ownsRow B tp 3 vo done.length (qs.flatMap piC)) (hlin : ∀ q ∈ qs, LinT ti X q) (hq : LinT ti X (((a, b), L), v))
    (hown : Y.ownsRow B tp 3 v' (done.length + 1) (qs.flatMap piC ++ [.string (bs a), .string (bs b), v])) (hg : (X.alloc tmp).grownBy Y vo.ownBlock) :
    RaI ts tp ti w B (done ++ [((a, b), L)]) [] v' (.slice (some ⟨Y.heap.size, 0, none⟩) 1 1) (Y.alloc (.cells #[.string (bs [])] ts)) := by
  have h1 := h.down (balloc X tmp)
  have hYb : B ≤ Y.heap.size := Nat.le_trans h1.base hg.size
  have hY : Below B w Y := h1.below.grown hg h1.base fun k hk => (hrow.lt k hk).1
  refine ⟨hY.trans ((balloc Y _).mono hYb), by simp; omega, (OwnPp.push t4 hqs hrow hlin hq hown hg).kept (grown_any (balloc Y _)) (fun r hr => by cases hr), ?_⟩
  show (Y.alloc (.cells #[.string (bs [])] ts)).ownsRow B ts 1 (.slice (some ⟨Y.heap.size, 0, none⟩) 1 1) 1 [.string (bs [])]
  exact ⟨rfl, .inr ⟨Y.heap.size, 1, #[.string (bs [])], rfl, hYb, World.alloc_heap_new Y _, by simp, by simp [maxLen], rfl, by simp⟩⟩
theorem nums_step2 {A D v v9 : Value} {M : Nat} {L : List Int} {z : Int} {tmp : Obj} (t1 : tp ≠ ti) (hO : OwnI ti W M v L) (hz : I64 z) (hP : BlkK W M #[A, D, v] tp)
    (hown : X.ownsRow M ti 1 v9 (L.length + 1) (L.map (Value.int .i64) ++ [.int .i64 z])) (hg : (W.alloc tmp).grownBy X v.ownBlock) :
    BlkK X M #[A, D, v] tp ∧ OwnI ti (X.setCell ⟨M, 2, none⟩ v9) M v9 (L ++ [z]) ∧ BlkK (X.setCell ⟨M, 2, none⟩ v9) M #[A, D, v9] tp ∧ Below M W (X.setCell ⟨M, 2, none⟩ v9) := by
  have hM := hP.lt
  have hP1 := (hP.allocK tmp).keptE hg (hP.apart hO.1 t1)
  have hs : X.grownBy (X.setCell ⟨M, 2, none⟩ v9) (some M) := ⟨rfl, rfl, rfl, by simp [World.setCell], fun k _ hk => Below.heap_setCell _ _ _ k fun e => hk (by rw [e])⟩
  have hb1 : Below M W X := ((Below.refl M W).alloc (by omega) tmp).grown hg (by simp; omega) fun k hk => (hO.1.lt k hk).1
  have hs1 := hb1.size
  refine ⟨hP1, (OwnI.push1 hO hz hown).kept hs (.inr fun e => BlkK.apart hP1 hown t1 e.symm), ?_, hb1.grown hs (by omega) fun k hk => by cases hk; omega⟩
  obtain ⟨hl, he⟩ := Array.getElem?_eq_some_iff.1 (show X.heap[M]? = _ from hP1)
  refine Array.getElem?_eq_some_iff.2 ⟨by simpa [World.setCell] using hl, ?_⟩
  simp [World.setCell, Array.getElem_modify, he]
end
end Go.Ap

/-
  Parse (reference), the walk.
-/



namespace Go.Proofs.YtngdmpkoedpgdaaGreatDoor
open Go.RowKit Go.Ap Go.Shelf Go.Proofs

attribute [local go_sem] Oper.semAt_some bs_toList empty_toList bs_size bs_extract
abbrev RaJ (w : World) (B : Nat) (done : List Post) (cur : Str) (vo vf : Value) (W : World) : Prop := RaI 9 37 3 w B done cur vo vf W
set_option maxRecDepth 100000 in
set_option maxHeartbeats 8000000 in
theorem parseR (s : Str) (w : World) (hs : s.length ≤ 65536) :
    Calls Tryz.prog 56 #[.string (bs s)] w fun e w' => ParseA e w w' (parseS s) := by
  rw [← ref_parse]
  obtain ⟨B, hB⟩ : ∃ B, w.heap.size = B := ⟨_, rfl⟩
  have HBE := Lib.hid hB
  have HS := Lib.hid hs
  obtain ⟨PO, hPO⟩ : ∃ x, refP [] [] s = x := ⟨_, rfl⟩
  have HPO := Lib.hid hPO
  rw [hPO]
  obtain ⟨i0, hi0, hz0, hz1, hz2⟩ := info_parts infoPo5
  obtain ⟨i9, hi9, hy0, hy1, hy2⟩ := info_parts infoInt5
  obtain ⟨i8, hi8, hx0, hx1, hx2⟩ := info_parts infoStr5
  have d0 : decide ((65536 : Int) < (s.length : Int)) = false := decide_eq_false (by omega)
  obtain ⟨W1, hW1⟩ : ∃ W, w.alloc (.cells #[] 37) = W := ⟨_, rfl⟩
  obtain ⟨W2, hW2⟩ : ∃ W, W1.alloc (.cells #[.string { data := #[] }] 9) = W := ⟨_, rfl⟩
  have s1 : W1.heap.size = B + 1 := by rw [← hW1, World.size_alloc, hB]
  have HR0 := Lib.hid (show RaJ w B [] [] (.slice (some ⟨B, 0, none⟩) 0 0) (.slice (some ⟨B + 1, 0, none⟩) 1 1) W2 from by
    have k1 : Below B w W1 := by rw [← hW1, ← hB]; exact balloc _ _
    have k2 : Below W1.heap.size W1 W2 := by rw [← hW2]; exact balloc _ _
    refine ⟨k1.trans (k2.mono (by omega)), by rw [← hW2, World.size_alloc]; omega, ?_, ?_⟩
    · refine OwnPp.kept (W := W1) (row := none) ⟨[], rfl, ?_, fun q hq => by cases hq⟩ (grown_any k2) (fun r hr => by cases hr)
      rw [← hW1, ← hB]
      exact World.ownsRow_made w #[] 0 (Nat.le_refl _) (by simp [maxLen]) rfl
    · rw [← hW2, ← s1]
      show (W1.alloc (.cells #[.string (bs [])] 9)).ownsRow B 9 1 (.slice (some ⟨W1.heap.size, 0, none⟩) 1 1) 1 [.string (bs [])]
      exact ⟨rfl, .inr ⟨W1.heap.size, 1, #[.string (bs [])], rfl, by omega, World.alloc_heap_new W1 _, by simp, by simp [maxLen], rfl, by simp⟩⟩)
  clear hs hPO
  go_enter Tryz.func56, Tryz.ntmps56
  go_wp2_with (fail)
  go_loopw [4, 5, 6] (fun vo vf iv wr => ∃ (i : Nat) (done : List Post) (cur : Str), i ≤ s.length ∧ iv = .int .i64 i ∧ refP done cur (s.drop i) = PO ∧ RaJ w B done cur vo vf wr ∧ done.length ≤ i ∧ cur.length ≤ i) (fun _ _ iv _ => s.length - (intOf iv).toNat)
  case atStart => exact ⟨0, [], [], Nat.zero_le _, rfl, HPO.out, HR0.out, by simp, by simp⟩
  case round =>
    obtain ⟨W, rfl⟩ : ∃ W : World, W = wr := ⟨_, rfl⟩
    obtain ⟨i, done, cur, hile, rfl, hpo, hr, hdl, hcl⟩ := hrel
    have HP := Lib.hid hpo
    have HR := Lib.hid hr
    have HDL := Lib.hid hdl
    have HCL := Lib.hid hcl
    have hs6 := HS.out
    have hCm : (cutAt 32 cur).length ≤ 65537 := by have := cutAt_len 32 cur; have := HS.out; omega
    obtain ⟨m, hm⟩ : ∃ m, (cutAt 32 cur).length = m := ⟨_, rfl⟩
    have HM := Lib.hid hm
    have hfld := hr.fld
    rw [hm] at hfld hCm
    have hbW : Below w.heap.size w W := by rw [HBE.out]; exact hr.below
    have HBW := Lib.hid hbW
    have HBS := Lib.hid hr.base
    have hne : (cutAt 32 cur) ≠ [] := by
      have := cutAt_ne 32 cur
      exact this
    have hm1 : 1 ≤ m := by rw [← hm]; exact List.length_pos_iff.2 hne
    obtain ⟨m', rfl⟩ : ∃ m', m = m' + 1 := ⟨m - 1, by omega⟩
    obtain ⟨bf, capf, rfl⟩ := ownsRow_succ hfld
    have HF := Lib.hid hfld
    clear hpo hr hdl hcl hfld hbW hne hm
    by_cases hin : i < s.length
    · have hix : (bs s)[i]'(by rw [bs_size]; exact hin) = s[i] := bs_get (by rw [bs_size]; exact hin)
      have hdr : s.drop i = s[i] :: s.drop (i + 1) := List.drop_eq_getElem_cons hin
      obtain ⟨c, hc⟩ : ∃ c, s[i] = c := ⟨_, rfl⟩
      rw [hc] at hix hdr
      have HDR := Lib.hid hdr
      have hcl := c.toNat_lt
      have i1 : (i : Int) < (s.length : Int) := by omega
      clear hc hdr
      by_cases h32 : c = 32
      · have e1 : ((c.toNat : Int) == 32) = true := by rw [h32]; rfl
        have HPX := Lib.hid (show refP done (cur ++ [32]) (s.drop (i + 1)) = PO by rw [← HP.out, HDR.out, h32, refP_char (by decide)])
        have HNW := Lib.hid (show ∀ (j : Nat) (u : Value), [Value.string { data := #[] }][j]? = some u → (W.alloc (.cells #[.string { data := #[] }] 9)).cell? ((⟨W.heap.size, 0, none⟩ : Addr).add j) = some u from World.news_of_block (cs := #[.string { data := #[] }]) (heap_fresh rfl))
        clear h32
        go_wp2_with (at_builtin; refine wpList_append_own _ rfl _ _ 22 rfl B 9 i8 (.string { data := #[] }) 1 16 Tryz.underlying22 hi8 hx0 hx1 hx2 rfl (by decide) _ _ _ rfl (World.ownsRow.alloc HF.out _) ⟨W.heap.size, 0, none⟩ 1 1 [.string { data := #[] }] rfl rfl HNW.out (by simp [Value.oneCell']) (by unfold maxLen; omega) (by omega) (by have := HBS.out; simp; omega) ?_; intro v9 w4 hown1 hgrow1 _; have HSP := Lib.hid (RaI.space (by decide) (by decide) HR.out (by rw [HM.out]; exact hown1) hgrow1); clear hown1 hgrow1)
        go_roundw
        case rel => exact ⟨i + 1, done, cur ++ [32], by omega, by simp, HPX.out, HSP.out, by have := HDL.out; omega, by have := HCL.out; rw [List.length_append]; simp; omega⟩
        case measure => simp [intOf]; omega
      · have e1 : ((c.toNat : Int) == 32) = false := by
          rw [beq_eq_false_iff_ne]
          intro e
          exact h32 (UInt8.toNat_inj.1 (by simp; omega))
        by_cases h10 : c = 10
        · have e2 : ((c.toNat : Int) != 10) = false := by rw [h10]; rfl
          have HB2 := Lib.hid (show postR cur = none → PO = none from fun h => by rw [← HP.out, HDR.out, h10, refP_bad h])
          have HB3 := Lib.hid (show ∀ q, postR cur = some q → refP (done ++ [q]) [] (s.drop (i + 1)) = PO from fun q h => by rw [← HP.out, HDR.out, h10, refP_line h])
          clear h32 h10
          by_cases hm3 : m' + 1 < 3
          · obtain rfl : PO = none := HB2.out (postR_short (by rw [HM.out]; exact hm3))
            have e3 : decide (((m' + 1 : Nat) : Int) < 3) = true := decide_eq_true (by omega)
            have e4 : decide ((m' : Int) + 1 < 3) = true := decide_eq_true (by omega)
            go_wp2_with (fail)
            go_ret2
            exact ⟨_, _, rfl, fun l hl => (by cases hl), fun _ => ⟨rfl, rfl⟩, HBW.out⟩
          · have e4 : decide ((m' : Int) + 1 < 3) = false := decide_eq_false (by omega)
            obtain ⟨a, b, r, hcut, hrn⟩ : ∃ a b r, cutAt 32 cur = a :: b :: r ∧ r ≠ [] := by
              have hl3 : ¬(cutAt 32 cur).length < 3 := by rw [HM.out]; exact hm3
              match hc : cutAt 32 cur, hl3 with
              | [], h => exact absurd (by decide) h
              | [_], h => exact absurd (by simp) h
              | [_, _], h => exact absurd (by simp) h
              | a :: b :: c :: r, _ => exact ⟨a, b, c :: r, rfl, by simp⟩
            have HCUT := Lib.hid hcut
            have HPL := Lib.hid (postR_long hcut hrn)
            have HRN := Lib.hid hrn
            obtain ⟨m, hmr⟩ : ∃ m, r.length = m := ⟨_, rfl⟩
            have HRM := Lib.hid hmr
            have hmm : m' = m + 1 := by
              have := HM.out
              rw [hcut] at this
              simp only [List.length_cons] at this
              omega
            have HRL := Lib.hid (show ∀ y ∈ a :: b :: r, y.length ≤ 65536 from fun y hy => by
              have := cutAt_mem (c := 32) (s := cur) (x := y) (by rw [hcut]; exact hy)
              have := HCL.out
              omega)
            have HFC := Lib.hid (show ∀ j x, (a :: b :: r)[j]? = some x → W.cell? ⟨bf, j, none⟩ = some (.string (bs x)) from fun j x hj => by
              have hlt := (List.getElem?_eq_some_iff.1 hj).1
              rw [HF.out.cellAt j (by rw [List.length_cons, List.length_cons] at hlt; omega), hcut, List.getElem?_map, hj]
              rfl)
            obtain ⟨M, hMw⟩ : ∃ M, W.heap.size = M := ⟨_, rfl⟩
            have HMW := Lib.hid hMw
            have HX9 := Lib.hid (show BlkK (W.alloc (.cells #[.string (bs a), .string (bs b), .slice none 0 0] 37)).drew M #[.string (bs a), .string (bs b), .slice none 0 0] 37 by
              have := BlkK.new W #[.string (bs a), .string (bs b), .slice none 0 0] 37
              rw [hMw] at this
              exact this)
            have HX1 := Lib.hid (show Below M W (W.alloc (.cells #[.string (bs a), .string (bs b), .slice none 0 0] 37)).drew by
              have := balloc W (.cells #[.string (bs a), .string (bs b), .slice none 0 0] 37)
              rw [hMw] at this
              exact ⟨this.os, this.tape, this.output, this.size, this.block⟩)
            have j0 : 0 < m' + 1 := by omega
            have j1 : 1 < m' + 1 := by omega
            have k0 : (0 : Int) < (m' : Int) + 1 := by omega
            have k1 : (1 : Int) < (m' : Int) + 1 := by omega
            have k1' : 0 < m' := by omega
            have k1'' : (0 : Int) < (m' : Int) := by omega
            have HS0 := Lib.hid (show W.drew.cell? ⟨bf, 0, none⟩ = some (.string (bs a)) ∧ W.drew.cell? ⟨bf, 1, none⟩ = some (.string (bs b)) from ⟨HFC.out 0 a rfl, HFC.out 1 b rfl⟩)
            have HS1 := Lib.hid (show (W.drew.alloc (.cells #[.string { data := #[] }, .string { data := #[] }, .slice none 0 0] 37)).cell? ⟨bf, 0, none⟩ = some (.string (bs a)) ∧ (W.drew.alloc (.cells #[.string { data := #[] }, .string { data := #[] }, .slice none 0 0] 37)).cell? ⟨bf, 1, none⟩ = some (.string (bs b)) from ⟨cell_keep (balloc _ _) HS0.out.1, cell_keep (balloc _ _) HS0.out.2⟩)
            have HS2 := Lib.hid (show (W.alloc (.cells #[.string (bs a), .string (bs b), .slice none 0 0] 37)).drew.cell? ⟨bf, 0, none⟩ = some (.string (bs a)) ∧ (W.alloc (.cells #[.string (bs a), .string (bs b), .slice none 0 0] 37)).drew.cell? ⟨bf, 1, none⟩ = some (.string (bs b)) from ⟨cell_keep (balloc _ _) HS0.out.1, cell_keep (balloc _ _) HS0.out.2⟩)
            have HMM := Lib.hid hmm
            clear hcut hrn hmr hm3 hmm
            go_wp2_with (fail)
            refine (wpIn_wide (n := 20)).1 ?_
            refine wpIn_region_planN (fun W' => W'.cell? ⟨bf, 0, none⟩ = some (.string (bs a)) ∧ W'.cell? ⟨bf, 1, none⟩ = some (.string (bs b))) (.take 0 <| .take 1 <| .take 2 <| .take 3 <| .take 4 <| .take 5 <| .take 6 <| .one 7 <| .one 8 <| .fin) (fun _ => trivial) (by kernel_rfl) (by kernel_rfl) HS0.out ?_
            iterate 2
              apply plan_take rfl rfl (by rfl)
              case hy =>
                rintro W' hb'
                clear hb'
                go_simp
                first | done | with_reducible rfl
              simp only [List.setIfInBounds_toArray, List.set_cons_zero, List.set_cons_succ]
            apply plan_take rfl rfl (by rfl)
            case hy =>
              rintro W' hb'
              have x0 := hb'.1
              clear hb'
              go_simp
              first | done | with_reducible rfl
            simp only [List.setIfInBounds_toArray, List.set_cons_zero, List.set_cons_succ]
            iterate 2
              apply plan_take rfl rfl (by rfl)
              case hy =>
                rintro W' hb'
                clear hb'
                go_simp
                first | done | with_reducible rfl
              simp only [List.setIfInBounds_toArray, List.set_cons_zero, List.set_cons_succ]
            apply plan_take rfl rfl (by rfl)
            case hy =>
              rintro W' hb'
              have x1 := hb'.2
              clear hb'
              go_simp
              first | done | with_reducible rfl
            simp only [List.setIfInBounds_toArray, List.set_cons_zero, List.set_cons_succ]
            apply plan_take rfl rfl (by rfl)
            case hy =>
              rintro W' hb'
              clear hb'
              go_simp
              first | done | with_reducible rfl
            simp only [List.setIfInBounds_toArray, List.set_cons_zero, List.set_cons_succ]
            refine plan_one rfl ?_
            gi_wp2_with (fail)
            refine ⟨HS1.out, ?_⟩
            refine plan_one rfl ?_
            gi_wp2_with (fail)
            refine ⟨HS2.out, ?_⟩
            refine plan_fin ?_
            obtain ⟨X1, hX1⟩ : ∃ X, (W.alloc (.cells #[.string (bs a), .string (bs b), .slice none 0 0] 37)).drew = X := ⟨_, rfl⟩
            rw [hX1] at HX1 HX9 ⊢
            clear hX1 HS0 HS1 HS2 hMw
            gi_wp2_with (fail)
            go_wp2_with (fail)
            go_loopw [8] (fun kv wr => ∃ (j : Nat) (L : List Int) (v : Value), j ≤ m ∧ kv = .int .i64 ((j : Int) + 2) ∧ numsR (r.take j) = some L ∧ OwnI 3 wr M v L ∧ BlkK wr M #[.string (bs a), .string (bs b), v] 37 ∧ Below M W wr) (fun kv _ => m + 2 - (intOf kv).toNat)
            case atStart => exact ⟨0, [], .slice none 0 0, Nat.zero_le _, rfl, rfl, OwnI.nil _ _ _, HX9.out, HX1.out⟩
            case round =>
              obtain ⟨wi, rfl⟩ : ∃ wi : World, wi = wr := ⟨_, rfl⟩
              obtain ⟨j, L, v, hjle, rfl, hL, hO, hPb, hb⟩ := hrel
              have HL := Lib.hid hL
              have HO := Lib.hid hO
              have HPB := Lib.hid hPb
              have HB := Lib.hid hb
              have HMZ := Lib.hid (show M + 1 ≤ wi.heap.size by have := hPb.lt; omega)
              have hmb : m ≤ 65537 := by have := HMM.out; omega
              have HLE := Lib.hid (show L.length ≤ 65537 by
                have := numsR_len hL
                rw [List.length_take] at this
                omega)
              clear hL hO hPb hb
              by_cases hjm : j < m
              · obtain ⟨y, hy⟩ : ∃ y, r[j]? = some y := ⟨r[j]'(by have := HRM.out; omega), List.getElem?_eq_getElem _⟩
                have hyr : y ∈ r := List.mem_of_getElem? hy
                have hyl := HRL.out y (List.mem_cons_of_mem _ (List.mem_cons_of_mem _ hyr))
                have hcy := HFC.out (j + 2) y (by rw [List.getElem?_cons_succ, List.getElem?_cons_succ]; exact hy)
                have c5 : wi.cell? ⟨bf, j + 2, none⟩ = some (.string (bs y)) := Go.Ap.cell_kept (Nat.le_of_eq HMW.out) HB.out hcy
                have d1 : decide ((j : Int) + 2 < (m' : Int) + 1) = true := decide_eq_true (by have := HMM.out; omega)
                have d2 : (j : Int) + 2 < (m' : Int) + 1 := by have := HMM.out; omega
                have d3 : j + 2 < m' + 1 := by have := HMM.out; omega
                have d4 : (0 : Int) ≤ (j : Int) + 2 := by omega
                have d5 : ((j : Int) + 2).toNat = j + 2 := by omega
                have HNU := Lib.hid (number117 y wi hyl)
                rcases numI_cases y with ⟨z, hz1', hz2'⟩ | ⟨hz1', hz2'⟩
                · rw [hz2'] at HNU
                  have hzb : (z : Int) ≤ 9223372036854775807 := by
                    obtain ⟨_, e⟩ := numR_some hz1'
                    have hz5 : numR y = some (z : Int) := hz1'
                    unfold numR at hz5
                    split at hz5
                    · simp only at hz5
                      split at hz5
                      · cases hz5
                      · cases hz5
                        have := fold5_le (y.take 5) (by rw [List.length_take]; omega)
                        omega
                    · cases hz5
                  have HN2 := Lib.hid (show numsR (r.take (j + 1)) = some (L ++ [(z : Int)]) by
                    rw [List.take_add_one, hy]
                    exact numsR_ok HL.out hz1')
                  have HZ := Lib.hid (show I64 (z : Int) from ⟨by omega, by omega⟩)
                  have d6 : decide ((z : Int) < 0) = false := decide_eq_false (by omega)
                  have c6 : wi.cell? ⟨M, 2, none⟩ = some v := HPB.out.cell rfl
                  have HNW := Lib.hid (show ∀ (k : Nat) (u : Value), [Value.int .i64 (z : Int)][k]? = some u → (wi.alloc (.cells #[.int .i64 (z : Int)] 3)).cell? ((⟨wi.heap.size, 0, none⟩ : Addr).add k) = some u from World.news_of_block (cs := #[.int .i64 (z : Int)]) (heap_fresh rfl))
                  clear hz1' hz2' hy hyr hyl hcy
                  go_wp2_with (fail)
                  refine HNU.out.mono ?_
                  rintro e w9 ⟨rfl, rfl⟩
                  go_wp2_with (at_builtin; refine wpList_append_own _ rfl _ _ 26 rfl M 3 i9 (.int .i64 0) 1 8 Tryz.underlying26 hi9 hy0 hy1 hy2 rfl (by decide) _ _ _ rfl (World.ownsRow.alloc HO.out.1 _) ⟨wi.heap.size, 0, none⟩ 1 1 [.int .i64 (z : Int)] rfl rfl HNW.out (by simp [Value.oneCell']) (by have := HLE.out; unfold maxLen; omega) (by have := HLE.out; omega) (by have := HMZ.out; simp; omega) ?_; intro v9 w4 hown1 hgrow1 _; obtain ⟨g8, cap8, rfl⟩ := ownsRow_succ hown1; have HST := Lib.hid (nums_step2 (by decide) HO.out HZ.out HPB.out hown1 hgrow1); have c7 := HST.out.1.frz (i := 2); have c8 : w4.cell? ⟨M, 2, none⟩ = some v := HST.out.1.cell rfl; clear hown1 hgrow1)
                  exact ⟨⟨j + 1, L ++ [(z : Int)], .slice (some ⟨g8, 0, none⟩) (L.length + 1) cap8, by omega, by simp; omega, HN2.out, HST.out.2.1, HST.out.2.2.1, HB.out.trans HST.out.2.2.2⟩, by simp [intOf]; omega⟩
                · rw [hz2'] at HNU
                  obtain rfl : PO = none := HB2.out (by rw [HPL.out, numsR_bad hyr hz1']; rfl)
                  clear hz1' hz2' hy hyr hyl hcy
                  go_wp2_with (fail)
                  refine HNU.out.mono ?_
                  rintro e w9 ⟨rfl, rfl⟩
                  go_wp2_with (fail)
                  go_ret2
                  exact ⟨_, _, rfl, fun l hl => (by cases hl), fun _ => ⟨rfl, rfl⟩, by rw [HBE.out]; exact HR.out.below.trans (HB.out.mono (by have := HBS.out; have := HMW.out; omega))⟩
              · obtain rfl : m = j := by omega
                have hLr : numsR r = some L := by
                  have := HL.out
                  rwa [List.take_of_length_le (Nat.le_of_eq HRM.out)] at this
                have hne : L ≠ [] := fun e => HRN.out (List.length_eq_zero_iff.1 (by rw [← numsR_len hLr, e]; rfl))
                obtain ⟨a9, c9, rfl, _⟩ := ints_of_owns HO.out.1 HO.out.2 (by have := HLE.out; omega)
                have hWi : Below W.heap.size W wi := by rw [HMW.out]; exact HB.out
                obtain ⟨qs, hqs, hrow, hlin⟩ := HR.out.out
                have HRD := Lib.hid (HR.out.down hWi)
                have HQS := Lib.hid hqs
                have HROW := Lib.hid (owns_below hrow hWi)
                have HLIN := Lib.hid (show ∀ q ∈ qs, LinT 3 wi q from fun q hq => (hlin q hq).keep (KeepI.of_below hWi))
                have HLT := Lib.hid (OwnI.linT (a := a) (b := b) HO.out hne (by have := HRL.out a (by simp); omega) (by have := HRL.out b (by simp); omega) (by have := HLE.out; omega))
                have HPX := Lib.hid (HB3.out ((a, b), L) (by rw [HPL.out, hLr]; rfl))
                have HLL := Lib.hid (show done.length ≤ 65536 by have := HDL.out; omega)
                have HNW := Lib.hid (show ∀ (j : Nat) (u : Value), [.string (bs a), .string (bs b), .slice a9 L.length c9][j]? = some u → (wi.alloc (.cells #[.string (bs a), .string (bs b), .slice a9 L.length c9] 37)).cell? ((⟨wi.heap.size, 0, none⟩ : Addr).add j) = some u from World.news_of_block (cs := #[.string (bs a), .string (bs b), .slice a9 L.length c9]) (heap_fresh rfl))
                have HBW2 := Lib.hid (show B ≤ wi.heap.size by have := HRD.out.base; exact this)
                have d1 : decide ((m : Int) + 2 < (m' : Int) + 1) = false := decide_eq_false (by have := HMM.out; omega)
                have c6 : wi.cell? ⟨M, 0, none⟩ = some (.string (bs a)) := HPB.out.cell rfl
                have c7 : wi.cell? ⟨M, 1, none⟩ = some (.string (bs b)) := HPB.out.cell rfl
                have c8 : wi.cell? ⟨M, 2, none⟩ = some (.slice a9 L.length c9) := HPB.out.cell rfl
                clear hLr hne hWi hqs hrow hlin
                go_wp2_with (at_builtin; refine wpList_append_own _ rfl _ _ 27 rfl B 37 i0 (.agg #[.string { data := #[] }, .string { data := #[] }, .slice none 0 0]) 3 56 Tryz.underlying27 hi0 hz0 hz1 hz2 rfl (by decide) _ _ _ rfl (HROW.out.alloc _) ⟨wi.heap.size, 0, none⟩ 1 1 [.string (bs a), .string (bs b), .slice a9 L.length c9] rfl rfl HNW.out (by simp [Value.oneCell']) (by have := HLL.out; unfold maxLen; omega) (by have := HLL.out; omega) (by have := HBW2.out; simp; omega) ?_; intro v9 w4 hown1 hgrow1 _; have HLN := Lib.hid (RaI.line (by decide) HRD.out HQS.out HROW.out HLIN.out HLT.out hown1 hgrow1); clear hown1 hgrow1)
                exact ⟨⟨i + 1, done ++ [((a, b), L)], [], by omega, by simp, HPX.out, HLN.out, by have := HDL.out; rw [List.length_append]; simp; omega, by simp⟩, by simp [intOf]; omega⟩
        · have e2 : ((c.toNat : Int) != 10) = true := by
            rw [bne_iff_ne]
            intro e
            exact h10 (UInt8.toNat_inj.1 (by simp; omega))
          have HPX := Lib.hid (show refP done (cur ++ [c]) (s.drop (i + 1)) = PO by rw [← HP.out, HDR.out, refP_char h10])
          obtain ⟨_, p, hpl, g1, g2, g3, g4⟩ := RaI.char (by decide) (by decide) h32 (HR.out.down (bdrewN W 1)) HM.out
          simp only [Nat.add_sub_cancel] at g1 g2 g3
          have HCH := Lib.hid g3
          have HSL := Lib.hid (show (s.drop i).take 1 = [c] by rw [HDR.out]; rfl)
          have hpl2 : p.length ≤ 65536 := by have := HCL.out; have := HS.out; omega
          have n1 : ¬9223372036854775807 < p.length + 1 := by omega
          have q1 : bs p ++ bs [c] = bs (p ++ [c]) := bs_append
          have hsl := HSL.out
          have w1 : IntKind.i64.wrap (m' : Int) = (m' : Int) := IntWalk.i64_in _ (by omega)
          have v5 : (m' : Int) < (m' : Int) + 1 := by omega
          have w2 : IntKind.i64.wrap ((i : Int) + 1) = (i : Int) + 1 := IntWalk.i64_in _ (by omega)
          have v1 : (i : Int) ≤ (i : Int) + 1 := by omega
          have v2 : (i : Int) + 1 ≤ (s.length : Int) := by omega
          have v3 : (m' : Int) < ((m' + 1 : Nat) : Int) := by omega
          have v4 : m' < m' + 1 := by omega
          have HG1 := Lib.hid (show W.drew.cell? ⟨bf, m', none⟩ = some (.string (bs p)) from g1)
          have HG2 := Lib.hid (show W.drew.frozen? ⟨bf, m', none⟩ = false from g2)
          clear h32 h10 g3 g4 g1 g2
          go_wp2_with (fail)
          refine (wpIn_wide (n := 20)).1 ?_
          refine wpIn_region_heldA (fun W' => W'.cell? ⟨bf, m', none⟩ = some (.string (bs p))) 17 1 [0, 1, 2, 3, 4, 5, 6, 7, 8, 9, 10, 11, 12, 13, 14, 15, 16] _ (fun _ => trivial) (by kernel_rfl) (by kernel_rfl) rfl rfl HG1.out ?_
          iterate 17
            apply wpTakes_consD rfl rfl (by rfl)
            case hy =>
              rintro W' hb'
              go_simp
              first | done | with_reducible rfl
            simp only [List.setIfInBounds_toArray, List.set_cons_zero, List.set_cons_succ]
          refine wpTakes_nil ?_
          refine wpAnyR_rest [17] (by kernel_rfl) ?_
          have g1 := HG1.out
          have g2 := HG2.out
          refine wpSeqR_cons rfl ?_
          gi_wp2_with (fail)
          refine ⟨fun h => absurd h (by omega), ?_⟩
          refine wpSeqR_nilN ?_
          clear g1 g2
          gi_wp2_with (fail)
          go_wp2_with (fail)
          exact ⟨⟨i + 1, done, cur ++ [c], by omega, by simp, HPX.out, HCH.out, by have := HDL.out; omega, by have := HCL.out; rw [List.length_append]; simp; omega⟩, by simp [intOf]; omega⟩
    · obtain rfl : s.length = i := by omega
      have HPE := Lib.hid (show (if cur = [] ∧ indexB done = true then some done else none) = PO by
        have := HP.out
        rw [List.drop_length] at this
        rw [← this]
        rfl)
      by_cases hm0 : m' = 0
      · subst hm0
        obtain ⟨x, hcut⟩ : ∃ x, cutAt 32 cur = [x] := by
          match hc : cutAt 32 cur, HM.out with
          | [x], _ => exact ⟨x, rfl⟩
        have hcx : cur = x := by
          have := cutAt_glue 32 hcut
          simpa using this
        have hxl : x.length ≤ 65536 := by rw [← hcx]; have := HCL.out; omega
        have c5 : W.cell? ⟨bf, 0, none⟩ = some (.string (bs x)) := by
          rw [HF.out.cellAt 0 (by omega), hcut]
          rfl
        by_cases hx0' : x = []
        · have HDL2 := Lib.hid (show done.length ≤ 65536 by have := HDL.out; omega)
          obtain ⟨a9, k9, rfl, hpo9, _⟩ := HR.out.out.posts (by have := HDL2.out; omega)
          have HIX := Lib.hid (indexR done a9 done.length k9 W hpo9)
          have HPO9 := Lib.hid hpo9
          obtain ⟨n9, hn9⟩ : ∃ x, done.length = x := ⟨_, rfl⟩
          rw [hn9] at HIX HPO9 ⊢
          have HN9 := Lib.hid hn9
          subst hx0'
          have c6 : W.cell? ⟨bf, 0, none⟩ = some (.string { data := #[] }) := c5
          clear c5 hcut hpo9 hn9
          cases hix : indexB done
          · rw [hix] at HIX
            obtain rfl : PO = none := by rw [← HPE.out, if_neg (by rw [hix]; simp)]
            clear hix hcx
            go_wp2_with (fail)
            refine HIX.out.mono ?_
            rintro e W5 ⟨rfl, hb5⟩
            have HB5 := Lib.hid (bstep HBW.out hb5)
            clear hb5
            go_wp2_with (fail)
            go_ret2
            exact ⟨_, _, rfl, fun l hl => (by cases hl), fun _ => ⟨rfl, rfl⟩, HB5.out⟩
          · rw [hix] at HIX
            obtain rfl : PO = some done := by rw [← HPE.out, if_pos ⟨hcx, hix⟩]
            clear hix hcx
            go_wp2_with (fail)
            refine HIX.out.mono ?_
            rintro e W5 ⟨rfl, hb5⟩
            have HB5 := Lib.hid (bstep HBW.out hb5)
            have HP5 := Lib.hid (HPO9.out.mono (Nat.le_refl _) hb5)
            clear hb5
            go_wp2_with (fail)
            go_ret2
            refine ⟨_, _, rfl, fun l hl => ?_, fun hl => (by cases hl), HB5.out⟩
            obtain rfl := Option.some.inj hl
            exact ⟨rfl, _, _, by rw [HN9.out]; rfl, by rw [HN9.out]; exact HP5.out⟩
        · obtain rfl : PO = none := by rw [← HPE.out, if_neg (by rw [hcx]; exact fun h => hx0' h.1)]
          have e5 : (x == ([] : Str)) = false := by rw [beq_eq_false_iff_ne]; exact hx0'
          have e6 : (x != ([] : Str)) = true := by rw [bne_iff_ne]; exact hx0'
          clear hcut hcx
          go_wp2_with (fail)
          go_ret2
          exact ⟨_, _, rfl, fun l hl => (by cases hl), fun _ => ⟨rfl, rfl⟩, HBW.out⟩
      · obtain rfl : PO = none := by
          rw [← HPE.out, if_neg]
          rintro ⟨h, _⟩
          have := HM.out
          rw [h] at this
          simp [cutAt] at this
          omega
        have d1 : decide ((1 : Int) < (m' : Int) + 1) = true := decide_eq_true (by omega)
        have d2 : decide ((0 : Int) < (m' : Int)) = true := decide_eq_true (by omega)
        have d3 : 0 < m' := by omega
        go_wp2_with (fail)
        go_ret2
        exact ⟨_, _, rfl, fun l hl => (by cases hl), fun _ => ⟨rfl, rfl⟩, HBW.out⟩
end Go.Proofs.YtngdmpkoedpgdaaGreatDoor
