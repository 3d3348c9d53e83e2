/-
  Increasing of both sides; the chain and the other pairs, of the program.
-/
import Derived.Test.YtbahddjbncinbaaGreatDoorTj
namespace Go.Ap
open Go Go.RowKit
theorem OwnI.capL {e : TypeId} {w : World} {base n c : Nat} {a : Option Addr} {xs : List Int} (h : OwnI e w base (.slice a n c) xs) : n ≤ c := by
  rcases h.1.2 with ⟨he, h0⟩ | ⟨g, cap, cur, he, _, _, hr⟩
  · cases he; exact Nat.zero_le _
  · cases he
    exact hr.1
/-- rows that lie in an old world, in a slice of the call's own -/
def OwnW (w0 W : World) (base : Nat) (v : Value) (xss : List (List Int)) : Prop := OwnV 29 (RowR w0) W base v xss
theorem OwnW.nil (w0 W : World) (base : Nat) : OwnW w0 W base (.slice none 0 0) [] := OwnV.nil _ _
theorem OwnW.below {w0 W W' : World} {base : Nat} {v : Value} {xss : List (List Int)} (h : OwnW w0 W base v xss) (hb : Below W.heap.size W W') : OwnW w0 W' base v xss := OwnV.below h hb
theorem OwnW.mono {w0 W : World} {base base' : Nat} {v : Value} {xss : List (List Int)} (h : OwnW w0 W base v xss) (hb : base' ≤ base) : OwnW w0 W base' v xss := by
  obtain ⟨vs, h1, h2⟩ := h
  exact ⟨vs, owns_mono h1 hb, h2⟩
theorem OwnW.rows {w0 W : World} {base : Nat} {v : Value} {xss : List (List Int)} (h : OwnW w0 W base v xss) (hb : Below w0.heap.size w0 W) (hn : xss.length ≤ 4611686018427387903) : ∃ a c, v = .slice a xss.length c ∧ Rows2 W a xss.length xss := by
  refine OwnV.sl h hn fun u x hu => ?_
  obtain ⟨a, n, c, rfl, hi⟩ := hu
  exact ⟨a, n, c, rfl, Ints.mono hi (Nat.le_refl _) hb⟩
/-- two of them, apart -/
def ChI (w0 W : World) (base : Nat) (v1 v2 : Value) (xs ys : List (List Int)) : Prop := OwnW w0 W base v1 xs ∧ OwnW w0 W base v2 ys ∧ Apart v1 v2
section
variable {w0 W W' : World} {base : Nat} {v1 v2 : Value} {xs ys : List (List Int)}
theorem ChI.symm (h : ChI w0 W base v1 v2 xs ys) : ChI w0 W base v2 v1 ys xs := ⟨h.2.1, h.1, apart_symm h.2.2⟩
theorem ChI.nil (w0 W : World) (base : Nat) : ChI w0 W base (.slice none 0 0) (.slice none 0 0) [] [] := ⟨OwnW.nil _ _ _, OwnW.nil _ _ _, .inl rfl⟩
theorem ChI.below (h : ChI w0 W base v1 v2 xs ys) (hb : Below W.heap.size W W') : ChI w0 W' base v1 v2 xs ys := ⟨h.1.below hb, h.2.1.below hb, h.2.2⟩
theorem ChI.push (h : ChI w0 W base v1 v2 xs ys) (hbase : base ≤ W.heap.size) : ∃ vs, W.ownsRow base 29 1 v1 xs.length vs ∧ ∀ (tmp : Obj) (W' : World) (v' u : Value) (x : List Int), W'.ownsRow base 29 1 v' (xs.length + 1) (vs ++ [u]) → (W.alloc tmp).grownBy W' v1.ownBlock →
    (v'.ownBlock = v1.ownBlock ∨ v'.ownBlock = some (W.alloc tmp).heap.size) → RowR w0 u x → ChI w0 W' base v' v2 (xs ++ [x]) ys ∧ Below base W W' := by
  obtain ⟨vs, h1, hn⟩ := OwnV.ready h.1
  obtain ⟨ts, h2, _⟩ := OwnV.ready h.2.1
  refine ⟨vs, h1, fun tmp W' v' u x hown hg hblk hu => ⟨⟨hn W' v' u x hown hu, (OwnV.below h.2.1 (balloc W tmp)).kept hg (apart_symm h.2.2), ?_⟩, ((Below.refl base W).alloc hbase tmp).grown hg (by simp; omega) fun k hk => (h1.lt k hk).1⟩⟩
  unfold Apart
  rcases hblk with hb | hb
  · rw [hb]; exact h.2.2
  · refine .inr fun e => ?_
    rw [hb] at e
    have := owns_lt h2 _ e.symm
    rw [World.size_alloc] at this
    omega
end
/-- what is still to come of ascending indices -/
def SufS (L : List Nat) (i : Nat) (es : List Nat) : Prop := ∃ pre, L = pre ++ es ∧ (∀ k ∈ pre, k < i) ∧ ∀ k ∈ es, i ≤ k
theorem SufS.start (L : List Nat) : SufS L 0 L := ⟨[], rfl, by simp, fun k _ => Nat.zero_le _⟩
theorem SufS.hit {L : List Nat} {i : Nat} {es : List Nat} (hL : L.Pairwise (· < ·)) (h : SufS L i (i :: es)) : L.contains i = true ∧ SufS L (i + 1) es := by
  obtain ⟨pre, rfl, h1, h2⟩ := h
  refine ⟨by simp, pre ++ [i], by simp, fun k hk => ?_, fun k hk => ?_⟩
  · rcases List.mem_append.1 hk with hk | hk
    · have := h1 k hk; omega
    · rw [List.mem_singleton.1 hk]; omega
  · have := (List.pairwise_cons.1 (List.pairwise_append.1 hL).2.1).1 k hk
    omega
theorem SufS.miss {L : List Nat} {i : Nat} {es : List Nat} (h : SufS L i es) (hi : i ∉ es) : L.contains i = false ∧ SufS L (i + 1) es := by
  obtain ⟨pre, rfl, h1, h2⟩ := h
  refine ⟨?_, pre, rfl, fun k hk => by have := h1 k hk; omega, fun k hk => ?_⟩
  · rw [Bool.eq_false_iff]
    intro hc
    rw [List.contains_iff_mem] at hc
    rcases List.mem_append.1 hc with hc | hc
    · have := h1 i hc; omega
    · exact hi hc
  · have := h2 k hk
    rcases Nat.eq_or_lt_of_le this with e | e
    · subst e; exact absurd hk hi
    · exact e
theorem SufS.not_mem {L : List Nat} {i k : Nat} {es : List Nat} (hL : L.Pairwise (· < ·)) (h : SufS L i (k :: es)) (hk : k ≠ i) : i ∉ k :: es := by
  obtain ⟨pre, rfl, h1, h2⟩ := h
  intro hm
  rcases List.mem_cons.1 hm with e | e
  · exact hk e.symm
  · have h3 := (List.pairwise_cons.1 (List.pairwise_append.1 hL).2.1).1 i e
    have h4 := h2 k (List.mem_cons_self ..)
    omega
theorem ints_tail {W : World} {b o m : Nat} {x : Int} {xs : List Int} (h : Ints W (some ⟨b, o, none⟩) (m + 1) (x :: xs)) : Ints W (some ⟨b, o + 1, none⟩) m xs :=
  ⟨by have := h.len; simpa using this, by have := h.small; omega, fun k y hk => by
    obtain ⟨b', o', v, e, hc, hr⟩ := h.cells (k + 1) y (by simpa using hk)
    cases e
    exact ⟨b, o + 1, v, rfl, by rw [show o + 1 + k = o + (k + 1) by omega]; exact hc, hr⟩⟩
theorem ints_nil {W : World} {a : Option Addr} : Ints W a 0 [] := Sl.nil W a
end Go.Ap
namespace Go.Proofs.YtbahddjbncinbaaGreatDoor
open Go.RowKit Go.Ap Go.Shelf Go.Proofs

attribute [local go_sem] Oper.semAt_some bs_toList empty_toList bs_size bs_extract
set_option maxHeartbeats 4000000 in
theorem incP (l : List Int) (a : Option Addr) (n c : Nat) (w : World) (h : Ints w a n l) (hn : n ≤ 1024) :
    Calls Tryz.prog 77 #[.slice a n c] w fun e w' => ∃ v, e = .returned (.tuple #[v, .int .i64 0]) ∧ OwnI 3 w' w.heap.size v (castL (incF l)) ∧ Below w.heap.size w w' := by
  have HB := Lib.hid (bestP l a n c w h (by omega))
  have d1 : decide ((1024 : Int) < (n : Int)) = false := by simp; omega
  have d1' : decide (1024 < n) = false := by simp; omega
  clear h
  go_enter Tryz.func77, Tryz.ntmps77
  go_wp2_with (fail)
  refine HB.out.mono ?_
  rintro e w1 ⟨v, x, rfl, ho, hb⟩
  have HO := Lib.hid ho
  have HB1 := Lib.hid hb
  clear ho hb
  go_wp2_with (fail)
  go_ret2
  exact ⟨_, rfl, HO.out, HB1.out⟩
def onesL (n j : Nat) : List Int := List.replicate j 1 ++ List.replicate (n - j) 0
theorem onesL_len {n j : Nat} (h : j ≤ n) : (onesL n j).length = n := by simp [onesL]; omega
theorem onesL_succ {n j : Nat} (h : j < n) : (onesL n j).set j 1 = onesL n (j + 1) := by
  unfold onesL
  rw [List.set_append_right _ _ (by simp), List.length_replicate, Nat.sub_self]
  obtain ⟨d, hd⟩ : ∃ d, n - j = d + 1 := ⟨n - j - 1, by omega⟩
  rw [hd, List.replicate_succ, List.set_cons_zero, show n - (j + 1) = d by omega, List.replicate_succ']
  simp
theorem ints_of_arr {W : World} {B : Nat} {xs : List Int} (h : Arr W B 3 xs) (hn : xs.length ≤ 4611686018427387903) (hw : ∀ x ∈ xs, I64 x) : Ints W (some ⟨B, 0, none⟩) xs.length xs :=
  ⟨rfl, hn, fun k x hk => ⟨B, 0, _, rfl, by
    have hl := (List.getElem?_eq_some_iff.1 hk).1
    have := h.cell hl
    rw [Nat.zero_add, this, nth_eq hl]
    congr 2
    exact (List.getElem?_eq_some_iff.1 hk).2, rfl, hw x (List.mem_of_getElem? hk)⟩⟩
set_option maxRecDepth 100000 in
set_option maxHeartbeats 4000000 in
theorem incR (l : List Int) (a : Option Addr) (n c : Nat) (w : World) (h : Ints w a n l) (hn : n ≤ 1024) :
    Calls Tryz.prog 78 #[.slice a n c] w fun e w' => ∃ v, e = .returned (.tuple #[v, .int .i64 0]) ∧ OwnI 3 w' w.heap.size v (castL (incF l)) ∧ Below w.heap.size w w' := by
  obtain ⟨i9, hi9, hy0, hy1, hy2⟩ := info_parts infoInt
  have hmk : ∀ w, (Instr.makeSlice 29 (.int .i64 n) (.int .i64 n)).run Tryz.prog w = .ok (.slice (some ⟨w.heap.size, 0, none⟩) n n) (w.alloc (.cells (Array.replicate n (.int .i64 0)) 3)) := fun w => by
    have h := run_make_row (P := Tryz.prog) 29 3 i9 (.int .i64 0) Tryz.underlying29 hi9 hy0 hy1 rfl .i64 .i64 n (by rw [hy2]; omega) (by omega) w
    rw [made_ints, show ((List.replicate n (0 : Int)).map (Value.int .i64)).toArray = Array.replicate n (.int .i64 0) by simp] at h
    exact h
  obtain ⟨S, hS⟩ : ∃ S, w.heap.size = S := ⟨_, rfl⟩
  have HA0 := Lib.hid (show Arr (w.alloc (.cells (Array.replicate n (.int .i64 0)) 3)) S 3 (onesL n 0) by
    rw [show onesL n 0 = List.replicate n 0 by simp [onesL], Arr, show ((List.replicate n (0 : Int)).map (Value.int .i64)).toArray = Array.replicate n (.int .i64 0) by simp]
    exact heap_fresh hS.symm)
  have HB0 := Lib.hid (balloc w (.cells (Array.replicate n (.int .i64 0)) 3))
  have HF := Lib.hid (fun W a1 c1 (hb : Below w.heap.size w W) (h1 : Ints W a1 n (List.replicate n 1)) => firstR l a n c a1 c1 W (Ints.mono h (Nat.le_refl _) hb) h1 (by omega))
  have HSS := Lib.hid hS
  have d1 : decide ((1024 : Int) < (n : Int)) = false := by simp; omega
  have d1' : decide (1024 < n) = false := by simp; omega
  clear h hS
  go_enter Tryz.func78, Tryz.ntmps78
  go_wp2_with (fail)
  rw [HSS.out]
  clear hmk
  go_loopw [5] (fun iv wr => ∃ i : Nat, i ≤ n ∧ iv = .int .i64 i ∧ Arr wr S 3 (onesL n i) ∧ Below w.heap.size w wr) (fun iv _ => n - (intOf iv).toNat)
  case atStart => exact ⟨0, Nat.zero_le _, rfl, HA0.out, HB0.out⟩
  case round =>
    obtain ⟨wi, rfl⟩ : ∃ wi : World, wi = wr := ⟨_, rfl⟩
    obtain ⟨i, hi, rfl, ha, hb⟩ := hrel
    by_cases hin : i < n
    · have fs := ha.free i
      have cs := ha.cell (k := i) (by rw [onesL_len hi]; exact hin)
      have HAS := Lib.hid (show Arr (wi.setCell ⟨S, i, none⟩ (.int .i64 1)) S 3 (onesL n (i + 1)) by have := ha.set i 1; rwa [onesL_succ hin] at this)
      have HBS := Lib.hid (show Below w.heap.size w (wi.setCell ⟨S, i, none⟩ (.int .i64 1)) from hb.setCell (p := ⟨S, i, none⟩) (by simp [HSS.out]) _)
      have i1 : (i : Int) < (n : Int) := by omega
      clear ha hb
      go_wp2_with (fail)
      go_roundw
      case rel => exact ⟨i + 1, by omega, by simp, HAS.out, HBS.out⟩
      case measure => simp [intOf]; omega
    · obtain rfl : n = i := by omega
      have HB := Lib.hid hb
      have HI := Lib.hid (show Ints wi (some ⟨S, 0, none⟩) n (List.replicate n 1) by
        have e : onesL n n = List.replicate n 1 := by simp [onesL]
        rw [e] at ha
        have := ints_of_arr ha (by simp; omega) (fun x hx => by rw [List.eq_of_mem_replicate hx]; exact ⟨by decide, by decide⟩)
        rwa [List.length_replicate] at this)
      clear ha hb
      go_wp2_with (fail)
      refine (HF.out _ _ _ HB.out HI.out).mono ?_
      rintro e w1 ⟨v, x, rfl, ho, hb1⟩
      have HO := Lib.hid (ho.mono HB.out.size)
      have HB1 := Lib.hid (bstep HB.out hb1)
      clear ho hb1
      go_wp2_with (fail)
      go_ret2
      exact ⟨_, rfl, HO.out, HB1.out⟩
theorem elemI : Tryz.prog.elem 29 = 3 := by simp [Program.elem, Tryz.underlying29]
theorem underI : Tryz.prog.underlying 29 = some (.slice (Tryz.prog.elem 29)) := by rw [elemI]; exact Tryz.underlying29
theorem ints_drop {w : World} {a : Option Addr} {n c k : Nat} {xs : List Int} (h : Ints w a n xs) (hk : k ≤ n) (hc : n ≤ c) :
    ∃ a', (∀ w', (Instr.slice 29 (.slice a n c) (some (.int .i64 (k : Int))) none none).run Tryz.prog w' = .ok (.slice a' (n - k) (c - k)) w') ∧ Ints w a' (n - k) (xs.drop k) := by
  refine ⟨if c = k then a else a.map (·.add (k * 1)), fun w' => ?_, ?_⟩
  · rw [run_slice_l w' 29 a n c underI .i64 (k : Int) (by omega) (by omega), elemI, Tryz.sizeOf3]
    simp [Result.andThen, sliced]
  · by_cases hz : n = k
    · have hx : xs.drop k = [] := List.drop_eq_nil_of_le (by rw [h.len]; omega)
      rw [hx, show n - k = 0 by omega]
      exact Sl.nil _ _
    · obtain ⟨b, o, rfl, _⟩ := h.at (by omega)
      have hadd : (⟨b, o, none⟩ : Addr).add (k * 1) = ⟨b, o + k, none⟩ := by unfold Addr.add; split <;> simp_all
      rw [if_neg (by omega), Option.map_some, hadd]
      refine ⟨by rw [List.length_drop, h.len], by have := h.small; omega, fun j x hx => ?_⟩
      rw [List.getElem?_drop] at hx
      obtain ⟨b', off, v, ha, hcell, hr⟩ := h.cells _ x hx
      cases ha
      exact ⟨b, o + k, v, rfl, by rw [Nat.add_assoc]; exact hcell, hr⟩
set_option maxRecDepth 100000 in
set_option maxHeartbeats 8000000 in
theorem chainP (l : List (Nat × Nat)) (a : Option Addr) (n c : Nat) (w : World) (h : Rows2 w a n (rowsP l)) (hn : n ≤ 1024) :
    Calls Tryz.prog 54 #[.slice a n c] w fun e w' => ∃ v1 v2, e = .returned (.tuple #[v1, v2]) ∧ ChI w w' w.heap.size v1 v2 (rowsP (inL l)) (rowsP (outL l)) ∧ Below w.heap.size w w' := by
  obtain ⟨ir, hir, hr0, hr1, hr2⟩ := info_parts infoRw
  have hl : l.length = n := by have := h.len; rwa [rowsP_len] at this
  have HX := Lib.hid h
  have HSC := Lib.hid (secondsP l a n c w h (by omega))
  have HIN := Lib.hid (fun W a1 c1 (h1 : Ints W a1 n (secsL l)) => incP (secsL l) a1 n c1 W h1 hn)
  have HL := Lib.hid hl
  have HPW := Lib.hid (show (incF (secsL l)).Pairwise (· < ·) from (incF_asc _).imp fun h => h.1)
  have hil : (incF (secsL l)).length ≤ n := by
    have h1 := in_len l
    have h2 := in_out_len l
    omega
  clear h
  go_enter Tryz.func54, Tryz.ntmps54
  go_wp2_with (fail)
  refine HSC.out.mono ?_
  rintro e w1 ⟨v, rfl, hs, hb1⟩
  obtain ⟨as1, ks1, rfl, hs1⟩ := hs.ints (by rw [secs_len]; omega)
  rw [secs_len, hl] at hs1 ⊢
  have HS1 := Lib.hid hs1
  have HB1 := Lib.hid hb1
  clear hs hs1 hb1
  go_wp2_with (fail)
  refine (HIN.out _ _ _ HS1.out).mono ?_
  rintro e w2 ⟨v, rfl, ho, hb2⟩
  obtain ⟨aa, ka, rfl, hia⟩ := ho.ints (by rw [castL_len]; omega)
  have hcap := ho.capL
  rw [castL_len] at hia hcap ⊢
  have HB2 := Lib.hid (bstep HB1.out hb2)
  have HIA := Lib.hid hia
  obtain ⟨L, hL⟩ : ∃ L, incF (secsL l) = L := ⟨_, rfl⟩
  have HINL := Lib.hid (show inL l = selF (fun i => L.contains i) l 0 by unfold inL; rw [hL])
  have HOUTL := Lib.hid (show outL l = selF (fun i => !L.contains i) l 0 by unfold outL; rw [hL])
  rw [hL] at HIA HPW hcap hil ⊢
  clear ho hb2 hia HSC HIN HS1 HB1 hL
  go_wp2_with (fail)
  go_loopw [4, 6, 7, 18] (fun tv xv yv iv wr => ∃ (i : Nat) (es : List Nat) (aa : Option Addr) (ka : Nat), i ≤ n ∧ iv = .int .i64 i ∧ tv = .slice aa es.length ka ∧ es.length ≤ ka ∧ es.length ≤ 1024 ∧ Ints w2 aa es.length (castL es) ∧ SufS L i es ∧ ChI w wr w2.heap.size xv yv (rowsP (selF (fun i => L.contains i) (l.take i) 0)) (rowsP (selF (fun i => !L.contains i) (l.take i) 0)) ∧ Below w2.heap.size w2 wr) (fun _ _ _ iv _ => n - (intOf iv).toNat)
  case atStart => exact ⟨0, L, aa, ka, Nat.zero_le _, rfl, rfl, hcap, by omega, HIA.out, SufS.start L, ChI.nil _ _ _, Below.refl _ _⟩
  case round =>
    obtain ⟨wi, rfl⟩ : ∃ wi : World, wi = wr := ⟨_, rfl⟩
    obtain ⟨i, es, aa, ka, hi, rfl, rfl, hcap, h24, hia, hsu, hch, hb⟩ := hrel
    have HIA2 := Lib.hid hia
    have HSU := Lib.hid hsu
    have HCH := Lib.hid hch
    have HB := Lib.hid hb
    have hsz := hb.size
    have hb9 : Below w.heap.size w wi := bstep HB2.out hb
    by_cases hin : i < n
    · obtain ⟨row, b1, o1, v1, hx, rfl, hc1, ar, nr, kr, rfl, hr⟩ := HX.out.at hin
      obtain ⟨p, hp, rfl⟩ : ∃ p, l[i]? = some p ∧ rowP p = row := by
        unfold rowsP at hx
        rw [List.getElem?_map] at hx
        exact Option.map_eq_some_iff.1 hx
      obtain rfl : 2 = nr := hr.len
      have HRW := Lib.hid (show RowR w (.slice ar 2 kr) (rowP p) from ⟨ar, 2, kr, rfl, hr⟩)
      have v1 := cell_keep hb9 hc1
      have HTI := Lib.hid (selF_take (p := fun i => L.contains i) (i := 0) hp)
      have HTO := Lib.hid (selF_take (p := fun i => !L.contains i) (i := 0) hp)
      have i1 : (i : Int) < (n : Int) := by omega
      have hszc : w2.heap.size ≤ wi.heap.size := hsz
      clear hx hp hr hc1 hia hsu hch hb9
      cases es with
      | nil =>
        have HMS := Lib.hid (HSU.out.miss (by simp))
        simp only [List.length_nil] at hcap ⊢
        clear hb
        obtain ⟨vs, hrow, hnx⟩ := HCH.out.symm.push hszc
        obtain ⟨nu, hnu⟩ : ∃ nu, (rowsP (selF (fun i => !L.contains i) (l.take i) 0)).length = nu := ⟨_, rfl⟩
        have hnub : nu ≤ 1024 := by have := (selF_sub (p := fun i => !L.contains i) (l.take i) 0).length_le; rw [← hnu, rowsP_len]; have := List.length_take_le i l; omega
        rw [hnu] at hrow hnx
        have HROW := Lib.hid hrow
        have HNX := Lib.hid hnx
        clear hrow hnx hnu
        go_wp2_with (at_builtin; refine wpList_append_own_at _ rfl _ _ 25 rfl w2.heap.size 29 ir (.slice none 0 0) 1 24 Tryz.underlying25 hir hr0 hr1 hr2 rfl (by decide) _ _ _ rfl (HROW.out.alloc _) ⟨wi.heap.size, 0, none⟩ 1 1 [.slice ar 2 kr] rfl rfl (cell_one_new _ _ _) (by simp [Value.oneCell']) (by unfold maxLen; omega) (by omega) (by simp; omega) ?_; intro v9 w4 hown hgrow _ hblk; have HOWN := Lib.hid hown; have HG := Lib.hid hgrow; have HBK := Lib.hid hblk; clear hown hgrow hblk)
        obtain ⟨j1, j2⟩ := HNX.out _ _ _ _ _ HOWN.out HG.out HBK.out HRW.out
        go_roundw
        case rel => exact ⟨i + 1, [], _, ka, by omega, by simp, rfl, hcap, h24, HIA2.out, HMS.out.2, by rw [HTI.out, HTO.out]; simp only [Nat.zero_add, HMS.out.1, Bool.not_false, if_true, Bool.false_eq_true, if_false, List.append_nil]; unfold rowsP at j1 ⊢; rw [List.map_append]; exact j1.symm, HB.out.trans j2⟩
        case measure => simp [intOf]; omega
      | cons k es =>
        obtain ⟨bo, oo, rfl, hco⟩ := HIA2.out.at (show 0 < (k :: es).length by simp)
        have co := cell_keep hb (hco 0 (by simp))
        rw [show nth (castL (k :: es)) 0 = (k : Int) from rfl, Nat.add_zero] at co
        obtain ⟨m, hm⟩ : ∃ m, es.length = m := ⟨_, rfl⟩
        have HM := Lib.hid hm
        simp only [List.length_cons, hm] at hcap h24 HIA2 ⊢
        have c1 : (0 : Int) < (m : Int) + 1 := by omega
        have c2 : (m : Int) + 1 ≤ (ka : Int) := by omega
        clear hb hco hm
        by_cases hki : k = i
        · subst hki
          have HHT := Lib.hid (SufS.hit HPW.out HSU.out)
          have d1 : ((k : Int) == (k : Int)) = true := by simp
          obtain ⟨vs, hrow, hnx⟩ := (HCH.out.below (bdrewN wi 1)).push (show w2.heap.size ≤ (wi.drewN 1).heap.size from hszc)
          obtain ⟨nu, hnu⟩ : ∃ nu, (rowsP (selF (fun i => L.contains i) (l.take k) 0)).length = nu := ⟨_, rfl⟩
          have hnub : nu ≤ 1024 := by have := (selF_sub (p := fun i => L.contains i) (l.take k) 0).length_le; rw [← hnu, rowsP_len]; have := List.length_take_le k l; omega
          rw [hnu] at hrow hnx
          have HROW := Lib.hid (show ((wi.drewN 1).alloc (.cells #[.slice ar 2 kr] 29)).ownsRow w2.heap.size 29 1 _ nu vs from hrow.alloc (.cells #[.slice ar 2 kr] 29))
          have HNX := Lib.hid hnx
          obtain ⟨at1, hsl, hia1⟩ := ints_drop (c := ka) (k := 1) HIA2.out (by omega) (by omega)
          rw [Nat.add_sub_cancel] at hsl hia1
          replace hsl : ∀ w', (Instr.slice 29 (.slice (some ⟨bo, oo, none⟩) (m + 1) ka) (some (.int .i64 1)) none none).run Tryz.prog w' = .ok (.slice at1 m (ka - 1)) w' := hsl
          have HIA3 := Lib.hid hia1
          clear hia1
          have hnewc := cell_one_new (wi.drewN 1) (.slice ar 2 kr) 29
          clear hrow hnx hnu
          go_wp2_with (fail)
          go_region_held3 (fun _ => True) (trivial) (first
            | (refine step_append_lies ((wi.drewN 1).alloc (.cells #[.slice ar 2 kr] 29)) rfl (.tmp 33) (.tmp 35) 25 rfl w2.heap.size 29 ir (.slice none 0 0) 1 24 Tryz.underlying25 hir hr0 hr1 hr2 rfl (by decide) _ nu vs rfl HROW.out ⟨wi.heap.size, 0, none⟩ 1 1 [.slice ar 2 kr] rfl rfl hnewc (by simp [Value.oneCell']) (by decide) (by unfold maxLen; omega) (by omega) (by simp; omega) _ rfl ?_; intro g cap w4 hown hgrow hblk _; have HOWN := Lib.hid hown; have HG := Lib.hid hgrow; have HBK := Lib.hid hblk; clear hown hgrow hblk))
          obtain ⟨j1, j2⟩ := HNX.out _ _ _ (.slice ar 2 kr) _ HOWN.out HG.out (by
            rcases HBK.out with hk | hk
            · exact .inl hk.symm
            · exact .inr (by rw [hk]; rfl)) HRW.out
          clear hsl d1
          go_wp2_with (fail)
          go_roundw
          case rel => exact ⟨k + 1, es, at1, ka - 1, by omega, by simp, by rw [HM.out], by rw [HM.out]; omega, by rw [HM.out]; omega, by rw [HM.out]; exact HIA3.out, HHT.out.2, by rw [HTI.out, HTO.out]; simp only [Nat.zero_add, HHT.out.1, Bool.not_true, if_true, Bool.false_eq_true, if_false, List.append_nil]; unfold rowsP at j1 ⊢; rw [List.map_append]; exact j1, HB.out.trans (((bdrewN wi 1).mono hszc).trans j2)⟩
          case measure => simp [intOf]; omega
        · have HMS := Lib.hid (HSU.out.miss (SufS.not_mem HPW.out HSU.out hki))
          have d1 : ((k : Int) == (i : Int)) = false := by rw [beq_eq_false_iff_ne]; omega
          clear hki
          obtain ⟨vs, hrow, hnx⟩ := HCH.out.symm.push hszc
          obtain ⟨nu, hnu⟩ : ∃ nu, (rowsP (selF (fun i => !L.contains i) (l.take i) 0)).length = nu := ⟨_, rfl⟩
          have hnub : nu ≤ 1024 := by have := (selF_sub (p := fun i => !L.contains i) (l.take i) 0).length_le; rw [← hnu, rowsP_len]; have := List.length_take_le i l; omega
          rw [hnu] at hrow hnx
          have HROW := Lib.hid hrow
          have HNX := Lib.hid hnx
          clear hrow hnx hnu
          go_wp2_with (at_builtin; refine wpList_append_own_at _ rfl _ _ 25 rfl w2.heap.size 29 ir (.slice none 0 0) 1 24 Tryz.underlying25 hir hr0 hr1 hr2 rfl (by decide) _ _ _ rfl (HROW.out.alloc _) ⟨wi.heap.size, 0, none⟩ 1 1 [.slice ar 2 kr] rfl rfl (cell_one_new _ _ _) (by simp [Value.oneCell']) (by unfold maxLen; omega) (by omega) (by simp; omega) ?_; intro v9 w4 hown hgrow _ hblk; have HOWN := Lib.hid hown; have HG := Lib.hid hgrow; have HBK := Lib.hid hblk; clear hown hgrow hblk)
          obtain ⟨j1, j2⟩ := HNX.out _ _ _ _ _ HOWN.out HG.out HBK.out HRW.out
          go_roundw
          case rel => exact ⟨i + 1, k :: es, some ⟨bo, oo, none⟩, ka, by omega, by simp, by simp only [List.length_cons, HM.out], by simp only [List.length_cons, HM.out]; exact hcap, by simp only [List.length_cons, HM.out]; exact h24, by simp only [List.length_cons, HM.out]; exact HIA2.out, HMS.out.2, by rw [HTI.out, HTO.out]; simp only [Nat.zero_add, HMS.out.1, Bool.not_false, if_true, Bool.false_eq_true, if_false, List.append_nil]; unfold rowsP at j1 ⊢; rw [List.map_append]; exact j1.symm, HB.out.trans j2⟩
          case measure => simp [intOf]; omega
    · obtain rfl : n = i := by omega
      have HALL := Lib.hid (show l.take n = l from List.take_of_length_le (by rw [HL.out]; exact Nat.le_refl _))
      clear hia hsu hch hb9 hb
      go_wp2_with (fail)
      go_ret2
      refine ⟨_, _, rfl, ?_, bstep HB2.out HB.out⟩
      have := HCH.out
      rw [HALL.out] at this
      rw [HINL.out, HOUTL.out]
      exact ⟨this.1.mono HB2.out.size, this.2.1.mono HB2.out.size, this.2.2⟩
end Go.Proofs.YtbahddjbncinbaaGreatDoor
