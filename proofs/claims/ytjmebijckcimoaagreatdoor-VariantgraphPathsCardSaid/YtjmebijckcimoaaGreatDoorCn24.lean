/-
  A column of a collation (what chapter 24 wants of chapter 25's texts).
-/
import Derived.Test.YtjmebijckcimoaaGreatDoorQ7
import Derived.Test.YtjmebijckcimoaaGreatDoorUa
import Derived.Test.YtjmebijckcimoaaGreatDoorNab
import Derived.Test.YtjmebijckcimoaaGreatDoorPl
namespace Go.Ap
/-- a block of one-cell elements -/
def ArrG {α : Type} (enc : α → Go.Value) (W : Go.World) (B : Nat) (T : Go.TypeId) (xs : List α) : Prop := W.heap[B]? = some (.cells (xs.map enc).toArray T (0, 0))
section
open Go Go.RowKit
variable {α : Type} {enc : α → Value} {W W' : World} {B : Nat} {T : TypeId} {xs : List α}
theorem ArrG.lt (h : ArrG enc W B T xs) : B < W.heap.size := (Array.getElem?_eq_some_iff.1 h).1
theorem ArrG.cell (h : ArrG enc W B T xs) {k : Nat} {x : α} (hk : xs[k]? = some x) : W.cell? ⟨B, k, none⟩ = some (enc x) := by
  obtain ⟨hl, rfl⟩ := List.getElem?_eq_some_iff.1 hk
  simp [World.cell?, show W.heap[B]? = _ from h, hl]
theorem ArrG.free (h : ArrG enc W B T xs) (k : Nat) : W.frozen? ⟨B, k, none⟩ = false := by simp [World.frozen?, show W.heap[B]? = _ from h]
theorem ArrG.set (h : ArrG enc W B T xs) (k : Nat) (v : α) : ArrG enc (W.setCell ⟨B, k, none⟩ (enc v)) B T (xs.set k v) := by
  obtain ⟨hlt, hk⟩ := Array.getElem?_eq_some_iff.1 h
  show (W.heap.modify B _)[B]? = _
  rw [Array.getElem?_eq_getElem (by rw [Array.size_modify]; exact hlt), Array.getElem_modify_self, hk]
  simp [List.map_set]
theorem ArrG.kept (h : ArrG enc W B T xs) (hb : Below W.heap.size W W') : ArrG enc W' B T xs := (hb.block B h.lt).trans h
theorem ArrG.sl {R : World → Value → α → Prop} (h : ArrG enc W B T xs) (hR : ∀ x ∈ xs, R W (enc x) x) {n : Nat} (hn : xs.length = n) (hs : n ≤ 4611686018427387903) : Sl R W (some ⟨B, 0, none⟩) n xs :=
  ⟨hn, hs, fun k x hx => ⟨B, 0, enc x, rfl, by rw [Nat.zero_add]; exact h.cell hx, hR x (List.mem_of_getElem? hx)⟩⟩
theorem made_all {v : Value} {x : α} (hv : enc x = v) (n : Nat) : madeCells #[v] n = ((List.replicate n x).map enc).toArray := by
  subst hv
  apply Array.ext_getElem?
  intro i
  simp [madeCells, Nat.mod_one]
  by_cases h : i < n
  · simp [h]
  · simp [h]
end
/-- the texts of a column; none where a source has no token -/
def colW (x : Coll) (k s : Nat) : Str := (cellO x k s).getD []
def colL (x : Coll) (k : Nat) : List Str := (List.range x.sigla.length).map (colW x k)
def colP (x : Coll) (k m : Nat) : List Str := (List.range x.sigla.length).map fun s => if s < m then colW x k s else []
theorem colP_zero (x : Coll) (k : Nat) : colP x k 0 = List.replicate x.sigla.length [] := by
  apply List.ext_getElem?
  intro i
  simp only [colP, List.getElem?_map, Nat.not_lt_zero, if_false]
  by_cases h : i < x.sigla.length
  · rw [List.getElem?_range h]; simp [h]
  · simp [h]
theorem colP_all (x : Coll) (k : Nat) : colP x k x.sigla.length = colL x k := by
  apply List.map_congr_left
  intro s hs
  rw [if_pos (List.mem_range.1 hs)]
theorem colP_len (x : Coll) (k m : Nat) : (colP x k m).length = x.sigla.length := by simp [colP]
theorem colL_len (x : Coll) (k : Nat) : (colL x k).length = x.sigla.length := by simp [colL]
theorem colP_set (x : Coll) (k m : Nat) : (colP x k m).set m (colW x k m) = colP x k (m + 1) := by
  apply List.ext_getElem?
  intro i
  by_cases hi : i < x.sigla.length
  · by_cases he : m = i
    · subst he
      rw [List.getElem?_set_self (by rw [colP_len]; exact hi)]
      simp only [colP, List.getElem?_map, List.getElem?_range hi, Option.map_some]
      rw [if_pos (by omega)]
    · rw [List.getElem?_set_ne he]
      simp only [colP, List.getElem?_map, List.getElem?_range hi, Option.map_some]
      by_cases h1 : i < m
      · rw [if_pos h1, if_pos (by omega)]
      · rw [if_neg h1, if_neg (by omega)]
  · rw [List.getElem?_eq_none (by rw [List.length_set, colP_len]; omega), List.getElem?_eq_none (by rw [colP_len]; omega)]
theorem colP_skip (x : Coll) (k m : Nat) (h : cellO x k m = none) : colP x k m = colP x k (m + 1) := by
  apply List.map_congr_left
  intro s _
  by_cases h1 : s < m
  · rw [if_pos h1, if_pos (by omega)]
  · by_cases h2 : s = m
    · subst h2; rw [if_neg h1, if_pos (by omega), colW, h]; rfl
    · rw [if_neg h1, if_neg (by omega)]
theorem form_ne {t : Tok} (h : tokC t = 0) : t.text ≠ [] := by
  intro he
  have hf : formB t = true := by
    cases hf : formB t with
    | true => rfl
    | false =>
      exfalso
      unfold tokC at h
      rw [hf] at h
      split at h
      · cases h
      · split at h
        · cases h
        · cases h
  unfold formB at hf
  rw [he] at hf
  split at hf
  · cases hf
  · split at hf
    · rw [gapB, List.any_eq_true] at hf
      obtain ⟨n, _, hn⟩ := hf
      simp [gapS] at hn
    · simp [isWordB] at hf
theorem cell_ne {x : Coll} (hv : Val x) {k s : Nat} {u : Str} (h : cellO x k s = some u) : u ≠ [] := by
  unfold cellO at h
  split at h
  · split at h
    · cases h
    · obtain ⟨t, ht, rfl⟩ := Option.map_eq_some_iff.1 h
      obtain ⟨l, hl, hl2⟩ := Option.bind_eq_some_iff.1 ht
      exact form_ne ((hv.rows l (List.mem_of_getElem? hl)).2 t (List.mem_of_getElem? hl2))
  · cases h
end Go.Ap
namespace Go.Proofs.YtjmebijckcimoaaGreatDoor
open Go.RowKit Go.Ap Go.Shelf Go.Proofs

attribute [local go_sem] Oper.semAt_some bs_toList empty_toList bs_size bs_extract
/-- a box that holds a collation -/
structure BoxC (W : World) (b : Nat) (sec : Str) (a1 : Option Addr) (n1 c1 : Nat) (a2 : Option Addr) (n2 c2 : Nat) (a3 : Option Addr) (n3 c3 : Nat) : Prop where
  k0 : W.cell? ⟨b, 0, none⟩ = some (.string (bs sec))
  k1 : W.cell? ⟨b, 1, none⟩ = some (.slice a1 n1 c1)
  k2 : W.cell? ⟨b, 2, none⟩ = some (.slice a2 n2 c2)
  k3 : W.cell? ⟨b, 3, none⟩ = some (.slice a3 n3 c3)
section
variable {W W' : World} {b e b1 b2 : Nat} {sec : Str} {a1 : Option Addr} {n1 c1 : Nat} {a2 : Option Addr} {n2 c2 : Nat} {a3 : Option Addr} {n3 c3 : Nat}
theorem BoxC.below (h : BoxC W b sec a1 n1 c1 a2 n2 c2 a3 n3 c3) (hb : Below W.heap.size W W') : BoxC W' b sec a1 n1 c1 a2 n2 c2 a3 n3 c3 :=
  ⟨cell_keep hb h.k0, cell_keep hb h.k1, cell_keep hb h.k2, cell_keep hb h.k3⟩
theorem BoxC.kept (h : BoxC W b1 sec a1 n1 c1 a2 n2 c2 a3 n3 c3) (hk : KeepR e b1 b2 W W') : BoxC W' b1 sec a1 n1 c1 a2 n2 c2 a3 n3 c3 :=
  ⟨(hk.cell (.inr (.inl rfl))).trans h.k0, (hk.cell (.inr (.inl rfl))).trans h.k1, (hk.cell (.inr (.inl rfl))).trans h.k2, (hk.cell (.inr (.inl rfl))).trans h.k3⟩
theorem BoxC.new (w : World) (sec : Str) (a1 : Option Addr) (n1 c1 : Nat) (a2 : Option Addr) (n2 c2 : Nat) (a3 : Option Addr) (n3 c3 : Nat) : BoxC (w.alloc (.cells #[.string (bs sec), .slice a1 n1 c1, .slice a2 n2 c2, .slice a3 n3 c3] 26)) w.heap.size sec a1 n1 c1 a2 n2 c2 a3 n3 c3 :=
  ⟨cell_fresh rfl rfl, cell_fresh rfl rfl, cell_fresh rfl rfl, cell_fresh rfl rfl⟩
end
theorem grown_of_below {w w' : World} (h : Below w.heap.size w w') : w.grownBy w' none := ⟨h.os, h.tape, h.output, h.size, fun k hk _ => h.block k hk⟩
theorem infoStr24 : (Tryz.prog.info? 9).map (fun i => (i.zero, i.size, i.bytes)) = some (some (.string { data := #[] }), 1, 16) := by kernel_rfl
/-- where the rows of a column lie -/
theorem col_lies {x : Coll} {a1 a2 a3 : Option Addr} {n1 n2 n3 : Nat} {w : World} (h : CollM w a1 a2 a3 n1 n2 n3 x) (hv : Val x) (i : Nat) (hi : i < x.columns.length) :
    ∃ (b o bc oc cc : Nat), a3 = some ⟨b, o, none⟩ ∧ w.cell? ⟨b, o + i, none⟩ = some (.slice (some ⟨bc, oc, none⟩) n1 cc) ∧ ∀ s, s < x.sigla.length → ∃ y : Int, w.cell? ⟨bc, oc + s, none⟩ = some (.int .i64 y) ∧
      ((y = -1 ∧ cellO x i s = none) ∨ ∃ (m : Nat) (b5 o5 n5 c5 b6 o6 : Nat) (u : Str), y = m ∧ a2 = some ⟨b5, o5, none⟩ ∧ w.cell? ⟨b5, o5 + s, none⟩ = some (.slice (some ⟨b6, o6, none⟩) n5 c5) ∧ m < n5 ∧ n5 ≤ 4611686018427387903 ∧ w.cell? ⟨b6, o6 + m * 6, none⟩ = some (.string (bs u)) ∧ cellO x i s = some u) := by
  have hl1 := h.sigla.len
  have hl2 := h.tokens.len
  have hl3 := h.columns.len
  have h12 := hv.toks
  have hp := hv.pos
  obtain ⟨c, b, off, v, hc, hab, hcv, a', n', c', rfl, hI⟩ := h.columns.at (show i < n3 by omega)
  have hcr := hv.cols c (List.mem_of_getElem? hc)
  have hln := hI.len
  have hcl := hcr.1
  rw [lensT_len] at hcl
  obtain ⟨bc, oc, rfl, hcc⟩ := Ints.at hI (by omega)
  obtain rfl : n' = n1 := by omega
  refine ⟨b, off, bc, oc, c', hab, hcv, fun s hs => ⟨nth c s, hcc s (by omega), ?_⟩⟩
  rcases hcr.2 s (by rw [lensT_len]; omega) with hm | ⟨h0, hlt⟩
  · exact .inl ⟨hm, cellO_neg hc (by omega)⟩
  · obtain ⟨l, b5, o5, v5, hl5, hab5, hcv5, a5, n5, c5, rfl, ht5⟩ := h.tokens.at (show s < n2 by omega)
    rw [lensT_at hl5, ht5.len] at hlt
    obtain ⟨m, hm⟩ : ∃ m : Nat, nth c s = m := ⟨(nth c s).toNat, by omega⟩
    obtain ⟨t, b6, o6, ht, rfl, ⟨⟨q0, _, _, _, _, _⟩, _⟩⟩ := ht5.at (show m < n5 by omega)
    exact .inr ⟨m, b5, o5, n5, c5, b6, o6, t.text, hm, hab5, hcv5, by omega, ht5.small, q0, cellO_pos hc hm hl5 ht⟩

set_option maxRecDepth 100000 in
set_option maxHeartbeats 4000000 in
theorem columnP (x : Coll) (a1 : Option Addr) (n1 c1 : Nat) (a2 : Option Addr) (n2 c2 : Nat) (a3 : Option Addr) (n3 c3 : Nat) (w : World) (h : CollM w a1 a2 a3 n1 n2 n3 x) (hv : Val x) (k : Nat) (hk : k < x.columns.length) :
    Calls Tryz.prog 55 #[collV x.sec a1 n1 c1 a2 n2 c2 a3 n3 c3, .int .i64 k] w fun e w' => ∃ b, e = .returned (.slice (some ⟨b, 0, none⟩) n1 n1) ∧ StrsL w' (some ⟨b, 0, none⟩) n1 (colL x k) ∧ Below w.heap.size w w' := by
  obtain ⟨i0, hi0, hz0, hz1, hz2⟩ := info_parts infoStr24
  have hl1 := h.sigla.len
  have hl2 := h.tokens.len
  have hl3 := h.columns.len
  have hs1 := h.sigla.small
  have hs2 := h.tokens.small
  have hs3 := h.columns.small
  have h12 := hv.toks
  have hle := hv.le
  have HL := Lib.hid hl1
  have HCO := Lib.hid (fun W (hb : Below w.heap.size w W) => col_lies (h.mono (Nat.le_refl _) hb) hv k hk)
  obtain ⟨W4, hW4⟩ : ∃ W4, w.alloc (.cells #[.string (bs x.sec), .slice a1 n1 c1, .slice a2 n2 c2, .slice a3 n3 c3] 26) = W4 := ⟨_, rfl⟩
  have HB4 := Lib.hid (show Below w.heap.size w W4 by rw [← hW4]; exact balloc _ _)
  obtain ⟨q0, q1, q2, q3⟩ := BoxC.new w x.sec a1 n1 c1 a2 n2 c2 a3 n3 c3
  rw [hW4] at q0 q1 q2 q3
  have Q0 := Lib.hid q0
  have Q1 := Lib.hid q1
  have Q2 := Lib.hid q2
  have Q3 := Lib.hid q3
  obtain ⟨B, hB⟩ : ∃ B, w.heap.size + 1 = B := ⟨_, rfl⟩
  have hBA : W4.heap.size = B := by rw [← hW4, ← hB]; simp
  have hrep : ((List.replicate n1 ([] : Str)).map sv).toArray = Array.replicate n1 (.string { data := #[] }) := by simp [sv, bs]
  have hmk : ∀ w, (Instr.makeSlice 22 (.int .i64 n1) (.int .i64 n1)).run Tryz.prog w = .ok (.slice (some ⟨w.heap.size, 0, none⟩) n1 n1) (w.alloc (.cells (Array.replicate n1 (.string { data := #[] })) 9)) := fun w => by
    have h := run_make_row (P := Tryz.prog) 22 9 i0 (.string { data := #[] }) Tryz.underlying22 hi0 hz0 hz1 rfl .i64 .i64 n1 (by rw [hz2]; omega) (by omega) w
    rw [show madeCells #[Value.string { data := #[] }] n1 = ((List.replicate n1 ([] : Str)).map sv).toArray from made_all (enc := sv) (x := []) rfl n1, hrep] at h
    exact h
  have HAR0 := Lib.hid (show ArrG sv (W4.alloc (.cells (Array.replicate n1 (.string { data := #[] })) 9)) B 9 (colP x k 0) by
    rw [colP_zero, HL.out, ArrG, hrep]
    exact heap_fresh hBA.symm)
  have HBA := Lib.hid hBA
  have HBK0 := Lib.hid (show Below B W4 (W4.alloc (.cells (Array.replicate n1 (.string { data := #[] })) 9)) by rw [← hBA]; exact balloc _ _)
  have HW4 := Lib.hid hW4
  have HMK := Lib.hid hmk
  have HB := Lib.hid hB
  have hB0 : w.heap.size < B := by omega
  obtain ⟨b, o, bc, oc, cc, rfl, g0, hcl⟩ := col_lies (h.mono (Nat.le_refl _) HB4.out) hv k hk
  have HCL := Lib.hid hcl
  have G0 := Lib.hid g0
  have i1 : (k : Int) < (n3 : Int) := by omega
  clear h hv hk hW4 hBA hmk hcl hB HCO hrep
  have hmk := HMK.out
  unfold collV
  have g1 := cell_keep (balloc W4 (.cells (Array.replicate n1 (.string { data := #[] })) 9)) g0
  have q3' := cell_keep (balloc W4 (.cells (Array.replicate n1 (.string { data := #[] })) 9)) q3
  rw [← HW4.out] at g0 g1 q0 q1 q2 q3 q3'
  go_enter Tryz.func55, Tryz.ntmps55
  go_wp2_with (fail)
  rw [HW4.out, HB.out] 
  clear hmk q0 q1 q2 q3 g0 g1 q3'
  go_loopw [18] (fun iv wr => ∃ s : Nat, s ≤ n1 ∧ iv = .int .i64 s ∧ Below B W4 wr ∧ ArrG sv wr B 9 (colP x k s)) (fun iv _ => n1 - (intOf iv).toNat)
  case atStart => exact ⟨0, Nat.zero_le _, rfl, HBK0.out, HAR0.out⟩
  case round =>
    obtain ⟨ws, rfl⟩ : ∃ ws : World, ws = wr := ⟨_, rfl⟩
    obtain ⟨s, hsn, rfl, hb, har⟩ := hrel
    have HBS := Lib.hid hb
    have HAR := Lib.hid har
    have hb' : Below W4.heap.size W4 ws := by rw [HBA.out]; exact hb
    clear hb har
    by_cases hlt : s < n1
    · obtain ⟨y, c0, hor⟩ := HCL.out s (by omega)
      have d0 := cell_keep hb' c0
      have hs2' : (s : Int) < (n2 : Int) := by omega
      have hs1' : (s : Int) < (n1 : Int) := by omega
      rcases hor with ⟨rfl, hn⟩ | ⟨m, b5, o5, n5, c5, b6, o6, u, rfl, rfl, p1, p2, p3, p4, hn⟩
      · have HP := Lib.hid (colP_skip x k s hn)
        clear hn c0
        go_wp2_with (fail)
        go_roundw
        case rel => exact ⟨s + 1, by omega, by simp, HBS.out, by rw [← HP.out]; exact HAR.out⟩
        case measure => simp [intOf]; omega
      · have HP := Lib.hid (show (colP x k s).set s u = colP x k (s + 1) by rw [← colP_set, colW, hn]; rfl)
        have f1 := cell_keep hb' p1
        have f2 := cell_keep hb' p4
        have f3 := cell_keep hb' Q2.out
        have hm5 : (m : Int) < (n5 : Int) := by omega
        have hsl : s < (colP x k s).length := by rw [colP_len]; omega
        have hce := HAR.out.cell (List.getElem?_eq_getElem hsl)
        have hfr := HAR.out.free s
        clear hn c0 p1 p4
        go_wp2_with (fail)
        go_roundw
        case rel => exact ⟨s + 1, by omega, by simp, HBS.out.setCell (by simp) _, by rw [← HP.out]; exact HAR.out.set s u⟩
        case measure => simp [intOf]; omega
    · obtain rfl : s = n1 := by omega
      go_wp2_with (fail)
      go_ret
      refine ⟨B, rfl, ?_, HB4.out.trans (HBS.out.mono (by omega))⟩
      have := HAR.out
      rw [← HL.out, colP_all] at this
      exact this.sl (fun _ _ => rfl) (by rw [colL_len, HL.out]) hs1
set_option maxHeartbeats 2000000 in
theorem columnC (x : Coll) (a1 : Option Addr) (n1 c1 : Nat) (a2 : Option Addr) (n2 c2 : Nat) (a3 : Option Addr) (n3 c3 : Nat) (w : World) (h : CollM w a1 a2 a3 n1 n2 n3 x) (hc1 : n1 ≤ c1) (hev : EV w) (hok : collC x = 0) (k : Nat) (hk : k < x.columns.length) :
    Calls Tryz.prog 28 #[collV x.sec a1 n1 c1 a2 n2 c2 a3 n3 c3, .int .i64 k] w fun e w' => ∃ b, e = .returned (.tuple #[.slice (some ⟨b, 0, none⟩) n1 n1, .int .i64 0]) ∧ StrsL w' (some ⟨b, 0, none⟩) n1 (colL x k) ∧ Below w.heap.size w w' := by
  have hl3 := h.columns.len
  have hv := val_of hok
  have HCK := Lib.hid (fun W (hb : Below w.heap.size w W) => collP x a1 n1 c1 a2 n2 c2 a3 n3 c3 W (h.mono (Nat.le_refl _) hb) hc1 (hev.mono (Nat.le_refl _) hb))
  have HCO := Lib.hid (fun W (hb : Below w.heap.size w W) => columnP x a1 n1 c1 a2 n2 c2 a3 n3 c3 W (h.mono (Nat.le_refl _) hb) hv k hk)
  rw [hok] at HCK
  have HB4 := Lib.hid (balloc w (.cells #[.string (bs x.sec), .slice a1 n1 c1, .slice a2 n2 c2, .slice a3 n3 c3] 26))
  have HBX := Lib.hid (BoxC.new w x.sec a1 n1 c1 a2 n2 c2 a3 n3 c3)
  have d0 : decide ((k : Int) < 0) = false := by simp
  have d1 : decide ((n3 : Int) ≤ (k : Int)) = false := by simp; omega
  have d1' : decide (n3 ≤ k) = false := by simp; omega
  clear h hc1 hev hok hv
  unfold collV at HCK HCO ⊢
  go_enter Tryz.func28, Tryz.ntmps28
  obtain ⟨q0, q1, q2, q3⟩ := HBX.out
  go_wp2_with (fail)
  refine (HCK.out _ HB4.out).mono ?_
  rintro e w1 ⟨rfl, hb1⟩
  clear q0 q1 q2 q3
  obtain ⟨q0, q1, q2, q3⟩ := HBX.out.below hb1
  have HB1 := Lib.hid (bstep HB4.out hb1)
  clear hb1
  go_wp2_with (fail)
  refine (HCO.out _ HB1.out).mono ?_
  rintro e w2 ⟨b, rfl, hs, hb2⟩
  have HS := Lib.hid hs
  clear hs
  go_wp2_with (fail)
  go_ret2
  exact ⟨b, rfl, HS.out, bstep HB1.out hb2⟩
end Go.Proofs.YtjmebijckcimoaaGreatDoor
