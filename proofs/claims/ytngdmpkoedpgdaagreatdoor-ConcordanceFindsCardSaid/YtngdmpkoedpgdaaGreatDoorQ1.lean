import Derived.Sort.Grow
import Derived.Lib.ConvBytes
import Derived.Test.YtngdmpkoedpgdaaGreatDoorDp
import Derived.Test.YtngdmpkoedpgdaaGreatDoorOi
import Derived.Test.YtngdmpkoedpgdaaGreatDoorNa
import Derived.Test.YtngdmpkoedpgdaaGreatDoorShb
import Derived.Sort.Row

/-
  What a comparison of a sort's may do: draw, and lay blocks. Bytes of the call's own.
-/




namespace Go.Ap
open Go Go.RowKit
/-- draws and blocks behind the heap: nothing else -/
def Lw (w w' : World) : Prop := ∃ q os, w' = Sort.grow (w.drewN q) os
section
variable {w w' w'' : World}
theorem Lw.refl (w : World) : Lw w w := ⟨0, #[], by rw [Sort.grow_empty]; rfl⟩
theorem Lw.trans (h : Lw w w') (k : Lw w' w'') : Lw w w'' := by
  obtain ⟨q, os, rfl⟩ := h
  obtain ⟨r, os', rfl⟩ := k
  refine ⟨q + r, os ++ os', ?_⟩
  rw [← Sort.grow_grow]
  unfold Sort.grow World.drewN
  simp only [Nat.add_assoc]
theorem Lw.below (h : Lw w w') : Below w.heap.size w w' := by
  obtain ⟨q, os, rfl⟩ := h
  refine ⟨rfl, rfl, rfl, by rw [Sort.size_grow]; exact Nat.le_add_right _ _, fun k hk => ?_⟩
  rw [Sort.heap_grow_old _ _ (by exact hk)]
  rfl
theorem Lw.drawn (h : Lw w w') : w.drawn ≤ w'.drawn := by
  obtain ⟨q, os, rfl⟩ := h
  exact Nat.le_add_right _ _
theorem lw_of (h : Below w.heap.size w w') (hd : w.drawn ≤ w'.drawn) : Lw w w' := by
  refine ⟨w'.drawn - w.drawn, w'.heap.extract w.heap.size w'.heap.size, ?_⟩
  obtain ⟨heap, tape, drawn, os, output⟩ := w'
  obtain ⟨h1, h2, h3, h4, h5⟩ := h
  simp only at h1 h2 h3 h4 h5 hd
  subst h1 h2 h3
  unfold Sort.grow World.drewN
  simp only [World.mk.injEq, and_true, true_and]
  refine ⟨?_, by omega⟩
  apply Array.ext_getElem?
  intro k
  rw [Array.getElem?_append]
  by_cases hk : k < w.heap.size
  · rw [if_pos hk]
    exact h5 k hk
  · rw [if_neg hk, Array.getElem?_extract]
    by_cases h6 : k - w.heap.size < heap.size - w.heap.size
    · rw [if_pos (by omega), show w.heap.size + (k - w.heap.size) = k by omega]
    · rw [if_neg (by omega), Array.getElem?_eq_none (by omega)]
end
/-- bytes that may be stored -/
def BytesAt (W : World) (b : Nat) (xs : Str) : Prop := ∀ j (h : j < xs.length), W.cell? ⟨b, j, none⟩ = some (.int .u8 (xs[j].toNat : Int)) ∧ W.frozen? ⟨b, j, none⟩ = false
section
variable {W W' : World} {b : Nat} {xs : Str}
theorem BytesAt.new (w : World) (e : TypeId) (s : Str) : BytesAt (Lib.bytesWorld w e (bs s)) w.heap.size s := fun j h => by
  have hs : (bs s).size = s.length := bs_size
  refine ⟨?_, ?_⟩
  · rw [Lib.bytesWorld_cell w e (bs s) j (by omega)]
    simp [bs, List.getD, List.getElem?_eq_getElem h]
  · have hc := Lib.bytesWorld_at_new w e (bs s)
    have hl : s.length ≤ (Lib.bytesCells w e (bs s)).size := by
      unfold Lib.bytesCells
      rw [Array.size_append, Array.size_map]
      have : (bs s).data.size = s.length := hs
      omega
    simp only [World.frozen?, hc]
    simp only [Bool.and_eq_false_iff, decide_eq_false_iff_not]
    left
    omega
theorem BytesAt.set (h : BytesAt W b xs) (i : Nat) (c : UInt8) : BytesAt (W.setCell ⟨b, i, none⟩ (.int .u8 (c.toNat : Int))) b (xs.set i c) := fun j hj => by
  rw [List.length_set] at hj
  obtain ⟨h1, h2⟩ := h j hj
  obtain ⟨cs, e, fr, g1, g2⟩ := Sort.cells_of_cell? h1
  have g3 : (W.setCell ⟨b, i, none⟩ (.int .u8 (c.toNat : Int))).heap[b]? = some (.cells (cs.setIfInBounds i (.int .u8 (c.toNat : Int))) e fr) := by
    simp [World.setCell, Array.getElem?_modify, g1]
  refine ⟨?_, ?_⟩
  · simp only [World.cell?, g3]
    have hjs : j < cs.size := (Array.getElem?_eq_some_iff.1 g2).1
    by_cases hij : i = j
    · subst hij
      simp [hjs]
    · simp only [List.getElem_set, if_neg hij]
      simpa [Array.getElem?_setIfInBounds, hij] using g2
  · simp only [World.frozen?, g3]
    simpa only [World.frozen?, g1] using h2
theorem BytesAt.lt (h : BytesAt W b xs) (h0 : 0 < xs.length) : b < W.heap.size := World.block_lt_of_cell? W _ (h 0 h0).1
theorem BytesAt.conv {P : Program} {src dst e : TypeId} (h : BytesAt W b xs) (c : Nat) (hs : P.underlying src = some (.slice e)) (he : P.underlying e = some (.int .u8)) (hd : P.underlying dst = some .string) :
    (convert src dst (.slice (some ⟨b, 0, none⟩) xs.length c)).run P W = .ok (.string (bs xs)) W :=
  run_convert_bytes_back W src dst e ⟨b, 0, none⟩ c xs hs he hd fun j hj => by
    have := (h j hj).1
    have hadd : (⟨b, 0, none⟩ : Addr).add j = ⟨b, j, none⟩ := by unfold Addr.add; split <;> simp_all
    rw [hadd]
    exact this
theorem bytes_drawn (w : World) (e : TypeId) (s : ByteArray) : w.drawn ≤ (Lib.bytesWorld w e s).drawn := by
  unfold Lib.bytesWorld World.freeze
  split <;> exact Nat.le_succ _
end
end Go.Ap

/-
  Small letters (charset).
-/


namespace Go.Ap
open Go Go.RowKit
/-- the first k letters made small -/
def foldN (s : Str) (k : Nat) : Str := (s.take k).map lowC ++ s.drop k
theorem foldN_len (s : Str) (k : Nat) : (foldN s k).length = s.length := by simp [foldN]; omega
theorem foldN_zero (s : Str) : foldN s 0 = s := by simp [foldN]
theorem foldN_end (s : Str) : foldN s s.length = foldS s := by simp [foldN, foldS]
theorem foldN_at {s : Str} {k : Nat} (h : k < s.length) : (foldN s k)[k]'(by rw [foldN_len]; exact h) = s[k] := by
  unfold foldN
  rw [List.getElem_append_right (by simp; omega)]
  simp [Nat.min_eq_left (Nat.le_of_lt h)]
theorem foldN_succ {s : Str} {k : Nat} (h : k < s.length) : (foldN s k).set k (lowC s[k]) = foldN s (k + 1) := by
  unfold foldN
  have hl : ((s.take k).map lowC).length = k := by simp; omega
  rw [List.set_append_right _ _ (by omega), hl, Nat.sub_self, List.take_succ_eq_append_getElem h, List.map_append, List.drop_eq_getElem_cons h, List.set_cons_zero]
  simp
theorem foldN_same {s : Str} {k : Nat} (h : k < s.length) (hc : lowC s[k] = s[k]) : foldN s k = foldN s (k + 1) := by
  rw [← foldN_succ h, hc]
  conv => rhs; rw [← foldN_at h]
  rw [List.set_getElem_self]
theorem low_up {c : UInt8} (h1 : 65 ≤ c.toNat) (h2 : c.toNat ≤ 90) : ((lowC c).toNat : Int) = c.toNat + 32 := by
  unfold lowC
  rw [if_pos ⟨h1, h2⟩, UInt8.toNat_add]
  have : (32 : UInt8).toNat = 32 := rfl
  omega
theorem low_no {c : UInt8} (h : ¬(65 ≤ c.toNat ∧ c.toNat ≤ 90)) : lowC c = c := by
  unfold lowC
  rw [if_neg h]
end Go.Ap
namespace Go.Proofs.YtngdmpkoedpgdaaGreatDoor
open Go.RowKit Go.Ap Go.Shelf Go.Proofs

attribute [local go_sem] Oper.semAt_some bs_toList empty_toList bs_size bs_extract

set_option maxRecDepth 100000 in
set_option maxHeartbeats 4000000 in
theorem foldP (s : Str) (w : World) (hs : s.length ≤ 4611686018427387903) :
    Calls Tryz.prog 94 #[.string (bs s)] w fun e w' => e = .returned (.string (bs (foldS s))) ∧ Lw w w' := by
  have kc := fun (w : World) => Lib.run_convert_string_bytes (P := Tryz.prog) w 9 23 5 (bs s) Tryz.underlying9 Tryz.underlying23 Tryz.underlying5
  have HNEW := Lib.hid (BytesAt.new w 5 s)
  have HBL := Lib.hid (show Below w.heap.size w (Lib.bytesWorld w 5 (bs s)) from ⟨rfl, by unfold Lib.bytesWorld World.freeze; split <;> rfl, by unfold Lib.bytesWorld World.freeze; split <;> rfl, by rw [Lib.bytesWorld_size]; omega, fun k hk => Lib.bytesWorld_at_old _ _ _ _ hk⟩)
  have HDR := Lib.hid (bytes_drawn w 5 (bs s))
  obtain ⟨W, hW⟩ : ∃ W, Lib.bytesWorld w 5 (bs s) = W := ⟨_, rfl⟩
  have kw := kc w
  rw [hW, bs_size] at kw
  rw [hW] at HNEW HBL HDR
  obtain ⟨c0, hc0⟩ : ∃ c, grownCap w s.length 0 5 = c := ⟨_, rfl⟩
  rw [hc0] at kw
  clear kc hW hc0
  obtain ⟨b, hb⟩ : ∃ b, w.heap.size = b := ⟨_, rfl⟩
  rw [hb] at kw HNEW
  have HB := Lib.hid hb
  clear hb
  go_enter Tryz.func94, Tryz.ntmps94
  go_wp2_with (fail)
  go_loopw [10] (fun kv wr => ∃ k : Nat, k ≤ s.length ∧ kv = .int .i64 k ∧ BytesAt wr b (foldN s k) ∧ Below w.heap.size w wr ∧ w.drawn ≤ wr.drawn) (fun kv _ => s.length - (intOf kv).toNat)
  case atStart => exact ⟨0, Nat.zero_le _, rfl, by rw [foldN_zero]; exact HNEW.out, HBL.out, HDR.out⟩
  case round =>
    obtain ⟨wi, rfl⟩ : ∃ wi : World, wi = wr := ⟨_, rfl⟩
    obtain ⟨k, hk, rfl, ha, hbb, hd⟩ := hrel
    have HA := Lib.hid ha
    have HBB := Lib.hid hbb
    have HD := Lib.hid hd
    by_cases hlt : k < s.length
    · obtain ⟨c1, c2⟩ := ha k (by rw [foldN_len]; exact hlt)
      rw [foldN_at hlt] at c1
      have HSU := Lib.hid (foldN_succ hlt)
      have HSA := Lib.hid (foldN_same hlt)
      obtain ⟨c, hc⟩ : ∃ c, s[k] = c := ⟨_, rfl⟩
      rw [hc] at c1 HSU HSA
      have HC0 := Lib.hid hc
      have i1 : (k : Int) < (s.length : Int) := by omega
      have hlo := c.toNat_lt
      clear ha hbb hd hc
      by_cases h1 : 65 ≤ c.toNat
      · by_cases h2 : c.toNat ≤ 90
        · have d1 : (65 : Int) ≤ (c.toNat : Int) := by omega
          have d2 : (c.toNat : Int) ≤ 90 := by omega
          have HW := Lib.hid (low_up h1 h2)
          clear h1 h2
          go_wp2_with (fail)
          rw [show (c.toNat : Int) - 65 + 97 = ((lowC c).toNat : Int) by rw [HW.out]; omega]
          exact ⟨⟨k + 1, by omega, by simp, by rw [← HSU.out]; exact HA.out.set k _, HBB.out.setCell (p := ⟨b, k, none⟩) (by show w.heap.size ≤ b; rw [HB.out]; exact Nat.le_refl _) _, HD.out⟩, by simp [intOf]; omega⟩
        · have d1 : (65 : Int) ≤ (c.toNat : Int) := by omega
          have d2 : ¬(c.toNat : Int) ≤ 90 := by omega
          have HSN := Lib.hid (HSA.out (low_no (fun h => h2 h.2)))
          clear h1 h2
          go_wp2_with (fail)
          exact ⟨⟨k + 1, by omega, by simp, by rw [← HSN.out]; exact HA.out, HBB.out, HD.out⟩, by simp [intOf]; omega⟩
      · have d1 : ¬(65 : Int) ≤ (c.toNat : Int) := by omega
        have HSN := Lib.hid (HSA.out (low_no (fun h => h1 h.1)))
        clear h1
        go_wp2_with (fail)
        exact ⟨⟨k + 1, by omega, by simp, by rw [← HSN.out]; exact HA.out, HBB.out, HD.out⟩, by simp [intOf]; omega⟩
    · obtain rfl : s.length = k := by omega
      rw [foldN_end] at ha
      have hcv := ha.conv (P := Tryz.prog) (src := 23) (dst := 9) (e := 5) c0 Tryz.underlying23 Tryz.underlying5 Tryz.underlying9
      rw [show (foldS s).length = s.length by simp [foldS]] at hcv
      clear ha hbb hd
      go_wp2_with (fail)
      go_ret
      exact ⟨rfl, lw_of HBB.out HD.out⟩
end Go.Proofs.YtngdmpkoedpgdaaGreatDoor

/-
  Without marks (charset).
-/



namespace Go.Ap
open Go Go.RowKit
/-- a mark -/
def mkB (c : UInt8) : Bool := decide (wk c = 2)
/-- a byte as a value -/
def encB (c : UInt8) : Value := .int .u8 (c.toNat : Int)
section
variable {W w : World} {b : Nat} {xs : Str}
theorem BytesAt.holds (h : BytesAt W b xs) : Sort.Holds encB W b 0 xs.toArray := fun j hj => by
  have hj' : j < xs.length := by simpa using hj
  obtain ⟨h1, h2⟩ := h j hj'
  rw [Nat.zero_add]
  refine ⟨?_, h2⟩
  rw [h1, getElem!_pos xs.toArray j hj]
  simp [encB]
theorem bytesAt_of (xs : Str) (ys : Array UInt8) (h : Sort.Holds encB W b 0 ys) (hx : ∀ j (h : j < xs.length), ∃ h2 : j < ys.size, ys[j] = xs[j]) : BytesAt W b xs := fun j hj => by
  obtain ⟨h2, h3⟩ := hx j hj
  obtain ⟨g1, g2⟩ := h j h2
  rw [Nat.zero_add] at g1 g2
  refine ⟨?_, g2⟩
  rw [g1, getElem!_pos ys j h2, h3]
  rfl
theorem below_putRow {α : Type} [Inhabited α] {B : Nat} {a w : World} (h : Below B a w) (enc : α → Value) {blk off : Nat} {d : Array α} (hb : B ≤ blk) : Below B a (Sort.putRow enc w blk off d) :=
  ⟨h.os, h.tape, h.output, by rw [Sort.size_putRow]; exact h.size, fun k hk => by
    rw [← h.block k hk]
    unfold Sort.putRow Sort.mapBlock
    rw [Array.getElem?_modify, if_neg (by omega)]⟩
theorem bytes_belowW (w : World) (e : TypeId) (s : ByteArray) : Below w.heap.size w (Lib.bytesWorld w e s) :=
  ⟨by unfold Lib.bytesWorld World.freeze; split <;> rfl, by unfold Lib.bytesWorld World.freeze; split <;> rfl, by unfold Lib.bytesWorld World.freeze; split <;> rfl, by rw [Lib.bytesWorld_size]; omega, fun k hk => Lib.bytesWorld_at_old _ _ _ _ hk⟩
end
end Go.Ap
namespace Go.Proofs.YtngdmpkoedpgdaaGreatDoor
open Go.RowKit Go.Ap Go.Shelf Go.Proofs

attribute [local go_sem] Oper.semAt_some bs_toList empty_toList bs_size bs_extract

theorem plain1 (c : UInt8) (w : World) : Calls Tryz.prog 147 #[.int .u8 (c.toNat : Int)] w fun e w' => e = .returned (.bool (mkB c)) ∧ w = w' := by
  have H := Lib.hid (kindPc c w)
  have HP := Lib.hid (show mkB c = (wk c == 2) by unfold mkB; exact (Bool.beq_eq_decide_eq _ _).symm)
  rw [HP.out]
  have HS := wk_seven c
  clear HP
  generalize wk c = k at *
  rcases HS with rfl | rfl | rfl | rfl | rfl | rfl | rfl
  all_goals
    go_enter Tryz.func147, Tryz.ntmps147
    go_wp2_with (fail)
    refine H.out.mono ?_
    rintro e w1 ⟨rfl, rfl⟩
    go_wp2_with (fail)
    go_ret
    exact ⟨rfl, rfl⟩
theorem plain1_gives (c : UInt8) (W : World) : FnGives Tryz.prog 147 #[] #[encB c] (.bool (mkB c)) W :=
  (plain1 c W).mono fun _ _ ⟨h1, h2⟩ => ⟨h1, 0, h2.symm⟩
set_option maxRecDepth 100000 in
set_option maxHeartbeats 4000000 in
theorem plainP (s : Str) (w : World) (hs : s.length ≤ 4611686018427387903) :
    Calls Tryz.prog 95 #[.string (bs s)] w fun e w' => e = .returned (.string (bs (plainM mkB s))) ∧ Lw w w' := by
  have kw := Lib.run_convert_string_bytes (P := Tryz.prog) w 9 23 5 (bs s) Tryz.underlying9 Tryz.underlying23 Tryz.underlying5
  have hnew := BytesAt.new w 5 s
  have hbl := bytes_belowW w 5 (bs s)
  have hdr := bytes_drawn w 5 (bs s)
  have hsz := Lib.bytesWorld_size w 5 (bs s)
  obtain ⟨W, hW⟩ : ∃ W, Lib.bytesWorld w 5 (bs s) = W := ⟨_, rfl⟩
  rw [hW, bs_size] at kw
  rw [hW] at hnew hbl hdr hsz
  have hcap := grownCap_ge w s.length 0 5
  obtain ⟨c0, hc0⟩ : ∃ c, grownCap w s.length 0 5 = c := ⟨_, rfl⟩
  rw [hc0] at kw hcap
  obtain ⟨b, hb⟩ : ∃ b, w.heap.size = b := ⟨_, rfl⟩
  rw [hb] at kw hnew hsz
  have hD := AnyE.slices_DeleteFunc Tryz.delf146 encB (fun _ => rfl) mkB 147 #[] (enters_of Tryz.func147 (by kernel_rfl) rfl) 0 (fun w => Tryz.zeroValue5 w) b 0 c0 s.toArray W (fun W' x _ => plain1_gives x W') (fun n os dk x _ => plain1_gives x _) hnew.holds (by simp; omega) (by simpa using hcap)
  have hpl : (s.filter fun x => !mkB x).length ≤ s.length := List.length_filter_le _ _
  have hD2 : Calls Tryz.prog 146 #[.slice (some ⟨b, 0, none⟩) s.length c0, .func (.func 147) #[] #[]] W fun e w' =>
      e = .returned (.slice (some ⟨b, 0, none⟩) (plainM mkB s).length c0) ∧ BytesAt w' b (plainM mkB s) ∧ Below w.heap.size w w' ∧ w.drawn ≤ w'.drawn := by
    have hD' : Calls Tryz.prog 146 _ W _ := hD
    refine (show Calls Tryz.prog 146 #[.slice (some ⟨b, 0, none⟩) s.length c0, .func (.func 147) #[] #[]] W _ by simpa using hD').mono ?_
    rintro e w' ⟨rfl, q, rfl⟩
    refine ⟨rfl, ?_, below_putRow (show Below w.heap.size w (Sort.ahead W q) from ⟨hbl.os, hbl.tape, hbl.output, hbl.size, hbl.block⟩) encB (by omega), ?_⟩
    · refine bytesAt_of _ _ (Sort.holds_putRow encB _ b 0 s.toArray _ (Sort.holds_ahead encB W q b 0 _ hnew.holds) (by simp; omega)) fun j hj => ?_
      have hj' : j < (s.filter fun x => !mkB x).length := hj
      exact ⟨by simp; omega, by simp [plainM, List.getElem_append_left hj']⟩
    · rw [Sort.drawn_putRow, Sort.drawn_ahead]
      omega
  have HD := Lib.hid hD2
  clear hD hD2 hnew hbl hdr hcap hpl hW hc0 hb hsz
  go_enter Tryz.func95, Tryz.ntmps95
  go_wp2_with (fail)
  refine HD.out.mono ?_
  rintro e w1 ⟨rfl, ha, h1, h2⟩
  have hcv := ha.conv (P := Tryz.prog) (src := 23) (dst := 9) (e := 5) c0 Tryz.underlying23 Tryz.underlying5 Tryz.underlying9
  have HL := Lib.hid (lw_of h1 h2)
  clear ha h1 h2
  go_wp2_with (fail)
  go_ret
  exact ⟨rfl, HL.out⟩
end Go.Proofs.YtngdmpkoedpgdaaGreatDoor

/-
  Dictionary order (charset).
-/

namespace Go.Ap
open Go Go.RowKit
theorem Lw.alloc {w w' : World} (h : Lw w w') (o : Obj) : Lw w (w'.alloc o) := h.trans ⟨0, #[o], by rw [Sort.alloc_eq_grow]; rfl⟩
theorem Lw.drew {w w' : World} (h : Lw w w') : Lw w w'.drew := h.trans ⟨1, #[], by rw [Sort.grow_empty]; rfl⟩
theorem Lw.cell {w w' : World} (h : Lw w w') {a : Addr} {v : Value} (hc : w.cell? a = some v) : w'.cell? a = some v := by
  rw [h.below.cell (World.block_lt_of_cell? w a hc)]
  exact hc
theorem plainM_le (mk : UInt8 → Bool) (s : Str) : (plainM mk s).length ≤ s.length := List.length_filter_le _ _
theorem foldS_len (s : Str) : (foldS s).length = s.length := List.length_map _
end Go.Ap
namespace Go.Proofs.YtngdmpkoedpgdaaGreatDoor
open Go.RowKit Go.Ap Go.Shelf Go.Proofs

attribute [local go_sem] Oper.semAt_some bs_toList empty_toList bs_size bs_extract bl_eq

theorem isNaN_str (s : Str) (w : World) : Calls Tryz.prog 180 #[.string (bs s)] w fun e w' => e = .returned (.bool false) ∧ w = w' := by
  go_enter Tryz.func180, Tryz.ntmps180
  go_wp2_with (fail)
  go_ret
  exact ⟨by simp, rfl⟩
set_option maxRecDepth 100000 in
set_option maxHeartbeats 2000000 in
theorem cmpStr (a b : Str) (w : World) : Calls Tryz.prog 138 #[.string (bs a), .string (bs b)] w fun e w' => e = .returned (.int .i64 (cmpS a b)) ∧ w = w' := by
  have H1 := Lib.hid (isNaN_str a)
  have H2 := Lib.hid (isNaN_str b)
  have HU := Lib.hid (show cmpS a b = if ltS a b then -1 else if ltS b a then 1 else 0 from rfl)
  rw [HU.out]
  cases h1 : ltS a b
  · have hab : (ltS b a = true → (a == b) = false) ∧ (ltS b a = false → (a == b) = true) := ⟨fun h => (by rw [beq_eq_false_iff_ne]; rintro rfl; rw [ltS_irr] at h; exact Bool.noConfusion h), fun h => (by rw [ltS_tri h1 h]; simp)⟩
    cases h2 : ltS b a
    · have e1 := hab.2 h2
      clear hab h2
      go_enter Tryz.func138, Tryz.ntmps138
      go_wp2_with (fail)
      refine (H1.out _).mono ?_
      rintro e w1 ⟨rfl, rfl⟩
      go_wp2_with (fail)
      refine (H2.out _).mono ?_
      rintro e w1 ⟨rfl, rfl⟩
      go_wp2_with (fail)
      go_ret
      exact ⟨rfl, rfl⟩
    · have e1 := hab.1 h2
      clear hab h2
      go_enter Tryz.func138, Tryz.ntmps138
      go_wp2_with (fail)
      refine (H1.out _).mono ?_
      rintro e w1 ⟨rfl, rfl⟩
      go_wp2_with (fail)
      refine (H2.out _).mono ?_
      rintro e w1 ⟨rfl, rfl⟩
      go_wp2_with (fail)
      go_ret
      exact ⟨rfl, rfl⟩
  · go_enter Tryz.func138, Tryz.ntmps138
    go_wp2_with (fail)
    refine (H1.out _).mono ?_
    rintro e w1 ⟨rfl, rfl⟩
    go_wp2_with (fail)
    refine (H2.out _).mono ?_
    rintro e w1 ⟨rfl, rfl⟩
    go_wp2_with (fail)
    go_ret
    exact ⟨rfl, rfl⟩
theorem cmp1P (s : Str) (w : World) (hs : s.length ≤ 4611686018427387903) :
    Calls Tryz.prog 136 #[.string (bs s)] w fun e w' => e = .returned (.string (bs (foldS (plainM mkB s)))) ∧ Lw w w' := by
  have H1 := Lib.hid (plainP s w hs)
  have H2 := Lib.hid (fun W => foldP (plainM mkB s) W (Nat.le_trans (plainM_le _ _) hs))
  go_enter Tryz.func136, Tryz.ntmps136
  go_wp2_with (fail)
  refine H1.out.mono ?_
  rintro e w1 ⟨rfl, hb1⟩
  go_wp2_with (fail)
  refine (H2.out _).mono ?_
  rintro e w2 ⟨rfl, hb2⟩
  go_wp2_with (fail)
  go_ret
  exact ⟨rfl, hb1.trans hb2⟩
theorem cmp2P (s : Str) (w : World) : Calls Tryz.prog 137 #[.string (bs s)] w fun e w' => e = .returned (.string (bs s)) ∧ Lw w w' := by
  go_enter Tryz.func137, Tryz.ntmps137
  go_wp2_with (fail)
  go_ret
  exact ⟨rfl, Lw.refl _⟩
set_option maxRecDepth 100000 in
set_option maxHeartbeats 4000000 in
theorem compareP (a b : Str) (w : World) (ha : a.length ≤ 4611686018427387903) (hb : b.length ≤ 4611686018427387903) :
    Calls Tryz.prog 80 #[.string (bs a), .string (bs b)] w fun e w' => e = .returned (.int .i64 (dictM mkB a b)) ∧ Lw w w' := by
  have A1 := Lib.hid (fun W => cmp1P a W ha)
  have A2 := Lib.hid (fun W => cmp1P b W hb)
  have B1 := Lib.hid (fun W => plainP a W ha)
  have B2 := Lib.hid (fun W => plainP b W hb)
  have C1 := Lib.hid (fun W => cmp2P a W)
  have C2 := Lib.hid (fun W => cmp2P b W)
  have D1 := Lib.hid (fun W => cmpStr (foldS (plainM mkB a)) (foldS (plainM mkB b)) W)
  have D2 := Lib.hid (fun W => cmpStr (plainM mkB a) (plainM mkB b) W)
  have D3 := Lib.hid (fun W => cmpStr a b W)
  have HU := Lib.hid (show dictM mkB a b = if cmpS (foldS (plainM mkB a)) (foldS (plainM mkB b)) = 0 then if cmpS (plainM mkB a) (plainM mkB b) = 0 then cmpS a b else cmpS (plainM mkB a) (plainM mkB b) else cmpS (foldS (plainM mkB a)) (foldS (plainM mkB b)) from rfl)
  obtain ⟨r1, h1⟩ : ∃ r, cmpS (foldS (plainM mkB a)) (foldS (plainM mkB b)) = r := ⟨_, rfl⟩
  obtain ⟨r2, h2⟩ : ∃ r, cmpS (plainM mkB a) (plainM mkB b) = r := ⟨_, rfl⟩
  obtain ⟨r3, h3⟩ : ∃ r, cmpS a b = r := ⟨_, rfl⟩
  rw [h1, h2, h3] at HU
  rw [h1] at D1
  rw [h2] at D2
  rw [h3] at D3
  obtain ⟨R, hR⟩ : ∃ R, dictM mkB a b = R := ⟨_, rfl⟩
  rw [hR] at HU ⊢
  clear h1 h2 h3 hR
  have HN := Lib.hid (BlkK.new w #[.func (.func 136) #[] #[], .func (.func 95) #[] #[], .func (.func 137) #[] #[]] 59)
  go_enter Tryz.func80, Tryz.ntmps80
  go_wp2_with (fail)
  go_loopw [12] (fun kv wr => ∃ k : Nat, k ≤ 3 ∧ kv = .int .i64 k ∧ BlkK wr w.heap.size #[.func (.func 136) #[] #[], .func (.func 95) #[] #[], .func (.func 137) #[] #[]] 59 ∧ Lw w wr ∧ (1 ≤ k → r1 = 0) ∧ (2 ≤ k → r2 = 0) ∧ (3 ≤ k → r3 = 0)) (fun kv _ => 3 - (intOf kv).toNat)
  case atStart => exact ⟨0, Nat.zero_le _, rfl, HN.out, (Lw.refl w).alloc _, by omega, by omega, by omega⟩
  case round =>
    obtain ⟨wi, rfl⟩ : ∃ wi : World, wi = wr := ⟨_, rfl⟩
    obtain ⟨k, hk, rfl, hbk, hl, g1, g2, g3⟩ := hrel
    have HBK := Lib.hid hbk
    have HL := Lib.hid hl
    have G1 := Lib.hid g1
    have G2 := Lib.hid g2
    have c0 : wi.cell? ⟨w.heap.size, 0, none⟩ = some (.func (.func 136) #[] #[]) := hbk.cell (i := 0) rfl
    have c1 : wi.cell? ⟨w.heap.size, 1, none⟩ = some (.func (.func 95) #[] #[]) := hbk.cell (i := 1) rfl
    have c2 : wi.cell? ⟨w.heap.size, 2, none⟩ = some (.func (.func 137) #[] #[]) := hbk.cell (i := 2) rfl
    obtain rfl | rfl | rfl | rfl : k = 0 ∨ k = 1 ∨ k = 2 ∨ k = 3 := by omega
    · clear hbk hl g1 g2 g3
      go_wp2_with (fail)
      refine (A1.out _).mono ?_
      rintro e w1 ⟨rfl, l1⟩
      have L1 := Lib.hid (HL.out.trans l1)
      have d0 := l1.cell c0
      have HB1 := Lib.hid (HBK.out.below l1.below)
      clear l1
      go_wp2_with (fail)
      refine (A2.out _).mono ?_
      rintro e w2 ⟨rfl, l2⟩
      have L2 := Lib.hid (L1.out.trans l2)
      have HB2 := Lib.hid (HB1.out.below l2.below)
      clear l2
      go_wp2_with (fail)
      refine (D1.out _).mono ?_
      rintro e w3 ⟨rfl, rfl⟩
      by_cases hr : r1 = 0
      · have HR := Lib.hid hr
        have e1 : (r1 != 0) = false := by simp [hr]
        clear hr
        go_wp2_with (fail)
        exact ⟨⟨1, by omega, by simp, HB2.out, L2.out, fun _ => HR.out, by omega, by omega⟩, by simp [intOf]⟩
      · have HR := Lib.hid hr
        have e1 : (r1 != 0) = true := by simpa using hr
        clear hr
        go_wp2_with (fail)
        go_ret
        exact ⟨ret_i (by rw [HU.out, if_neg HR.out]), L2.out⟩
    · clear hbk hl g1 g2 g3
      go_wp2_with (fail)
      refine (B1.out _).mono ?_
      rintro e w1 ⟨rfl, l1⟩
      have L1 := Lib.hid (HL.out.trans l1)
      have d1 := l1.cell c1
      have HB1 := Lib.hid (HBK.out.below l1.below)
      clear l1
      go_wp2_with (fail)
      refine (B2.out _).mono ?_
      rintro e w2 ⟨rfl, l2⟩
      have L2 := Lib.hid (L1.out.trans l2)
      have HB2 := Lib.hid (HB1.out.below l2.below)
      clear l2
      go_wp2_with (fail)
      refine (D2.out _).mono ?_
      rintro e w3 ⟨rfl, rfl⟩
      by_cases hr : r2 = 0
      · have HR := Lib.hid hr
        have e1 : (r2 != 0) = false := by simp [hr]
        clear hr
        go_wp2_with (fail)
        exact ⟨⟨2, by omega, by simp, HB2.out, L2.out, fun _ => G1.out (by omega), fun _ => HR.out, by omega⟩, by simp [intOf]⟩
      · have HR := Lib.hid hr
        have e1 : (r2 != 0) = true := by simpa using hr
        clear hr
        go_wp2_with (fail)
        go_ret
        exact ⟨ret_i (by rw [HU.out, if_pos (G1.out (by omega)), if_neg HR.out]), L2.out⟩
    · clear hbk hl g1 g2 g3
      go_wp2_with (fail)
      refine (C1.out _).mono ?_
      rintro e w1 ⟨rfl, l1⟩
      have L1 := Lib.hid (HL.out.trans l1)
      have d2 := l1.cell c2
      have HB1 := Lib.hid (HBK.out.below l1.below)
      clear l1
      go_wp2_with (fail)
      refine (C2.out _).mono ?_
      rintro e w2 ⟨rfl, l2⟩
      have L2 := Lib.hid (L1.out.trans l2)
      have HB2 := Lib.hid (HB1.out.below l2.below)
      clear l2
      go_wp2_with (fail)
      refine (D3.out _).mono ?_
      rintro e w3 ⟨rfl, rfl⟩
      by_cases hr : r3 = 0
      · have HR := Lib.hid hr
        have e1 : (r3 != 0) = false := by simp [hr]
        clear hr
        go_wp2_with (fail)
        exact ⟨⟨3, by omega, by simp, HB2.out, L2.out, fun _ => G1.out (by omega), fun _ => G2.out (by omega), fun _ => HR.out⟩, by simp [intOf]⟩
      · have HR := Lib.hid hr
        have e1 : (r3 != 0) = true := by simpa using hr
        clear hr
        go_wp2_with (fail)
        go_ret
        exact ⟨ret_i (by rw [HU.out, if_pos (G1.out (by omega)), if_pos (G2.out (by omega))]), L2.out⟩
    · have HZ := Lib.hid (show (0 : Int) = R by rw [HU.out, if_pos (g1 (by omega)), if_pos (g2 (by omega)), g3 (by omega)])
      clear hbk hl g1 g2 g3
      go_wp2_with (fail)
      go_ret
      exact ⟨ret_i HZ.out, HL.out⟩
end Go.Proofs.YtngdmpkoedpgdaaGreatDoor
