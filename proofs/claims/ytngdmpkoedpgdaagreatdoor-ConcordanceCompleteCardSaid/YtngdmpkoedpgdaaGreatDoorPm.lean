/-
  Without marks (charset).
-/
import Derived.Test.YtngdmpkoedpgdaaGreatDoorFo
import Derived.Test.YtngdmpkoedpgdaaGreatDoorShb
import Derived.Sort.Row
namespace Go.Ap
open Go Go.RowKit
/-- a mark -/
def mkB (c : UInt8) : Bool := decide (wk c = 2)
/-- a byte as a value -/
def encB (c : UInt8) : Value := .int .u8 (c.toNat : Int)
section
variable {W w : World} {b : Nat} {xs : Str}
theorem BytesAt.holds (h : BytesAt W b xs) : Sort.Holds encB W b 0 xs.toArray := fun j hj => by
  have hj' : j < xs.length := by simpa using hj
  obtain ⟨h1, h2⟩ := h j hj'
  rw [Nat.zero_add]
  refine ⟨?_, h2⟩
  rw [h1, getElem!_pos xs.toArray j hj]
  simp [encB]
theorem bytesAt_of (xs : Str) (ys : Array UInt8) (h : Sort.Holds encB W b 0 ys) (hx : ∀ j (h : j < xs.length), ∃ h2 : j < ys.size, ys[j] = xs[j]) : BytesAt W b xs := fun j hj => by
  obtain ⟨h2, h3⟩ := hx j hj
  obtain ⟨g1, g2⟩ := h j h2
  rw [Nat.zero_add] at g1 g2
  refine ⟨?_, g2⟩
  rw [g1, getElem!_pos ys j h2, h3]
  rfl
theorem below_putRow {α : Type} [Inhabited α] {B : Nat} {a w : World} (h : Below B a w) (enc : α → Value) {blk off : Nat} {d : Array α} (hb : B ≤ blk) : Below B a (Sort.putRow enc w blk off d) :=
  ⟨h.os, h.tape, h.output, by rw [Sort.size_putRow]; exact h.size, fun k hk => by
    rw [← h.block k hk]
    unfold Sort.putRow Sort.mapBlock
    rw [Array.getElem?_modify, if_neg (by omega)]⟩
theorem bytes_belowW (w : World) (e : TypeId) (s : ByteArray) : Below w.heap.size w (Lib.bytesWorld w e s) :=
  ⟨by unfold Lib.bytesWorld World.freeze; split <;> rfl, by unfold Lib.bytesWorld World.freeze; split <;> rfl, by unfold Lib.bytesWorld World.freeze; split <;> rfl, by rw [Lib.bytesWorld_size]; omega, fun k hk => Lib.bytesWorld_at_old _ _ _ _ hk⟩
end
end Go.Ap
namespace Go.Proofs.YtngdmpkoedpgdaaGreatDoor
open Go.RowKit Go.Ap Go.Shelf Go.Proofs

attribute [local go_sem] Oper.semAt_some bs_toList empty_toList bs_size bs_extract

theorem plain1 (c : UInt8) (w : World) : Calls Tryz.prog 147 #[.int .u8 (c.toNat : Int)] w fun e w' => e = .returned (.bool (mkB c)) ∧ w = w' := by
  have H := Lib.hid (kindPc c w)
  have HP := Lib.hid (show mkB c = (wk c == 2) by unfold mkB; exact (Bool.beq_eq_decide_eq _ _).symm)
  rw [HP.out]
  have HS := wk_seven c
  clear HP
  generalize wk c = k at *
  rcases HS with rfl | rfl | rfl | rfl | rfl | rfl | rfl
  all_goals
    go_enter Tryz.func147, Tryz.ntmps147
    go_wp2_with (fail)
    refine H.out.mono ?_
    rintro e w1 ⟨rfl, rfl⟩
    go_wp2_with (fail)
    go_ret
    exact ⟨rfl, rfl⟩
theorem plain1_gives (c : UInt8) (W : World) : FnGives Tryz.prog 147 #[] #[encB c] (.bool (mkB c)) W :=
  (plain1 c W).mono fun _ _ ⟨h1, h2⟩ => ⟨h1, 0, h2.symm⟩
set_option maxRecDepth 100000 in
set_option maxHeartbeats 4000000 in
theorem plainP (s : Str) (w : World) (hs : s.length ≤ 4611686018427387903) :
    Calls Tryz.prog 95 #[.string (bs s)] w fun e w' => e = .returned (.string (bs (plainM mkB s))) ∧ Lw w w' := by
  have kw := Lib.run_convert_string_bytes (P := Tryz.prog) w 9 23 5 (bs s) Tryz.underlying9 Tryz.underlying23 Tryz.underlying5
  have hnew := BytesAt.new w 5 s
  have hbl := bytes_belowW w 5 (bs s)
  have hdr := bytes_drawn w 5 (bs s)
  have hsz := Lib.bytesWorld_size w 5 (bs s)
  obtain ⟨W, hW⟩ : ∃ W, Lib.bytesWorld w 5 (bs s) = W := ⟨_, rfl⟩
  rw [hW, bs_size] at kw
  rw [hW] at hnew hbl hdr hsz
  have hcap := grownCap_ge w s.length 0 5
  obtain ⟨c0, hc0⟩ : ∃ c, grownCap w s.length 0 5 = c := ⟨_, rfl⟩
  rw [hc0] at kw hcap
  obtain ⟨b, hb⟩ : ∃ b, w.heap.size = b := ⟨_, rfl⟩
  rw [hb] at kw hnew hsz
  have hD := AnyE.slices_DeleteFunc Tryz.delf146 encB (fun _ => rfl) mkB 147 #[] (enters_of Tryz.func147 (by kernel_rfl) rfl) 0 (fun w => Tryz.zeroValue5 w) b 0 c0 s.toArray W (fun W' x _ => plain1_gives x W') (fun n os dk x _ => plain1_gives x _) hnew.holds (by simp; omega) (by simpa using hcap)
  have hpl : (s.filter fun x => !mkB x).length ≤ s.length := List.length_filter_le _ _
  have hD2 : Calls Tryz.prog 146 #[.slice (some ⟨b, 0, none⟩) s.length c0, .func (.func 147) #[] #[]] W fun e w' =>
      e = .returned (.slice (some ⟨b, 0, none⟩) (plainM mkB s).length c0) ∧ BytesAt w' b (plainM mkB s) ∧ Below w.heap.size w w' ∧ w.drawn ≤ w'.drawn := by
    have hD' : Calls Tryz.prog 146 _ W _ := hD
    refine (show Calls Tryz.prog 146 #[.slice (some ⟨b, 0, none⟩) s.length c0, .func (.func 147) #[] #[]] W _ by simpa using hD').mono ?_
    rintro e w' ⟨rfl, q, rfl⟩
    refine ⟨rfl, ?_, below_putRow (show Below w.heap.size w (Sort.ahead W q) from ⟨hbl.os, hbl.tape, hbl.output, hbl.size, hbl.block⟩) encB (by omega), ?_⟩
    · refine bytesAt_of _ _ (Sort.holds_putRow encB _ b 0 s.toArray _ (Sort.holds_ahead encB W q b 0 _ hnew.holds) (by simp; omega)) fun j hj => ?_
      have hj' : j < (s.filter fun x => !mkB x).length := hj
      exact ⟨by simp; omega, by simp [plainM, List.getElem_append_left hj']⟩
    · rw [Sort.drawn_putRow, Sort.drawn_ahead]
      omega
  have HD := Lib.hid hD2
  clear hD hD2 hnew hbl hdr hcap hpl hW hc0 hb hsz
  go_enter Tryz.func95, Tryz.ntmps95
  go_wp2_with (fail)
  refine HD.out.mono ?_
  rintro e w1 ⟨rfl, ha, h1, h2⟩
  have hcv := ha.conv (P := Tryz.prog) (src := 23) (dst := 9) (e := 5) c0 Tryz.underlying23 Tryz.underlying5 Tryz.underlying9
  have HL := Lib.hid (lw_of h1 h2)
  clear ha h1 h2
  go_wp2_with (fail)
  go_ret
  exact ⟨rfl, HL.out⟩
end Go.Proofs.YtngdmpkoedpgdaaGreatDoor
