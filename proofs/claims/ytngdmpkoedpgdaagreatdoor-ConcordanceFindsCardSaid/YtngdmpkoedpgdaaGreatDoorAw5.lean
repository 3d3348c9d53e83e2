/-
  The example of the chapter.
-/
import Derived.Test.YtngdmpkoedpgdaaGreatDoorU9
import Derived.Test.YtngdmpkoedpgdaaGreatDoorFd
import Derived.Test.YtngdmpkoedpgdaaGreatDoorNb
namespace Go.Ap
open Go Go.RowKit
theorem allV_strs (w : World) : ∀ ss : List Str, AllV StrR w (ss.map sv) ss
  | [] => trivial
  | _ :: ss => ⟨rfl, allV_strs w ss⟩
theorem strs_new (W : World) (ss : List Str) (hn : ss.length ≤ 4611686018427387903) : StrsL (W.alloc (.cells (ss.map sv).toArray 9)) (some ⟨W.heap.size, 0, none⟩) ss.length ss :=
  sl_at (heap_fresh rfl) (allV_strs _ _) (by simp) hn
theorem allV_ints (w : World) : ∀ xs : List Int, (∀ x ∈ xs, I64 x) → AllV IntR w (xs.map (Value.int .i64)) xs
  | [], _ => trivial
  | x :: xs, h => ⟨⟨rfl, h x (List.mem_cons_self ..)⟩, allV_ints w xs fun y hy => h y (List.mem_cons_of_mem _ hy)⟩
theorem ints_new' (W : World) (xs : List Int) (hn : xs.length ≤ 4611686018427387903) (h : ∀ x ∈ xs, I64 x) : Ints (W.alloc (.cells (xs.map (Value.int .i64)).toArray 3)) (some ⟨W.heap.size, 0, none⟩) xs.length xs :=
  sl_at (heap_fresh rfl) (by simpa using allV_ints _ xs h) (by simp) hn
def exOne : Str := [111, 110, 101]
def exDeus : Str := [100, 101, 117, 115]
def exDeusL : Str := [68, 101, 117, 115]
def exEt : Str := [101, 116]
def exW : List Str := [exDeus, exEt, exDeusL, [44]]
def exL : List Int := [1, 1, 2, 2]
def exI : List Post := [((exDeusL, exOne), [2]), ((exDeus, exOne), [1]), ((exEt, exOne), [1])]
theorem ex_c : wordsC exOne exW exL = 0 := by decide +kernel
theorem ex_i : idxM mkB (wordsEs exOne (exW.zip exL)) = exI := by decide +kernel
theorem ex_x : indexB exI = true := by decide +kernel
theorem ex_f : findS exI [68, 69, 85, 83] = [((exDeusL, exOne), [2]), ((exDeus, exOne), [1])] := by decide +kernel
theorem ex_t : textS exI = [68, 101, 117, 115, 32, 111, 110, 101, 32, 50, 10, 100, 101, 117, 115, 32, 111, 110, 101, 32, 49, 10, 101, 116, 32, 111, 110, 101, 32, 49, 10] := by
  simp [textS, postT, lineT, exI, exDeusL, exDeus, exEt, exOne, Lib.itoa, Lib.decDigits]
end Go.Ap
namespace Go.Proofs.YtngdmpkoedpgdaaGreatDoor
open Go.RowKit Go.Ap Go.Shelf Go.Proofs

attribute [local go_sem] Oper.semAt_some bs_toList empty_toList bs_size bs_extract
theorem max3 (P : Program) (w : World) (ts : Array TypeId) (t : TypeId) : (Builtin.max_ ts t #[.int .i64 0, .int .i64 0, .int .i64 0]).run P w = .ok (.int .i64 0) w := by simp [Builtin.max_, Builtin.max2]
attribute [local go_sem] max3
theorem small_i64 {l : List Int} (h : l.all fun z => decide (-9223372036854775808 ≤ z) && decide (z ≤ 9223372036854775807)) : ∀ z ∈ l, I64 z := fun z hz => by
  have := List.all_eq_true.1 h z hz
  simp at this
  exact ⟨this.1, by omega⟩
theorem ex_pc : printC exI = 0 := by
  unfold printC
  rw [ex_x, ex_t]
  rfl
theorem ex_ps : printS exI = [68, 101, 117, 115, 32, 111, 110, 101, 32, 50, 10, 100, 101, 117, 115, 32, 111, 110, 101, 32, 49, 10, 101, 116, 32, 111, 110, 101, 32, 49, 10] := by
  unfold printS
  rw [ex_pc, if_pos rfl, ex_t]
theorem ex_fc : findC exI [68, 69, 85, 83] = 0 := by
  unfold findC
  rw [ex_x, ex_f]
  rfl
set_option maxRecDepth 100000 in
set_option maxHeartbeats 8000000 in
theorem awake13 (w : World) (ht : ET w) : Calls Tryz.prog 13 #[] w fun e w' => e = .returned (.bool true) ∧ Below w.heap.size w w' := by
  have HT := Lib.hid ht
  have HWO := Lib.hid (wordsP exOne exW exL (some ⟨w.heap.size, 0, none⟩) 4 4 (some ⟨w.heap.size + 1, 0, none⟩) 4 4 ((w.alloc (.cells (exW.map sv).toArray 9)).alloc (.cells (exL.map (Value.int .i64)).toArray 3))
    ((strs_new w exW (by decide)).mono (by simp) (balloc _ _)) (by have := ints_new' (w.alloc (.cells (exW.map sv).toArray 9)) exL (by decide) (small_i64 (by decide)); rwa [World.size_alloc] at this) (by decide) (by decide))
  rw [ex_c, ex_i] at HWO
  have HB0 := Lib.hid (bstep (balloc w (.cells (exW.map sv).toArray 9)) (balloc (w.alloc (.cells (exW.map sv).toArray 9)) (.cells (exL.map (Value.int .i64)).toArray 3)))
  have hP := fun (a : Option Addr) (c : Nat) (W : World) (h : Posts W a 3 exI) (ht : ET W) => printP exI a 3 c W h ht
  have hF := fun (a : Option Addr) (c : Nat) (W : World) (h : Posts W a 3 exI) => findP exI [68, 69, 85, 83] a 3 c W h (by decide)
  simp only [ex_ps, ex_pc] at hP
  simp only [ex_f, ex_fc] at hF
  have HP := Lib.hid hP
  have HF := Lib.hid hF
  clear ht hP hF
  go_enter Tryz.func13, Tryz.ntmps13
  go_wp2_with (fail)
  refine HWO.out.mono ?_
  rintro e W1 ⟨u, rfl, hg, _, hb⟩
  obtain ⟨a1, c1, rfl, hp1, _⟩ := hg rfl
  have HB1 := Lib.hid (bstep HB0.out hb)
  have HP1 := Lib.hid hp1
  clear hg hb hp1
  go_wp2_with (fail)
  refine (HP.out a1 c1 W1 HP1.out (HT.out.mono (Nat.le_refl _) HB1.out)).mono ?_
  rintro e W2 ⟨rfl, hb⟩
  have HB2 := Lib.hid (bstep HB1.out hb)
  have HP2 := Lib.hid (HP1.out.mono (Nat.le_refl _) hb)
  clear hb
  go_wp2_with (fail)
  refine (HF.out a1 c1 W2 HP2.out).mono ?_
  rintro e W3 ⟨u, rfl, hg, _, hb⟩
  obtain ⟨a3, c3, rfl, _, _⟩ := hg rfl
  have HB3 := Lib.hid (bstep HB2.out hb)
  clear hg hb
  go_wp2_with (fail)
  go_ret
  exact ⟨rfl, HB3.out⟩
end Go.Proofs.YtngdmpkoedpgdaaGreatDoor
