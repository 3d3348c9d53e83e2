/-
  many; a word with its neighbours (program).
-/
import Derived.Test.YtngdmpkoedpgdaaGreatDoorAw5
namespace Go.Ap
open Go Go.RowKit
def manyB (ws : List Str) : Bool := decide (12 < ws.length) || ws.any fun s => decide (70 < s.length)
theorem manyB_no {ws : List Str} (h : manyB ws = false) : ws.length ≤ 12 ∧ ∀ s ∈ ws, s.length ≤ 70 := by
  unfold manyB at h
  rw [Bool.or_eq_false_iff, decide_eq_false_iff_not, List.any_eq_false] at h
  refine ⟨by omega, fun s hs => ?_⟩
  have := h.2 s hs
  simpa using this
/-- a word with its neighbours -/
def ctxL (ws : List Str) (i k : Nat) : List Str := (ws.take (i + k + 1)).drop (i - k)
def ctxS (ws : List Str) (i k : Nat) : Str := Lib.join (ctxL ws i k) [32]
theorem join_le (m : Nat) : ∀ ws : List Str, (∀ s ∈ ws, s.length ≤ m) → (Lib.join ws [32]).length ≤ (m + 1) * ws.length := fun ws h => by
  have key : ∀ r : List Str, (∀ s ∈ r, s.length ≤ m) → (Lib.joinTail [32] r).length ≤ (m + 1) * r.length := fun r => by
    induction r with
    | nil => intro _; simp [Lib.joinTail]
    | cons x r ih =>
      intro h
      have h1 := h x (List.mem_cons_self ..)
      have h2 := ih fun s hs => h s (List.mem_cons_of_mem _ hs)
      unfold Lib.joinTail at h2 ⊢
      rw [List.map_cons, List.flatten_cons, List.length_append, List.length_append, List.length_cons, List.length_cons, List.length_nil, Nat.mul_succ]
      omega
  cases ws with
  | nil => simp [Lib.join_nil]
  | cons x r =>
    rw [Lib.join_cons, List.length_append, List.length_cons, Nat.mul_succ]
    have h1 := h x (List.mem_cons_self ..)
    have h2 := key r fun s hs => h s (List.mem_cons_of_mem _ hs)
    omega
theorem ctxL_mem {ws : List Str} {i k : Nat} {s : Str} (h : s ∈ ctxL ws i k) : s ∈ ws := List.mem_of_mem_take (List.mem_of_mem_drop h)
theorem ctxS_le {ws : List Str} (h1 : ws.length ≤ 12) (h2 : ∀ s ∈ ws, s.length ≤ 70) (i k : Nat) : (ctxS ws i k).length ≤ 852 := by
  have := join_le 70 (ctxL ws i k) fun s hs => h2 s (ctxL_mem hs)
  have h3 : (ctxL ws i k).length ≤ ws.length := by unfold ctxL; rw [List.length_drop, List.length_take]; omega
  unfold ctxS
  omega
end Go.Ap
namespace Go.Proofs.YtngdmpkoedpgdaaGreatDoor
open Go.RowKit Go.Ap Go.Shelf Go.Proofs

attribute [local go_sem] Oper.semAt_some bs_toList empty_toList bs_size bs_extract

theorem many59 (s : Str) (w : World) : Calls Tryz.prog 59 #[.string (bs s)] w fun e w' => e = .returned (.bool (decide (70 < s.length))) ∧ w = w' := by
  by_cases h : 70 < s.length
  · have d1 : decide ((70 : Int) < (s.length : Int)) = true := by rw [decide_eq_true_eq]; omega
    rw [decide_eq_true h]
    go_enter Tryz.func59, Tryz.ntmps59
    go_wp2_with (fail)
    go_ret
    exact ⟨rfl, rfl⟩
  · have d1 : decide ((70 : Int) < (s.length : Int)) = false := by rw [decide_eq_false_iff_not]; omega
    rw [decide_eq_false h]
    go_enter Tryz.func59, Tryz.ntmps59
    go_wp2_with (fail)
    go_ret
    exact ⟨rfl, rfl⟩
theorem many12 (ws : List Str) (a : Option Addr) (n c : Nat) (w : World) (h : StrsL w a n ws) : Calls Tryz.prog 12 #[.slice a n c] w fun e w' => e = .returned (.bool (manyB ws)) ∧ Below w.heap.size w w' := by
  have HC := Lib.hid (contStr (fun s => decide (70 < s.length)) a n c ws 59 #[] w h (enters_of Tryz.func59 (by kernel_rfl) rfl) (fun u _ W _ => (many59 u W).mono fun e w' ⟨h1, h2⟩ => ⟨h1, by subst h2; exact Below.refl _ _⟩))
  have hl := h.len
  unfold manyB
  rw [hl]
  clear h hl
  generalize (ws.any fun s => decide (70 < s.length)) = b at *
  by_cases hn : 12 < n
  · have d1 : decide ((12 : Int) < (n : Int)) = true := by rw [decide_eq_true_eq]; omega
    rw [decide_eq_true hn]
    go_enter Tryz.func12, Tryz.ntmps12
    go_wp2_with (fail)
    go_ret
    exact ⟨rfl, Below.refl _ _⟩
  · have d1 : decide ((12 : Int) < (n : Int)) = false := by rw [decide_eq_false_iff_not]; omega
    rw [decide_eq_false hn]
    go_enter Tryz.func12, Tryz.ntmps12
    go_wp2_with (fail)
    refine HC.out.mono ?_
    rintro e w1 ⟨rfl, hb⟩
    go_wp2_with (fail)
    go_ret
    exact ⟨by simp, hb⟩
/-- Join of a part of words -/
theorem joinSub (ws : List Str) (b o n c lo hi : Nat) (w : World) (h : StrsL w (some ⟨b, o, none⟩) n ws) (h1 : lo < hi) (h2 : hi ≤ n) (hc : n ≤ c) (hn : n ≤ 140737488355328) (hl : (Lib.join ((ws.take hi).drop lo) [32]).length ≤ 140737488355328) :
    Calls Tryz.prog 30 #[.slice (some ⟨b, o + lo, none⟩) (hi - lo) (c - lo), .string { data := #[32] }] w fun e w' => e = .returned (.string (bs (Lib.join ((ws.take hi).drop lo) [32]))) ∧ Below w.heap.size w w' := by
  have hlen := h.len
  have hz : ((ws.take hi).drop lo).length = hi - lo := by rw [List.length_drop, List.length_take, hlen]; omega
  have hmap : (((ws.take hi).drop lo).map bs).map (·.data.toList) = (ws.take hi).drop lo := by
    rw [List.map_map]
    exact List.map_id _
  have hcell : ∀ (j : Nat) x, (((ws.take hi).drop lo).map bs)[j]? = some x → w.cell? ⟨b, o + lo + j, none⟩ = some (.string x) := fun j x hx => by
    rw [List.getElem?_map, Option.map_eq_some_iff] at hx
    obtain ⟨s, hs, rfl⟩ := hx
    have hj : j < hi - lo := by rw [← hz]; exact (List.getElem?_eq_some_iff.1 hs).1
    rw [List.getElem?_drop, List.getElem?_take_of_lt (by omega)] at hs
    obtain ⟨t, b', off', v, ht, he, hcv, rfl, _⟩ := Sl.at h (show lo + j < n by omega)
    cases he
    rw [hs] at ht
    cases ht
    rw [Nat.add_assoc]
    exact hcv
  have hbk : b < w.heap.size := by
    obtain ⟨t, b', off', v, ht, he, hcv, _, _⟩ := Sl.at h (show lo < n by omega)
    cases he
    exact World.block_lt_of_cell? w _ hcv
  have := Tryz.strings_Join b (o + lo) (c - lo) (((ws.take hi).drop lo).map bs) { data := #[32] } w hcell hbk (by rw [List.length_map, hz]; omega) (by rw [List.length_map, hz]; omega) (by rw [hmap]; exact hl)
  rw [hmap, List.length_map, hz] at this
  exact this
set_option maxRecDepth 100000 in
set_option maxHeartbeats 8000000 in
theorem contextOk (ws : List Str) (i k : Nat) (a : Option Addr) (n c : Nat) (w : World) (h : StrsL w a n ws) (hc : n ≤ c) (hn : n ≤ 4096) (hi : i < n) (hk : k ≤ 64) (hl : (ctxS ws i k).length ≤ 65536) :
    Calls Tryz.prog 29 #[.slice a n c, .int .i64 i, .int .i64 k] w fun e w' => e = .returned (.tuple #[.string (bs (ctxS ws i k)), .int .i64 0]) ∧ Below w.heap.size w w' := by
  obtain ⟨b, o, rfl⟩ : ∃ b o, a = some ⟨b, o, none⟩ := by
    obtain ⟨t, b, off, v, ht, he, _⟩ := Sl.at h hi
    exact ⟨b, off, he⟩
  have hlen := h.len
  obtain ⟨lo, hlo⟩ : ∃ lo, i - k = lo := ⟨_, rfl⟩
  obtain ⟨up, hup⟩ : ∃ up, min n (i + k + 1) = up := ⟨_, rfl⟩
  have e0 : ctxS ws i k = Lib.join ((ws.take up).drop lo) [32] := by
    unfold ctxS ctxL
    rw [hlo, ← hup]
    congr 2
    by_cases hh : n ≤ i + k + 1
    · rw [Nat.min_eq_left hh, List.take_of_length_le (by omega), List.take_of_length_le (by omega)]
    · rw [Nat.min_eq_right (by omega)]
  rw [e0] at hl ⊢
  have q1 : lo < up := by omega
  have q2 : up ≤ n := by omega
  have HJ := Lib.hid (joinSub ws b o n c lo up w h q1 q2 hc (by omega) (by omega))
  have hmax : ∀ (ts : Array TypeId) (t : TypeId) (W : World), (Builtin.max_ ts t #[.int .i64 0, .int .i64 ((i : Int) - (k : Int))]).run Tryz.prog W = .ok (.int .i64 (lo : Int)) W := fun ts t W => by
    simp [Builtin.max_, Builtin.max2]
    split <;> omega
  have hmin : ∀ (ts : Array TypeId) (t : TypeId) (W : World), (Builtin.min_ ts t #[.int .i64 (n : Int), .int .i64 ((i : Int) + (k : Int) + 1)]).run Tryz.prog W = .ok (.int .i64 (up : Int)) W := fun ts t W => by
    simp [Builtin.min_, Builtin.min2]
    split <;> omega
  obtain ⟨r, hr⟩ : ∃ r, Lib.join ((ws.take up).drop lo) [32] = r := ⟨_, rfl⟩
  rw [hr] at HJ hl ⊢
  have w1 : IntKind.i64.wrap ((i : Int) - (k : Int)) = (i : Int) - (k : Int) := Go.IntWalk.i64_in _ (by omega)
  have d1 : decide ((i : Int) < 0) = false := by rw [decide_eq_false_iff_not]; omega
  have d2 : decide ((n : Int) ≤ (i : Int)) = false := by rw [decide_eq_false_iff_not]; omega
  have d2' : decide (n ≤ i) = false := by rw [decide_eq_false_iff_not]; omega
  have d3 : decide ((k : Int) < 0) = false := by rw [decide_eq_false_iff_not]; omega
  have d4 : decide ((64 : Int) < (k : Int)) = false := by rw [decide_eq_false_iff_not]; omega
  have d5 : decide ((65536 : Int) < (r.length : Int)) = false := by rw [decide_eq_false_iff_not]; omega
  have s1 : (lo : Int) ≤ (up : Int) := by omega
  have s2 : (up : Int) ≤ (c : Int) := by omega
  have s3 : ¬c = lo := by omega
  clear h hlen hlo hup e0 hr q1
  go_enter Tryz.func29, Tryz.ntmps29
  go_wp2_with (fail)
  refine HJ.out.mono ?_
  rintro e W ⟨rfl, hb⟩
  go_wp2_with (fail)
  go_ret2
  exact ⟨rfl, hb⟩
end Go.Proofs.YtngdmpkoedpgdaaGreatDoor
