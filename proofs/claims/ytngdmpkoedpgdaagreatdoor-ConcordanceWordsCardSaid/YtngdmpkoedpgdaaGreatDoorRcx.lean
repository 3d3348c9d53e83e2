/-
  Context: bad arguments (program); the whole of the reference.
-/
import Derived.Test.YtngdmpkoedpgdaaGreatDoorCx
namespace Go.Ap
open Go Go.RowKit
theorem join_snoc {l : List Str} {x : Str} (h : l ≠ []) : Lib.join (l ++ [x]) [32] = Lib.join l [32] ++ [32] ++ x := by
  cases l with
  | nil => exact absurd rfl h
  | cons y r =>
    rw [List.cons_append, Lib.join_cons, Lib.join_cons]
    unfold Lib.joinTail
    simp
/-- the context after i words -/
def ctxP (ws : List Str) (lo hi i : Nat) : Str := Lib.join ((ws.take (min i hi)).drop lo) [32]
theorem ctxP_zero (ws : List Str) (lo hi : Nat) : ctxP ws lo hi 0 = [] := by simp [ctxP, Lib.join_nil]
theorem ctxP_nil {ws : List Str} {lo hi i : Nat} (h : i ≤ lo) : ctxP ws lo hi i = [] := by
  unfold ctxP
  rw [List.drop_eq_nil_of_le (by rw [List.length_take]; omega), Lib.join_nil]
theorem ctxP_high {ws : List Str} {lo hi i : Nat} (h : hi ≤ i) : ctxP ws lo hi (i + 1) = ctxP ws lo hi i := by
  unfold ctxP
  rw [Nat.min_eq_right (show hi ≤ i + 1 by omega), Nat.min_eq_right h]
theorem take_drop_snoc {ws : List Str} {lo i : Nat} {x : Str} (hx : ws[i]? = some x) (h : lo ≤ i) : (ws.take (i + 1)).drop lo = (ws.take i).drop lo ++ [x] := by
  have hi := (List.getElem?_eq_some_iff.1 hx).1
  rw [List.take_add_one, hx]
  simp only [Option.toList_some]
  rw [List.drop_append_of_le_length (by rw [List.length_take]; omega)]
theorem ctxP_first {ws : List Str} {lo hi : Nat} {x : Str} (hx : ws[lo]? = some x) (h : lo < hi) : ctxP ws lo hi (lo + 1) = x := by
  unfold ctxP
  rw [Nat.min_eq_left (show lo + 1 ≤ hi by omega), take_drop_snoc hx (Nat.le_refl _), List.drop_eq_nil_of_le (by rw [List.length_take]; omega), List.nil_append, Lib.join_one]
theorem ctxP_next {ws : List Str} {lo hi i : Nat} {x : Str} (hx : ws[i]? = some x) (h1 : lo < i) (h2 : i < hi) : ctxP ws lo hi (i + 1) = ctxP ws lo hi i ++ [32] ++ x := by
  have hil := (List.getElem?_eq_some_iff.1 hx).1
  unfold ctxP
  rw [Nat.min_eq_left (show i + 1 ≤ hi by omega), Nat.min_eq_left (show i ≤ hi by omega), take_drop_snoc hx (by omega), join_snoc]
  intro e
  have := congrArg List.length e
  rw [List.length_drop, List.length_take] at this
  simp at this
  omega
theorem ctxP_end {ws : List Str} {n i k : Nat} (hn : ws.length = n) : ctxP ws (i - k) (i + k + 1) n = ctxS ws i k := by
  unfold ctxP ctxS ctxL
  by_cases h : n ≤ i + k + 1
  · rw [Nat.min_eq_left h, List.take_of_length_le (by omega), List.take_of_length_le (by omega)]
  · rw [Nat.min_eq_right (by omega)]
theorem ctxP_le {ws : List Str} (h1 : ws.length ≤ 12) (h2 : ∀ s ∈ ws, s.length ≤ 70) (lo hi i : Nat) : (ctxP ws lo hi i).length ≤ 852 := by
  have := join_le 70 ((ws.take (min i hi)).drop lo) fun s hs => h2 s (List.mem_of_mem_take (List.mem_of_mem_drop hs))
  have h3 : ((ws.take (min i hi)).drop lo).length ≤ ws.length := by rw [List.length_drop, List.length_take]; omega
  unfold ctxP
  omega
/-- right arguments of Context -/
def ctxB (n : Nat) (at' k : Int) : Bool := !(decide (at' < 0) || decide ((n : Int) ≤ at') || decide (k < 0) || decide (64 < k))
end Go.Ap
namespace Go.Proofs.YtngdmpkoedpgdaaGreatDoor
open Go.RowKit Go.Ap Go.Shelf Go.Proofs

attribute [local go_sem] Oper.semAt_some bs_toList empty_toList bs_size bs_extract
def CtxA (e : Ending) (w w' : World) (s : Str) (c : Int) : Prop := e = .returned (.tuple #[.string (bs s), .int .i64 c]) ∧ Below w.heap.size w w'
set_option maxHeartbeats 2000000 in
theorem contextBad (at' k : Int) (a : Option Addr) (n c : Nat) (w : World) (f : FuncId) (hf : f = 29 ∨ f = 46) (h : ctxB n at' k = false) :
    Calls Tryz.prog f #[.slice a n c, .int .i64 at', .int .i64 k] w fun e w' => CtxA e w w' [] 2 := by
  unfold CtxA
  unfold ctxB at h
  have h' := h
  rw [Bool.not_eq_false'] at h'
  clear h
  cases d1 : decide (at' < 0)
  · cases d2 : decide ((n : Int) ≤ at')
    · cases d3 : decide (k < 0)
      · have d4 : decide (64 < k) = true := by rw [d1, d2, d3] at h'; simpa using h'
        clear h'
        rcases hf with rfl | rfl
        · go_enter Tryz.func29, Tryz.ntmps29
          go_wp2_with (fail)
          go_ret2
          exact ⟨rfl, Below.refl _ _⟩
        · go_enter Tryz.func46, Tryz.ntmps46
          go_wp2_with (fail)
          go_ret2
          exact ⟨rfl, Below.refl _ _⟩
      · clear h'
        rcases hf with rfl | rfl
        · go_enter Tryz.func29, Tryz.ntmps29
          go_wp2_with (fail)
          go_ret2
          exact ⟨rfl, Below.refl _ _⟩
        · go_enter Tryz.func46, Tryz.ntmps46
          go_wp2_with (fail)
          go_ret2
          exact ⟨rfl, Below.refl _ _⟩
    · clear h'
      rcases hf with rfl | rfl
      · go_enter Tryz.func29, Tryz.ntmps29
        go_wp2_with (fail)
        go_ret2
        exact ⟨rfl, Below.refl _ _⟩
      · go_enter Tryz.func46, Tryz.ntmps46
        go_wp2_with (fail)
        go_ret2
        exact ⟨rfl, Below.refl _ _⟩
  · clear h'
    rcases hf with rfl | rfl
    · go_enter Tryz.func29, Tryz.ntmps29
      go_wp2_with (fail)
      go_ret2
      exact ⟨rfl, Below.refl _ _⟩
    · go_enter Tryz.func46, Tryz.ntmps46
      go_wp2_with (fail)
      go_ret2
      exact ⟨rfl, Below.refl _ _⟩
attribute [local go_sem] lit32 bs_append
set_option maxRecDepth 100000 in
set_option maxHeartbeats 4000000 in
theorem contextROk (ws : List Str) (p k : Nat) (a : Option Addr) (n c : Nat) (w : World) (h : StrsL w a n ws) (hn : n ≤ 12) (hp : p < n) (hk : k ≤ 64) (hw : ∀ s ∈ ws, s.length ≤ 70) :
    Calls Tryz.prog 46 #[.slice a n c, .int .i64 p, .int .i64 k] w fun e w' => CtxA e w w' (ctxS ws p k) 0 := by
  unfold CtxA
  have hlen := h.len
  have HX := Lib.hid h
  have HW := Lib.hid hw
  obtain ⟨lo, hlo⟩ : ∃ lo, p - k = lo := ⟨_, rfl⟩
  obtain ⟨hi, hhi⟩ : ∃ hi, p + k + 1 = hi := ⟨_, rfl⟩
  have HE := Lib.hid (show ctxP ws lo hi n = ctxS ws p k by rw [← hlo, ← hhi]; exact ctxP_end hlen)
  have HLE := Lib.hid (fun i => ctxP_le (ws := ws) (by omega) hw lo hi i)
  rw [← HE.out]
  have HLO := Lib.hid hlo
  have HHI := Lib.hid hhi
  have w1 : IntKind.i64.wrap ((p : Int) - (k : Int)) = (p : Int) - (k : Int) := Go.IntWalk.i64_in _ (by omega)
  have w2 : IntKind.i64.wrap ((p : Int) + (k : Int)) = (p : Int) + (k : Int) := Go.IntWalk.i64_in _ (by omega)
  have d1 : decide ((p : Int) < 0) = false := by rw [decide_eq_false_iff_not]; omega
  have d2 : decide ((n : Int) ≤ (p : Int)) = false := by rw [decide_eq_false_iff_not]; omega
  have d2' : decide (n ≤ p) = false := by rw [decide_eq_false_iff_not]; omega
  have d3 : decide ((k : Int) < 0) = false := by rw [decide_eq_false_iff_not]; omega
  have d4 : decide ((64 : Int) < (k : Int)) = false := by rw [decide_eq_false_iff_not]; omega
  have HP := Lib.hid hp
  have HK := Lib.hid hk
  have HN := Lib.hid hn
  clear h hlen hlo hhi hw hp hk hn
  go_enter Tryz.func46, Tryz.ntmps46
  go_wp2_with (fail)
  go_loopw [8, 9] (fun sv iv wr => ∃ i : Nat, i ≤ n ∧ iv = .int .i64 i ∧ sv = .string (bs (ctxP ws lo hi i)) ∧ wr = w) (fun _ iv _ => n - (intOf iv).toNat)
  case atStart => exact ⟨0, Nat.zero_le _, rfl, by rw [ctxP_zero]; rfl, rfl⟩
  case round =>
    obtain ⟨i, hile, rfl, rfl, rfl⟩ := hrel
    have hN := HN.out
    by_cases hin : i < n
    · obtain ⟨x, b, off, v, hx, rfl, hcv, rfl, _⟩ := Sl.at HX.out hin
      unfold sv at hcv
      have hxl := HW.out x (List.mem_of_getElem? hx)
      have hrl := HLE.out i
      have i1 : (i : Int) < (n : Int) := by omega
      have i0' : (0 : Int) ≤ (i : Int) := by omega
      have hL := HLO.out
      have hH := HHI.out
      by_cases hlow : i < lo
      · have e1 : decide ((i : Int) < (p : Int) - (k : Int)) = true := decide_eq_true (by omega)
        have HS := Lib.hid (show ctxP ws lo hi (i + 1) = ctxP ws lo hi i by rw [ctxP_nil (by omega), ctxP_nil (by omega)])
        clear hx hcv hxl hrl hL hH hlow
        go_wp2_with (fail)
        exact ⟨⟨i + 1, by omega, by simp, by rw [HS.out], by first | rfl | trivial⟩, by simp [intOf]; omega⟩
      · have e1 : decide ((i : Int) < (p : Int) - (k : Int)) = false := decide_eq_false (by omega)
        by_cases hhig : hi ≤ i
        · have e2 : decide ((p : Int) + (k : Int) < (i : Int)) = true := decide_eq_true (by omega)
          have HS := Lib.hid (ctxP_high (ws := ws) (lo := lo) hhig)
          clear hx hcv hxl hrl hL hH hlow hhig
          go_wp2_with (fail)
          exact ⟨⟨i + 1, by omega, by simp, by rw [HS.out], by first | rfl | trivial⟩, by simp [intOf]; omega⟩
        · have e2 : decide ((p : Int) + (k : Int) < (i : Int)) = false := decide_eq_false (by omega)
          by_cases hfirst : i = lo
          · have HS := Lib.hid (show ctxP ws lo hi (i + 1) = x by rw [hfirst]; exact ctxP_first (by rw [← hfirst]; exact hx) (by omega))
            have HZ := Lib.hid (show ctxP ws lo hi i = [] from ctxP_nil (by omega))
            rw [HZ.out]
            have g1 : ¬9223372036854775807 < 0 + x.length := by omega
            have g2 : ¬9223372036854775807 < x.length := by omega
            have d5 : decide ((65536 : Int) < (x.length : Int)) = false := decide_eq_false (by omega)
            by_cases h0 : i = 0
            · have e3 : decide ((0 : Int) < (i : Int)) = false := decide_eq_false (by omega)
              have e3' : decide (0 < i) = false := decide_eq_false (by omega)
              have HI0 := Lib.hid h0
              clear hx hxl hrl hL hH hlow hhig hfirst h0
              go_wp2_with (fail)
              exact ⟨⟨i + 1, by omega, by simp, by rw [HS.out], by first | rfl | trivial⟩, by simp [intOf]; omega⟩
            · have e3 : decide ((0 : Int) < (i : Int)) = true := decide_eq_true (by omega)
              have e3' : decide (0 < i) = true := decide_eq_true (by omega)
              have e4 : decide ((p : Int) - (k : Int) < (i : Int)) = false := decide_eq_false (by omega)
              clear hx hxl hrl hL hH hlow hhig hfirst h0
              go_wp2_with (fail)
              exact ⟨⟨i + 1, by omega, by simp, by rw [HS.out], by first | rfl | trivial⟩, by simp [intOf]; omega⟩
          · have HS := Lib.hid (show ctxP ws lo hi (i + 1) = ctxP ws lo hi i ++ [32] ++ x from ctxP_next hx (by omega) (by omega))
            have e3 : decide ((0 : Int) < (i : Int)) = true := decide_eq_true (by omega)
            have e3' : decide (0 < i) = true := decide_eq_true (by omega)
            have e4 : decide ((p : Int) - (k : Int) < (i : Int)) = true := decide_eq_true (by omega)
            obtain ⟨r, hr⟩ : ∃ r, ctxP ws lo hi i = r := ⟨_, rfl⟩
            rw [hr] at HS hrl ⊢
            have g1 : ¬9223372036854775807 < r.length + 1 := by omega
            have g2 : ¬9223372036854775807 < r.length + (0 + 1) := by omega
            have g3 : ¬9223372036854775807 < r.length + 1 + x.length := by omega
            have g4 : ¬9223372036854775807 < r.length + (0 + 1) + x.length := by omega
            have d5 : decide ((65536 : Int) < (r.length : Int) + 1 + (x.length : Int)) = false := decide_eq_false (by omega)
            have d6 : decide ((65536 : Int) < (r.length : Int) + (1 + (x.length : Int))) = false := decide_eq_false (by omega)
            have d7 : decide ((65536 : Int) < (r.length : Int) + ((x.length : Int) + 1)) = false := decide_eq_false (by omega)
            clear hx hxl hrl hL hH hlow hhig hfirst hr
            go_wp2_with (fail)
            exact ⟨⟨i + 1, by omega, by simp, by rw [HS.out]; simp, by first | rfl | trivial⟩, by simp [intOf]; omega⟩
    · obtain rfl : n = i := by omega
      go_wp2_with (fail)
      go_ret2
      exact ⟨rfl, Below.refl _ _⟩
end Go.Proofs.YtngdmpkoedpgdaaGreatDoor
