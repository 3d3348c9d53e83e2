/-
  Sets of numbers: the checks of program and reference, membership, equality, union.
-/
import Derived.Test.YtjmebijckcimoaaGreatDoorVgk
import Derived.Test.YtjmebijckcimoaaGreatDoorUa
import Derived.Deep.QuietTactic
import Derived.BigQuiet
namespace Go.Ap.Vg
/-- Check's answer, from place k on. -/
def chkF (xs : List Int) : Nat → Nat → Int
  | 0, _ => 0
  | f + 1, k => if nth xs k < 0 ∨ 63 < nth xs k then 2 else if 0 < k ∧ nth xs k ≤ nth xs (k - 1) then 10 else chkF xs f (k + 1)
theorem chkF_range {xs : List Int} {f k : Nat} (h : nth xs k < 0 ∨ 63 < nth xs k) : chkF xs (f + 1) k = 2 := by rw [chkF, if_pos h]
theorem chkF_order {xs : List Int} {f k : Nat} (h : ¬ (nth xs k < 0 ∨ 63 < nth xs k)) (h' : 0 < k ∧ nth xs k ≤ nth xs (k - 1)) : chkF xs (f + 1) k = 10 := by rw [chkF, if_neg h, if_pos h']
theorem chkF_next {xs : List Int} {f k : Nat} (h : ¬ (nth xs k < 0 ∨ 63 < nth xs k)) (h' : ¬ (0 < k ∧ nth xs k ≤ nth xs (k - 1))) : chkF xs (f + 1) k = chkF xs f (k + 1) := by rw [chkF, if_neg h, if_neg h']
def prevO (xs : List Int) (k : Nat) : Option Int := if k = 0 then none else some (nth xs (k - 1))
theorem chkF_go (xs : List Int) : ∀ (f k : Nat), f + k = xs.length → chkF xs f k = setGo (prevO xs k) (xs.drop k)
  | 0, k, h => by rw [List.drop_eq_nil_of_le (by omega)]; rfl
  | f + 1, k, h => by
    have hk : k < xs.length := by omega
    rw [List.drop_eq_getElem_cons hk, ← nth_eq hk]
    unfold chkF setGo
    have e1 : (∃ q, prevO xs k = some q ∧ nth xs k ≤ q) ↔ (0 < k ∧ nth xs k ≤ nth xs (k - 1)) := by
      unfold prevO
      by_cases h0 : k = 0
      · rw [if_pos h0]
        constructor
        · rintro ⟨q, hq, _⟩; cases hq
        · intro h; omega
      · rw [if_neg h0]
        constructor
        · rintro ⟨q, hq, h2⟩; cases hq; exact ⟨by omega, h2⟩
        · rintro ⟨_, h2⟩; exact ⟨_, rfl, h2⟩
    simp only [e1]
    split
    · rfl
    · split
      · rfl
      · rw [chkF_go xs f (k + 1) (by omega)]
        congr 1
theorem chkF_all (xs : List Int) : chkF xs xs.length 0 = setGo none xs := by
  rw [chkF_go xs xs.length 0 (by omega)]
  rfl
end Go.Ap.Vg
namespace Go.Proofs.YtjmebijckcimoaaGreatDoor
open Go.RowKit Go.Ap Go.Shelf Go.Proofs

set_option maxHeartbeats 400000 in
theorem setP (a : Option Addr) (n c : Nat) (xs : List Int) (w : World) (h : Ints w a n xs) :
    Calls Tryz.prog 51 #[.slice a n c] w fun e w' => e = .returned (.int .i64 (Vg.setGo none xs)) ∧ w = w' := by
  have hlen := h.len
  have hsm := h.small
  have HL := Lib.hid hlen
  have HA := Lib.hid (Vg.chkF_all xs)
  clear hlen
  go_enter Tryz.func51, Tryz.ntmps51
  go_wp2
  go_loop [7] (fun i => ∃ k : Nat, k ≤ n ∧ i = .int .i64 k ∧ Vg.chkF xs (n - k) k = Vg.setGo none xs) (fun i => n - (intOf i).toNat)
  case atStart => exact ⟨0, by omega, rfl, by rw [← HA.out, HL.out]; rfl⟩
  case round =>
    obtain ⟨k, hk, rfl, hch⟩ := hrel
    have HC := Lib.hid hch
    clear hch
    by_cases hlt : k < n
    · obtain ⟨b, off, rfl, hc⟩ := h.at (by omega)
      have hcell := hc k hlt
      have hcell' : 0 < k → w.cell? ⟨b, off + (k - 1), none⟩ = some (.int .i64 (nth xs (k - 1))) := fun _ => hc _ (by omega)
      clear hc
      obtain ⟨f, hf⟩ : ∃ f, n - k = f + 1 := ⟨n - k - 1, by omega⟩
      have HF := Lib.hid hf
      clear hf
      go_wp2
      all_goals first
        | (go_ret; exact ⟨ret_i (by rw [← HC.out, HF.out, Vg.chkF_range (by omega)]), rfl⟩)
        | (go_ret; exact ⟨ret_i (by rw [← HC.out, HF.out, Vg.chkF_order (by omega) (by omega)]), rfl⟩)
        | exact ⟨⟨k + 1, by omega, by go_num, by rw [← HC.out, HF.out, Vg.chkF_next (by omega) (by omega), show n - (k + 1) = f by have := HF.out; omega]⟩, by simp [intOf]; omega⟩
    · go_wp2
      go_ret
      exact ⟨ret_i (by rw [← HC.out, show n - k = 0 by omega, Vg.chkF]), rfl⟩

set_option maxHeartbeats 400000 in
theorem setR (a : Option Addr) (n c : Nat) (xs : List Int) (w : World) (h : Ints w a n xs) :
    Calls Tryz.prog 88 #[.slice a n c] w fun e w' => e = .returned (.int .i64 (Vg.setGo none xs)) ∧ ∃ q, w' = w.drewN q := by
  have hlen := h.len
  have hsm := h.small
  have HL := Lib.hid hlen
  have HA := Lib.hid (Vg.chkF_all xs)
  clear hlen
  go_enter Tryz.func88, Tryz.ntmps88
  go_wp2
  go_loopw [3] (fun i wr => ∃ (k q : Nat), k ≤ n ∧ i = .int .i64 k ∧ wr = w.drewN q ∧ Vg.chkF xs (n - k) k = Vg.setGo none xs) (fun i _ => n - (intOf i).toNat)
  case atStart => exact ⟨0, 0, by omega, rfl, rfl, by rw [← HA.out, HL.out]; rfl⟩
  case round =>
    obtain ⟨k, q, hk, rfl, rfl, hch⟩ := hrel
    have HC := Lib.hid hch
    clear hch
    by_cases hlt : k < n
    · obtain ⟨b, off, rfl, hc⟩ := h.at (by omega)
      have hcell := hc k hlt
      have hcell' : 0 < k → w.cell? ⟨b, off + (k - 1), none⟩ = some (.int .i64 (nth xs (k - 1))) := fun _ => hc _ (by omega)
      clear hc
      obtain ⟨f, hf⟩ : ∃ f, n - k = f + 1 := ⟨n - k - 1, by omega⟩
      have HF := Lib.hid hf
      clear hf
      by_cases h0 : 0 < k
      · have g1 : decide (0 < k) = true := by simpa using h0
        have hcell2 := hcell' h0
        go_wp2
        all_goals try (go_quiet (fail); go_wp2)
        all_goals first
        | (go_ret; exact ⟨ret_i (by rw [← HC.out, HF.out, Vg.chkF_range (by omega)]), q, rfl⟩)
        | (go_ret; exact ⟨ret_i (by rw [← HC.out, HF.out, Vg.chkF_order (by omega) (by omega)]), drewN_ex _ _ _⟩)
        | exact ⟨⟨k + 1, _, by omega, by go_num, rfl, by rw [← HC.out, HF.out, Vg.chkF_next (by omega) (by omega), show n - (k + 1) = f by have := HF.out; omega]⟩, by simp [intOf]; omega⟩
      · have g1 : decide (0 < k) = false := by simpa using h0
        go_wp2
        all_goals try (go_quiet (fail); go_wp2)
        all_goals first
        | (go_ret; exact ⟨ret_i (by rw [← HC.out, HF.out, Vg.chkF_range (by omega)]), q, rfl⟩)
        | (go_ret; exact ⟨ret_i (by rw [← HC.out, HF.out, Vg.chkF_order (by omega) (by omega)]), drewN_ex _ _ _⟩)
        | exact ⟨⟨k + 1, _, by omega, by go_num, rfl, by rw [← HC.out, HF.out, Vg.chkF_next (by omega) (by omega), show n - (k + 1) = f by have := HF.out; omega]⟩, by simp [intOf]; omega⟩
    · go_wp2
      go_ret
      exact ⟨ret_i (by rw [← HC.out, show n - k = 0 by omega, Vg.chkF]), _, rfl⟩
theorem drop_nth {xs : List Int} {k : Nat} (h : k < xs.length) : xs.drop k = nth xs k :: xs.drop (k + 1) := by
  rw [nth_eq h]; exact List.drop_eq_getElem_cons h
/-- membership, under a name that the walk leaves alone -/
def hasI (xs : List Int) (x : Int) : Bool := xs.contains x

set_option maxHeartbeats 400000 in
theorem hasS24 (a : Option Addr) (n c : Nat) (xs : List Int) (x : Int) (w : World) (h : Ints w a n xs) :
    Calls Tryz.prog 49 #[.slice a n c, .int .i64 x] w fun e w' => e = .returned (.bool (hasI xs x)) ∧ w = w' := by
  have HL := Lib.hid h.len
  have hsm := h.small
  go_enter Tryz.func49, Tryz.ntmps49
  go_wp2
  go_loop [5] (fun i => ∃ k : Nat, k ≤ n ∧ i = .int .i64 k ∧ hasI (xs.drop k) x = hasI xs x) (fun i => n - (intOf i).toNat)
  case atStart => exact ⟨0, by omega, rfl, rfl⟩
  case round =>
    obtain ⟨k, hk, rfl, hch⟩ := hrel
    have HC := Lib.hid hch
    clear hch
    by_cases hlt : k < n
    · obtain ⟨b, off, rfl, hc⟩ := Ints.at h (by omega)
      have hcell := hc k hlt
      clear hc
      have hd := drop_nth (xs := xs) (k := k) (by rw [HL.out]; exact hlt)
      have HD := Lib.hid hd
      clear hd
      by_cases hx : nth xs k = x
      · have hb : (nth xs k == x) = true := by simpa using hx
        have HX := Lib.hid hx
        clear hx
        go_wp2
        go_ret
        exact ⟨ret_b (by rw [← HC.out, HD.out, HX.out, hasI]; simp), rfl⟩
      · have hb : (nth xs k == x) = false := by simpa using hx
        have HX := Lib.hid hx
        clear hx
        go_wp2
        exact ⟨⟨k + 1, by omega, by go_num, by
          rw [← HC.out, HD.out, hasI, hasI, List.contains_cons]
          rw [show (x == nth xs k) = false by rw [beq_eq_false_iff_ne]; exact fun h => HX.out h.symm, Bool.false_or]⟩, by simp [intOf]; omega⟩
    · go_wp2
      go_ret
      exact ⟨ret_b (by rw [← HC.out, List.drop_eq_nil_of_le (by rw [HL.out]; omega)]; rfl), rfl⟩
end Go.Proofs.YtjmebijckcimoaaGreatDoor
