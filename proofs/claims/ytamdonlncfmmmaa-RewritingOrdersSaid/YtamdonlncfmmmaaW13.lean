/-
  The reference's has and add.
-/
import Derived.Test.YtamdonlncfmmmaaWordS
import Derived.Test.YtamdonlncfmmmaaPAll
namespace Go.Proofs.Ytamdonlncfmmmaa
open Go.RowKit Go.Ap Go.Shelf Go.Proofs

attribute [local go_sem] Oper.semAt_some bs_toList empty_toList bs_size ext_drop ext_take bs_append

theorem getD_of {l : List Str} {j : Nat} {y : Str} (h : l[j]? = some y) : l.getD j [] = y := by rw [List.getD_eq_getElem?_getD, h]; rfl
theorem has_snoc {l : List Str} {k : Nat} {y x : Str} (h : l[k]? = some y) : decide (x ∈ l.take (k + 1)) = (decide (x ∈ l.take k) || decide (y = x)) := by
  rw [take_succ_of h]
  simp [eq_comm]

set_option maxRecDepth 100000 in
set_option maxHeartbeats 1000000 in
theorem has59 (a : Option Addr) (n c : Nat) (xs : List Str) (x : Str) (w : World) (h : StrsL w a n xs) :
    Calls Try.prog 59 #[.slice a n c, .string (bs x)] w fun e w' => e = .returned (.bool (decide (x ∈ xs))) ∧ w = w' := by
  have hsm := h.small
  have HL := Lib.hid h.len
  have HH := Lib.hid h
  clear h
  go_enter Try.func59, Try.ntmps59
  go_wp2_with (fail)
  go_loop [5] (fun i => ∃ k : Nat, k ≤ n ∧ i = .int .i64 k ∧ decide (x ∈ xs.take k) = false) (fun i => n - (intOf i).toNat)
  case atStart => exact ⟨0, Nat.zero_le _, rfl, by simp⟩
  case round =>
    obtain ⟨k, hk, rfl, hno⟩ := hrel
    have HNO := Lib.hid hno
    clear hno
    by_cases hlt : k < n
    · obtain ⟨b, off, rfl, hc⟩ := HH.out.at (by omega)
      obtain ⟨y, hy⟩ : ∃ y, xs[k]? = some y := ⟨_, List.getElem?_eq_getElem (by rw [HL.out]; exact hlt)⟩
      have hcell := hc k y hy
      have HY := Lib.hid hy
      clear hc hy
      by_cases hxy : y = x
      · have HM := Lib.hid (show decide (x ∈ xs) = true by rw [decide_eq_true_iff, ← hxy]; exact List.mem_of_getElem? HY.out)
        have e1 : (y == x) = true := by simpa using hxy
        clear hxy
        go_wp2_with (fail)
        go_ret
        exact ⟨ret_b HM.out.symm, rfl⟩
      · have HM := Lib.hid (show decide (x ∈ xs.take (k + 1)) = false by rw [has_snoc HY.out, HNO.out]; simpa using hxy)
        have e1 : (y == x) = false := by simpa using hxy
        clear hxy
        go_wp2_with (fail)
        go_round
        case rel => exact ⟨k + 1, by omega, by go_num, HM.out⟩
        case measure => simp [intOf]; omega
    · obtain rfl : n = k := by omega
      go_wp2_with (fail)
      go_ret
      exact ⟨ret_b (by rw [← HNO.out, List.take_of_length_le (by rw [HL.out]; exact Nat.le_refl _)]), rfl⟩

set_option maxRecDepth 100000 in
set_option maxHeartbeats 4000000 in
theorem add60 (a : Option Addr) (n c : Nat) (l : List Str) (x : Str) (w : World) (h : StrsL w a n l) (hnc : n ≤ c) (hn : n ≤ 5000) (hx : x ∉ l) :
    Calls Try.prog 60 #[.slice a n c, .string (bs x)] w fun e w' => ∃ v, e = .returned v ∧ OwnS w' w.heap.size v (insS l x) ∧ Below w.heap.size w w' := by
  have HL := Lib.hid h.len
  have HH := Lib.hid h
  have HX := Lib.hid hx
  have HNC := Lib.hid hnc
  clear h hx hnc
  go_enter Try.func60, Try.ntmps60
  go_wp2_with (fail)
  go_loop [5] (fun kv => ∃ k : Nat, k ≤ n ∧ kv = .int .i64 k ∧ kS l x n = kS l x k) (fun kv => (intOf kv).toNat)
  case atStart => exact ⟨n, Nat.le_refl _, rfl, rfl⟩
  case round =>
    obtain ⟨k, hk, rfl, hks⟩ := hrel
    have HKS := Lib.hid hks
    clear hks
    have fin : ∀ k, k ≤ n → kS l x l.length = k → ∃ v1 w1 v2 w2 v3 w3 aT aD, (∀ w', (Instr.slice 26 (.slice a n c) none (some (.int .i64 (k : Int))) none).run Try.prog w' = .ok (.slice aT k c) w') ∧
        (∀ w', (Instr.slice 26 (.slice a n c) (some (.int .i64 (k : Int))) none none).run Try.prog w' = .ok (.slice aD (n - k) (c - k)) w') ∧
        (Builtin.append_ #[26, 26] 26 #[.slice (some ⟨w.heap.size, 0, none⟩) 0 0, .slice aT k c]).run Try.prog (w.alloc (.cells #[] 9)) = .ok v1 w1 ∧
        (Builtin.append_ #[26, 26] 26 #[v1, .slice (some ⟨w1.heap.size, 0, none⟩) 1 1]).run Try.prog (w1.alloc (.cells #[.string (bs x)] 9)) = .ok v2 w2 ∧
        (Builtin.append_ #[26, 26] 26 #[v2, .slice aD (n - k) (c - k)]).run Try.prog w2 = .ok v3 w3 ∧ OwnS w3 w.heap.size v3 (insS l x) ∧ Below w.heap.size w w3 := by
      intro k hk hkk
      obtain ⟨aT, hT, sT⟩ := strs_take HH.out hk HNC.out
      obtain ⟨aD, hD, sD⟩ := strs_drop HH.out hk HNC.out
      have hl := HL.out
      obtain ⟨v1, w1, r1, o1, g1, b1⟩ := OwnS_append (OwnS.empty w (Nat.le_refl _)) (sT.mono (Nat.le_refl _) (balloc w (.cells #[] 9))) c (by simp) (by simp; omega)
      have hb1 : Below w.heap.size w w1 := (balloc w (.cells #[] 9)).grown g1 (by simp) (fun k hk => by simp [Value.ownBlock] at hk; omega)
      have o1' := owns_below o1 (balloc w1 (.cells #[.string (bs x)] 9))
      have s1 : StrsL (w1.alloc (.cells #[.string (bs x)] 9)) (some ⟨w1.heap.size, 0, none⟩) 1 [x] := ⟨rfl, by omega, fun j y hj => by
        rcases j with _ | j
        · simp at hj; subst hj; exact ⟨_, 0, _, rfl, cell_fresh rfl rfl, rfl⟩
        · simp at hj⟩
      obtain ⟨v2, w2, r2, o2, g2, b2⟩ := OwnS_append o1' s1 1 (by have := hb1.size; simp; omega) (by simp; omega)
      have hb2 : Below w.heap.size w w2 := (hb1.alloc hb1.size _).grown g2 (by have := hb1.size; simp; omega) (fun k hk => (World.ownsRow.lt o1' k hk).1)
      obtain ⟨v3, w3, r3, o3, g3, b3⟩ := OwnS_append o2 (sD.mono (Nat.le_refl _) hb2) (c - k) hb2.size (by simp; omega)
      refine ⟨v1, w1, v2, w2, v3, w3, aT, aD, hT, hD, r1, r2, r3, ?_, hb2.grown g3 hb2.size (fun k hk => (World.ownsRow.lt o2 k hk).1)⟩
      rw [insS, hkk]
      simpa using o3
    by_cases h0 : k = 0
    · have d0 : decide (0 < (k : Int)) = false := by simp; omega
      have d0n : decide (0 < k) = false := by simp; omega
      obtain ⟨v1, w1, v2, w2, v3, w3, aT, aD, hT, hD, r1, r2, r3, ho, hb⟩ := fin k hk (by rw [HL.out, HKS.out, h0]; rfl)
      have R1 := Lib.hid r1
      have R2 := Lib.hid r2
      have R3 := Lib.hid r3
      have HO := Lib.hid ho
      have HB := Lib.hid hb
      clear r1 r2 r3 ho hb fin hk h0
      go_wp2_with (first
        | (at_builtin; refine wpList_append_known rfl (.tmp 34) (.tmp 37) 26 rfl _ _ _ _ rfl rfl R1.out ?_)
        | (at_builtin; refine wpList_append_known rfl (.tmp 39) (.tmp 41) 26 rfl _ _ _ _ rfl rfl R2.out ?_)
        | (at_builtin; refine wpList_append_known rfl (.tmp 43) (.tmp 46) 26 rfl _ _ _ _ rfl rfl R3.out ?_))
      go_ret
      exact ⟨v3, rfl, HO.out, HB.out⟩
    · obtain ⟨m, rfl⟩ : ∃ m, k = m + 1 := ⟨k - 1, by omega⟩
      obtain ⟨b, off, rfl, hc⟩ := HH.out.at (by omega)
      obtain ⟨y, hy⟩ : ∃ y, l[m]? = some y := ⟨_, List.getElem?_eq_getElem (by rw [HL.out]; omega)⟩
      have hcell := hc m y hy
      have HY := Lib.hid (getD_of hy)
      have HMEM := Lib.hid (List.mem_of_getElem? hy)
      have d0 : decide (0 < ((m + 1 : Nat) : Int)) = true := by simp
      clear hc hy
      by_cases hlt : x < y
      · have d1 : Op.bytesLess x y = true := by rw [less_eq]; simpa using hlt
        have HK2 := Lib.hid (show kS l x n = kS l x m by rw [HKS.out, kS, if_pos (by rw [HY.out]; exact hlt)])
        clear hlt fin
        go_wp2_with (fail)
        go_round
        case rel => exact ⟨m, by omega, by go_num, HK2.out⟩
        case measure => simp [intOf]
      · have d1 : Op.bytesLess x y = false := by rw [less_eq]; simpa using hlt
        have hyx : y ≠ x := fun he => HX.out (he ▸ HMEM.out)
        have e1 : (y == x) = false := by simpa using hyx
        obtain ⟨v1, w1, v2, w2, v3, w3, aT, aD, hT, hD, r1, r2, r3, ho, hb⟩ := fin (m + 1) hk (by rw [HL.out, HKS.out, kS, if_neg (by rw [HY.out]; exact hlt)])
        have R1 := Lib.hid r1
        have R2 := Lib.hid r2
        have R3 := Lib.hid r3
        have HO := Lib.hid ho
        have HB := Lib.hid hb
        have hml : m < n := by omega
        clear r1 r2 r3 ho hb fin hlt hyx hk h0
        have hT2 : ∀ w', (Instr.slice 26 (.slice (some ⟨b, off, none⟩) n c) none (some (.int .i64 ((m : Int) + 1))) none).run Try.prog w' = .ok (.slice aT (m + 1) c) w' := hT
        have hD2 : ∀ w', (Instr.slice 26 (.slice (some ⟨b, off, none⟩) n c) (some (.int .i64 ((m : Int) + 1))) none none).run Try.prog w' = .ok (.slice aD (n - (m + 1)) (c - (m + 1))) w' := hD
        clear hT hD
        go_wp2_with (first
          | (at_builtin; refine wpList_append_known rfl (.tmp 34) (.tmp 37) 26 rfl _ _ _ _ rfl rfl R1.out ?_)
          | (at_builtin; refine wpList_append_known rfl (.tmp 39) (.tmp 41) 26 rfl _ _ _ _ rfl rfl R2.out ?_)
          | (at_builtin; refine wpList_append_known rfl (.tmp 43) (.tmp 46) 26 rfl _ _ _ _ rfl rfl R3.out ?_))
        go_ret
        exact ⟨v3, rfl, HO.out, HB.out⟩
end Go.Proofs.Ytamdonlncfmmmaa
