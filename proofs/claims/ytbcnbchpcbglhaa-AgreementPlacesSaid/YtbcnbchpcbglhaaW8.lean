/-
  Nearest, of the program and of the reference.
-/
import Derived.Test.YtbcnbchpcbglhaaW7
namespace Go.Proofs.Ytbcnbchpcbglhaa
open Go.RowKit Go.Ap Go.Shelf

/-- the nearest of the first k sources -/
def nearO (S : List (List Int)) (m i : Nat) : Nat → Option Nat
  | 0 => none
  | k + 1 => if k = i then nearO S m i k else match nearO S m i k with
    | none => some k
    | some b => if dist (row S i) (row S k) m < dist (row S i) (row S b) m then some k else some b
def leastO (S : List (List Int)) (m i : Nat) : Option Nat → Int
  | none => 1001
  | some b => dist (row S i) (row S b) m
def bestP : Option Nat → Int
  | none => 0
  | some b => b
def bestR : Option Nat → Int
  | none => -1
  | some b => b
theorem nearO_self {S : List (List Int)} {m i : Nat} : nearO S m i (i + 1) = nearO S m i i := by rw [nearO, if_pos rfl]
theorem nearO_take {S : List (List Int)} {m i k : Nat} (h : k ≠ i) (hd : dist (row S i) (row S k) m < leastO S m i (nearO S m i k)) : nearO S m i (k + 1) = some k := by
  rw [nearO, if_neg h]
  cases hb : nearO S m i k with
  | none => rfl
  | some b => rw [hb] at hd; simp only [leastO] at hd; simp only [if_pos hd]
theorem nearO_keep {S : List (List Int)} {m i k : Nat} (h : k ≠ i) (hd : ¬ dist (row S i) (row S k) m < leastO S m i (nearO S m i k)) : nearO S m i (k + 1) = nearO S m i k := by
  rw [nearO, if_neg h]
  cases hb : nearO S m i k with
  | none => rw [hb] at hd; have := dist_bound (row S i) (row S k) m; simp only [leastO] at hd; omega
  | some b => rw [hb] at hd; simp only [leastO] at hd; simp only [if_neg hd]
theorem nearO_spec (S : List (List Int)) (m i : Nat) : ∀ k, match nearO S m i k with
    | none => ∀ j, j < k → j = i
    | some b => b < k ∧ b ≠ i ∧ ∀ j, j < k → j ≠ i → dist (row S i) (row S b) m ≤ dist (row S i) (row S j) m ∧ (j < b → dist (row S i) (row S b) m < dist (row S i) (row S j) m)
  | 0 => fun j h => by omega
  | k + 1 => by
    have ih := nearO_spec S m i k
    by_cases hk : k = i
    · have hs : nearO S m i (k + 1) = nearO S m i k := by rw [hk]; exact nearO_self
      rw [hs]
      cases hb : nearO S m i k with
      | none => rw [hb] at ih; intro j hj; by_cases h : j = k
                · omega
                · exact ih j (by omega)
      | some b =>
        rw [hb] at ih
        exact ⟨by omega, ih.2.1, fun j hj hne => ih.2.2 j (by omega) hne⟩
    · cases hb : nearO S m i k with
      | none =>
        have hs : nearO S m i (k + 1) = some k := by rw [nearO, if_neg hk, hb]
        rw [hb] at ih
        rw [hs]
        refine ⟨by omega, hk, fun j hj hne => ?_⟩
        by_cases h : j = k
        · subst h; exact ⟨by omega, by omega⟩
        · exact absurd (ih j (by omega)) hne
      | some b =>
        rw [hb] at ih
        by_cases hd : dist (row S i) (row S k) m < dist (row S i) (row S b) m
        · have hs : nearO S m i (k + 1) = some k := by rw [nearO, if_neg hk, hb]; simp only [if_pos hd]
          rw [hs]
          refine ⟨by omega, hk, fun j hj hne => ?_⟩
          by_cases h : j = k
          · subst h; exact ⟨by omega, by omega⟩
          · have := (ih.2.2 j (by omega) hne).1
            exact ⟨by omega, fun _ => by omega⟩
        · have hs : nearO S m i (k + 1) = some b := by rw [nearO, if_neg hk, hb]; simp only [if_neg hd]
          rw [hs]
          refine ⟨by omega, ih.2.1, fun j hj hne => ?_⟩
          by_cases h : j = k
          · subst h; exact ⟨by omega, fun h => by omega⟩
          · exact ih.2.2 j (by omega) hne
theorem nearO_lt {S : List (List Int)} {m i k b : Nat} (h : nearO S m i k = some b) : b < k := by
  have := nearO_spec S m i k
  rw [h] at this
  exact this.1

def nearE (S : List (List Int)) (i : Int) : Int := if chkS S ≠ 0 then 1 else if i < 0 ∨ (S.length : Int) ≤ i then 2 else if S.length = 1 then 6 else 0
def nearV (S : List (List Int)) (m : Nat) (i : Int) : Int := if nearE S i = 0 then bestP (nearO S m i.toNat S.length) else 0

theorem nearest13_no (a : Option Addr) (n c : Nat) (i : Int) (S : List (List Int)) (w : World) (h : Rows2 w a n S) (hE : nearE S i ≠ 0) (hi : I64 i) :
    Calls Try.prog 13 #[.slice a n c, .int .i64 i] w fun e w' => e = .returned (.tuple #[.int .i64 0, .int .i64 (nearE S i)]) ∧ Below w.heap.size w w' := by
  have H32 := check32 a n c S w h
  have hsm := h.small
  have HL := Lib.hid h.len
  have hi1 := hi.1
  have hi2 := hi.2
  clear hi h
  by_cases h1 : chkS S = 0
  · rw [h1] at H32
    have H32 := Lib.hid H32
    by_cases h2 : i < 0
    · have he : nearE S i = 2 := by rw [nearE, if_neg (by simp [h1]), if_pos (.inl h2)]
      rw [he]
      have d1 : decide (i < 0) = true := by simpa using h2
      clear he hE h1
      go_enter Try.func13, Try.ntmps13
      go_wp2_with (fail)
      refine (H32.out).mono ?_
      rintro e w' ⟨rfl, q, rfl⟩
      go_wp2_with (fail)
      go_ret2
      exact ⟨rfl, bdrewN _ _⟩
    · have d1 : decide (i < 0) = false := by simpa using h2
      by_cases h3 : (n : Int) ≤ i
      · have he : nearE S i = 2 := by rw [nearE, if_neg (by simp [h1]), if_pos (.inr (by rw [HL.out]; exact h3))]
        rw [he]
        have d2 : decide ((n : Int) ≤ i) = true := by simpa using h3
        clear he hE h1
        go_enter Try.func13, Try.ntmps13
        go_wp2_with (fail)
        refine (H32.out).mono ?_
        rintro e w' ⟨rfl, q, rfl⟩
        go_wp2_with (fail)
        go_ret2
        exact ⟨rfl, bdrewN _ _⟩
      · have d2 : decide ((n : Int) ≤ i) = false := by simpa using h3
        by_cases h4 : n = 1
        · subst h4
          have he : nearE S i = 6 := by rw [nearE, if_neg (by simp [h1]), if_neg (by rw [HL.out]; omega), if_pos HL.out]
          rw [he]
          clear he hE h1
          go_enter Try.func13, Try.ntmps13
          go_wp2_with (fail)
          refine (H32.out).mono ?_
          rintro e w' ⟨rfl, q, rfl⟩
          go_wp2_with (fail)
          go_ret2
          exact ⟨rfl, bdrewN _ _⟩
        · exact absurd (by rw [nearE, if_neg (by simp [h1]), if_neg (by rw [HL.out]; omega), if_neg (by rw [HL.out]; exact h4)]) hE
  · have he : nearE S i = 1 := by rw [nearE, if_pos h1]
    rw [he]
    have d1 : (chkS S != 0) = true := by simpa using h1
    have H32 := Lib.hid H32
    clear he hE h1
    go_enter Try.func13, Try.ntmps13
    go_wp2_with (fail)
    refine (H32.out).mono ?_
    rintro e w' ⟨rfl, q, rfl⟩
    go_wp2_with (fail)
    go_ret2
    exact ⟨rfl, bdrewN _ _⟩

set_option maxHeartbeats 1000000 in
theorem nearest13_ok (a : Option Addr) (n c m i : Nat) (S : List (List Int)) (w : World) (h : Rows2 w a n S) (hch : chkS S = 0) (ok : OkS S m) (hi : i < n) (hn : n ≠ 1) :
    Calls Try.prog 13 #[.slice a n c, .int .i64 i] w fun e w' => e = .returned (.tuple #[.int .i64 (bestP (nearO S m i n)), .int .i64 0]) ∧ Below w.heap.size w w' := by
  have H32 := check32 a n c S w h
  rw [hch] at H32
  have H32 := Lib.hid H32
  have hsm := h.small
  have HL := Lib.hid h.len
  have HH := Lib.hid h
  have OK := Lib.hid ok
  have hw := ok.wid
  have hn32 : n ≤ 32 := by rw [← h.len]; exact ok.le
  have d1 : decide ((i : Int) < 0) = false := by simp
  have d2 : decide ((n : Int) ≤ (i : Int)) = false := by simp; omega
  have d2b : decide (n ≤ i) = false := by simp; omega
  have d3 : ((n : Int) == 1) = false := by rw [beq_eq_false_iff_ne]; omega
  clear hch h ok hn
  go_enter Try.func13, Try.ntmps13
  go_wp2_with (fail)
  refine (H32.out).mono ?_
  rintro e w' ⟨rfl, q, rfl⟩
  go_wp2_with (fail)
  go_loopw [6, 7, 30] (fun bv lv kv wr => ∃ k : Nat, k ≤ n ∧ kv = .int .i64 k ∧ bv = .int .i64 (bestP (nearO S m i k)) ∧ lv = .int .i64 (leastO S m i (nearO S m i k)) ∧ Below w.heap.size w wr) (fun _ _ kv _ => n - (intOf kv).toNat)
  case atStart => exact ⟨0, by omega, rfl, rfl, rfl, bdrewN _ _⟩
  case round =>
    obtain ⟨k, hk, rfl, rfl, rfl, hb⟩ := hrel
    have HB := Lib.hid hb
    by_cases hlt : k < n
    · obtain ⟨b1, o1, rfl, hc1⟩ := Rows2.all (HH.out.mono (Nat.le_refl _) hb) (by omega)
      obtain ⟨a1, n1, c1, hcell1, hI1⟩ := hc1 i hi
      obtain ⟨a2, n2, c2, hcell2, hI2⟩ := hc1 k hlt
      obtain rfl : m = n1 := by rw [← hI1.len]; exact (OK.out.row_len (by rw [HL.out]; exact hi)).symm
      obtain rfl : m = n2 := by rw [← hI2.len]; exact (OK.out.row_len (by rw [HL.out]; exact hlt)).symm
      have H49 := Lib.hid (distance49 a1 a2 m m c1 c2 (row S i) (row S k) wr (Nat.le_refl _) hw hI1 hI2)
      have hdb := dist_bound (row S i) (row S k) m
      have HSELF := Lib.hid (nearO_self (S := S) (m := m) (i := i))
      have HTAKE := Lib.hid (nearO_take (S := S) (m := m) (i := i) (k := k))
      have HKEEP := Lib.hid (nearO_keep (S := S) (m := m) (i := i) (k := k))
      have HLE := Lib.hid (show leastO S m i (some k) = dist (row S i) (row S k) m from rfl)
      clear hc1 hI1 hI2 hb
      generalize hO : nearO S m i k = o at *
      have HO := Lib.hid hO
      generalize hD : dist (row S i) (row S k) m = d at *
      have HD := Lib.hid hD
      clear hO hD
      by_cases he : k = i
      · subst he
        obtain ⟨rfl, rfl⟩ : a1 = a2 ∧ c1 = c2 := by have := hcell1.symm.trans hcell2; simpa using this
        have HN := Lib.hid (show nearO S m k (k + 1) = o by rw [HSELF.out, HO.out])
        have e1 : ((k : Int) != k) = false := by simp
        go_wp2_with (fail)
        refine (H49.out).mono ?_
        rintro e w2 ⟨rfl, hb2⟩
        go_wp2_with (fail)
        go_roundw
        case rel => exact ⟨k + 1, by omega, by go_num, by rw [HN.out], by rw [HN.out], bstep HB.out hb2⟩
        case measure => simp [intOf]; omega
      · have e1 : ((k : Int) != i) = true := by rw [bne_iff_ne]; omega
        obtain ⟨L, hLL⟩ : ∃ L, leastO S m i o = L := ⟨_, rfl⟩
        rw [hLL] at HTAKE HKEEP ⊢
        have HLL := Lib.hid hLL
        clear hLL
        by_cases hd : d < L
        · have e2 : decide (d < L) = true := by simpa using hd
          have HN := Lib.hid (HTAKE.out he hd)
          clear he
          go_wp2_with (fail)
          refine (H49.out).mono ?_
          rintro e w2 ⟨rfl, hb2⟩
          go_wp2_with (fail)
          go_roundw
          case rel => exact ⟨k + 1, by omega, by go_num, by rw [HN.out]; rfl, by rw [HN.out, HLE.out], bstep HB.out hb2⟩
          case measure => simp [intOf]; omega
        · have e2 : decide (d < L) = false := by simpa using hd
          have HN := Lib.hid (HKEEP.out he hd)
          clear he
          go_wp2_with (fail)
          refine (H49.out).mono ?_
          rintro e w2 ⟨rfl, hb2⟩
          go_wp2_with (fail)
          go_roundw
          case rel => exact ⟨k + 1, by omega, by go_num, by rw [HN.out], by rw [HN.out, HLL.out], bstep HB.out hb2⟩
          case measure => simp [intOf]; omega
    · obtain rfl : n = k := by omega
      go_wp2_with (fail)
      go_ret2
      exact ⟨rfl, HB.out⟩

theorem nearE_zero {S : List (List Int)} {i : Int} (h : nearE S i = 0) : chkS S = 0 ∧ 0 ≤ i ∧ i < S.length ∧ S.length ≠ 1 := by
  unfold nearE at h
  split at h
  · cases h
  · split at h
    · cases h
    · split at h
      · cases h
      · rename_i h1 h2 h3
        exact ⟨by omega, by omega, by omega, h3⟩

theorem nearest13 (a : Option Addr) (n c m : Nat) (i : Int) (S : List (List Int)) (w : World) (h : Rows2 w a n S) (hi : I64 i) (hm : m = (row S 0).length) :
    Calls Try.prog 13 #[.slice a n c, .int .i64 i] w fun e w' => e = .returned (.tuple #[.int .i64 (nearV S m i), .int .i64 (nearE S i)]) ∧ Below w.heap.size w w' := by
  by_cases hE : nearE S i = 0
  · obtain ⟨h1, h2, h3, h4⟩ := nearE_zero hE
    obtain ⟨k, rfl⟩ : ∃ k : Nat, i = k := ⟨i.toNat, by omega⟩
    have ok := chkS_ok h1
    rw [← hm] at ok
    rw [nearV, if_pos hE, hE, h.len, Int.toNat_natCast]
    exact nearest13_ok a n c m k S w h h1 ok (by rw [← h.len]; omega) (by rw [← h.len]; exact h4)
  · rw [nearV, if_neg hE]
    exact nearest13_no a n c i S w h hE hi

end Go.Proofs.Ytbcnbchpcbglhaa
