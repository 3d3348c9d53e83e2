/-
  The reading of a source, the place of a column: both ways.
-/
import Derived.Test.YthfppkcefnmdoaaGreatDoorNf
import Derived.Test.YthfppkcefnmdoaaGreatDoorPl
import Derived.Test.YthfppkcefnmdoaaGreatDoorNh
namespace Go.Ap
/-- the first reading that has a source, and the error -/
def whoE (rds : List Rdg) (z : Int) : Int × Int := match whoF rds z with | some i => ((i : Nat), 0) | none => (0, 6)
theorem whoF_at : ∀ {rds : List Rdg} {z : Int} {i : Nat} {r : Rdg}, rds[i]? = some r → z ∈ r.2 → (∀ j q, j < i → rds[j]? = some q → z ∉ q.2) → whoF rds z = some i
  | [], z, i, r, h, _, _ => by simp at h
  | q :: p, z, 0, r, h, hz, _ => by
    simp only [List.getElem?_cons_zero, Option.some.injEq] at h
    subst h
    rw [whoF, if_pos hz]
  | q :: p, z, i + 1, r, h, hz, hn => by
    rw [whoF, if_neg (hn 0 q (by omega) rfl), whoF_at (i := i) (by simpa using h) hz (fun j y hj hy => hn (j + 1) y (by omega) (by simpa using hy))]
    rfl
theorem whoF_end : ∀ {rds : List Rdg} {z : Int}, (∀ r ∈ rds, z ∉ r.2) → whoF rds z = none
  | [], _, _ => rfl
  | q :: p, z, h => by rw [whoF, if_neg (h q List.mem_cons_self), whoF_end fun r hr => h r (List.mem_cons_of_mem _ hr)]; rfl
theorem who_idx (rds : List Rdg) (z : Int) : (idxF (fun r : Rdg => r.2.contains z) rds = -1 ∧ whoF rds z = none) ∨ ∃ i : Nat, i < rds.length ∧ idxF (fun r : Rdg => r.2.contains z) rds = i ∧ whoF rds z = some i := by
  rcases idxF_cases (fun r : Rdg => r.2.contains z) rds with ⟨h1, h2⟩ | ⟨i, r, h1, h2, h3, h4, h5⟩
  · exact .inl ⟨h1, whoF_end fun r hr hz => by have := h2 r hr; rw [List.contains_iff_mem.2 hz] at this; cases this⟩
  · exact .inr ⟨i, h2, h1, whoF_at h3 (List.contains_iff_mem.1 h4) fun j q hj hq hz => by have := h5 j q hj hq; rw [List.contains_iff_mem.2 hz] at this; cases this⟩
/-- the place of a column, and the error -/
def holdB (c : Int) (u : Plc) : Bool := decide (u.lo ≤ c) && decide (c < u.hi)
def findE (l : List Plc) (c : Int) : Int × Int := if c < 0 then (0, 2) else (idxF (holdB c) l, 0)
theorem idxF_at {α : Type} {p : α → Bool} {xs : List α} {i : Nat} {x : α} (hx : xs[i]? = some x) (hp : p x = true) (hn : ∀ j y, j < i → xs[j]? = some y → p y = false) : idxF p xs = i := by
  have hil := (List.getElem?_eq_some_iff.1 hx).1
  rcases idxF_cases p xs with ⟨_, h2⟩ | ⟨j, y, h1, _, h3, h4, h5⟩
  · rw [h2 x (List.mem_of_getElem? hx)] at hp; cases hp
  · rcases Nat.lt_trichotomy i j with hlt | he | hlt
    · rw [h5 i x hlt hx] at hp; cases hp
    · rw [h1, he]
    · rw [hn j y hlt h3] at h4; cases h4
theorem idxF_end {α : Type} {p : α → Bool} {xs : List α} (h : ∀ x ∈ xs, p x = false) : idxF p xs = -1 := by
  rcases idxF_cases p xs with ⟨h1, _⟩ | ⟨j, y, _, _, h3, h4, _⟩
  · exact h1
  · rw [h y (List.mem_of_getElem? h3)] at h4; cases h4
theorem ret_p {x y u v : Int} (h1 : x = u) (h2 : y = v) : Go.Ending.returned (.tuple #[.int .i64 x, .int .i64 y]) = .returned (.tuple #[.int .i64 u, .int .i64 v]) := by rw [h1, h2]
end Go.Ap
namespace Go.Proofs.YthfppkcefnmdoaaGreatDoor
open Go.RowKit Go.Ap Go.Shelf Go.Proofs

attribute [local go_sem] Oper.semAt_some bs_toList empty_toList bs_size bs_extract
theorem contI (a : Option Addr) (n c : Nat) (xs : List Int) (x : Int) (w : World) (h : Ints w a n xs) :
    Calls Tryz.prog 57 #[.slice a n c, .int .i64 x] w fun e w' => e = .returned (.bool (xs.contains x)) ∧ w = w' := by
  have hl := h.len
  have hs := h.small
  rcases Nat.eq_zero_or_pos n with h0 | h0
  · subst h0
    have e1 : xs = [] := List.eq_nil_of_length_eq_zero hl
    subst e1
    exact (Tryz.slices_Contains_int_empty a c x w).mono fun e w' ⟨he, hw⟩ => ⟨he, hw.symm⟩
  · obtain ⟨b, off, rfl, hc⟩ := h.at h0
    exact (Tryz.slices_Contains_int b off n c xs x w (by omega) (by omega) (fun j hj => hc j (by omega))).mono fun e w' ⟨he, hw⟩ => ⟨by rw [he, List.take_of_length_le (by omega)], hw.symm⟩
set_option maxHeartbeats 1000000 in
theorem readU1 (b : Nat) (s : Int) (a1 : Option Addr) (n1 k1 : Nat) (a2 : Option Addr) (n2 k2 : Nat) (r : Rdg) (w : World) (h2 : Ints w a2 n2 r.2) (hb : w.cell? ⟨b, 0, none⟩ = some (.int .i64 s)) :
    Calls Tryz.prog 56 #[.agg #[.slice a1 n1 k1, .slice a2 n2 k2], .pointer (some ⟨b, 0, none⟩)] w fun e w' => e = .returned (.bool (r.2.contains s)) ∧ Below w.heap.size w w' := by
  have hb1 := balloc w (.cells #[.slice a1 n1 k1, .slice a2 n2 k2] 39)
  have HC := Lib.hid (contI a2 n2 k2 r.2 s _ (h2.mono (Nat.le_refl _) hb1))
  have HB := Lib.hid hb1
  have c0 := cell_keep hb1 hb
  generalize r.2.contains s = q at *
  clear h2 hb1 hb
  go_enter Tryz.func56, Tryz.ntmps56
  go_wp2_with (fail)
  refine HC.out.mono ?_
  rintro e w1 ⟨rfl, rfl⟩
  go_wp2_with (fail)
  go_ret
  exact ⟨rfl, HB.out⟩
set_option maxHeartbeats 1000000 in
theorem readU (u : Plc) (a : Option Addr) (n k : Nat) (s : Int) (w : World) (h : Rdgs w a n u.rds) :
    Calls Tryz.prog 16 #[.agg #[.int .i64 u.lo, .int .i64 u.hi, .slice a n k], .int .i64 s] w fun e w' => e = .returned (.tuple #[.int .i64 (whoE u.rds s).1, .int .i64 (whoE u.rds s).2]) ∧ Below w.heap.size w w' := by
  have eg := enters_of Tryz.func56 (by kernel_rfl) rfl
  have b1 := balloc w (.cells #[.int .i64 u.lo, .int .i64 u.hi, .slice a n k] 36)
  have b2 := balloc (w.alloc (.cells #[.int .i64 u.lo, .int .i64 u.hi, .slice a n k] 36)) (.cells #[.int .i64 s] 3)
  have hb := bstep b1 b2
  have c1 : ((w.alloc (.cells #[.int .i64 u.lo, .int .i64 u.hi, .slice a n k] 36)).alloc (.cells #[.int .i64 s] 3)).cell? ⟨w.heap.size + 1, 0, none⟩ = some (.int .i64 s) := cell_fresh (by simp) rfl
  have c0 : ((w.alloc (.cells #[.int .i64 u.lo, .int .i64 u.hi, .slice a n k] 36)).alloc (.cells #[.int .i64 s] 3)).cell? ⟨w.heap.size, 2, none⟩ = some (.slice a n k) := cell_keep b2 (cell_fresh rfl rfl)
  have HI := Lib.hid (idxRd (fun r => r.2.contains s) a n k u.rds 56 #[.pointer (some ⟨w.heap.size + 1, 0, none⟩)] _ (h.mono (Nat.le_refl _) hb) eg
    (fun r _ a1 n1 k1 a2 n2 k2 W hb2 _ s2 => readU1 (w.heap.size + 1) s a1 n1 k1 a2 n2 k2 r W s2 (cell_keep hb2 c1)))
  have HB := Lib.hid hb
  rcases who_idx u.rds s with ⟨h1, h2⟩ | ⟨i, _, h1, h2⟩
  · have HW := Lib.hid (show whoE u.rds s = (0, 6) by rw [whoE, h2])
    rw [h1] at HI
    clear h h1 h2 hb b1 b2 c1 eg
    go_enter Tryz.func16, Tryz.ntmps16
    go_wp2_with (fail)
    refine HI.out.mono ?_
    rintro e w1 ⟨rfl, hb⟩
    go_wp2_with (fail)
    go_ret2
    exact ⟨by rw [HW.out]; rfl, bstep HB.out hb⟩
  · have HW := Lib.hid (show whoE u.rds s = (((i : Nat) : Int), 0) by rw [whoE, h2])
    have d0 : decide ((i : Int) < 0) = false := by simp
    rw [h1] at HI
    clear h h1 h2 hb b1 b2 c1 eg
    go_enter Tryz.func16, Tryz.ntmps16
    go_wp2_with (fail)
    refine HI.out.mono ?_
    rintro e w1 ⟨rfl, hb⟩
    go_wp2_with (fail)
    go_ret2
    exact ⟨by rw [HW.out]; rfl, bstep HB.out hb⟩
set_option maxHeartbeats 4000000 in
theorem readR (u : Plc) (a : Option Addr) (n k : Nat) (s : Int) (w : World) (h : Rdgs w a n u.rds) :
    Calls Tryz.prog 40 #[.agg #[.int .i64 u.lo, .int .i64 u.hi, .slice a n k], .int .i64 s] w fun e w' => e = .returned (.tuple #[.int .i64 (whoE u.rds s).1, .int .i64 (whoE u.rds s).2]) ∧ Below w.heap.size w w' := by
  have hl := h.len
  have hs := h.small
  have HL := Lib.hid hl
  obtain ⟨W4, hW4⟩ : ∃ W4, w.alloc (.cells #[.int .i64 u.lo, .int .i64 u.hi, .slice a n k] 36) = W4 := ⟨_, rfl⟩
  have B4 : Below w.heap.size w W4 := by rw [← hW4]; exact balloc _ _
  have HH := Lib.hid (h.mono (Nat.le_refl _) B4)
  have HC2 := Lib.hid (show W4.cell? ⟨w.heap.size, 2, none⟩ = some (.slice a n k) by rw [← hW4]; exact cell_fresh rfl rfl)
  have HB4 := Lib.hid B4
  have HW4 := Lib.hid hW4
  clear h hl B4 hW4
  go_enter Tryz.func40, Tryz.ntmps40
  go_wp2_with (fail)
  rw [HW4.out]
  clear HW4
  go_loopw [6] (fun iv wr => ∃ i : Nat, i ≤ n ∧ iv = .int .i64 i ∧ wr = W4 ∧ ∀ j q, j < i → u.rds[j]? = some q → s ∉ q.2) (fun iv _ => n - (intOf iv).toNat)
  case atStart => exact ⟨0, Nat.zero_le _, rfl, rfl, fun j q hj => by omega⟩
  case round =>
    obtain ⟨i, hi, rfl, rfl, hno⟩ := hrel
    have HNO := Lib.hid hno
    clear hno
    have c2 := HC2.out
    by_cases hin : i < n
    · obtain ⟨r, b, off, hr, rfl, ⟨a1, n1, k1, a2, n2, k2, g1, s1, g2, s2⟩⟩ := HH.out.at hin
      have HR := Lib.hid hr
      have HS2 := Lib.hid s2
      have hs2 := s2.small
      have HL2 := Lib.hid s2.len
      have i1 : (i : Int) < (n : Int) := by omega
      clear hr s1 s2
      go_wp2_with (fail)
      go_loopw [7] (fun jv wq => ∃ j : Nat, j ≤ n2 ∧ jv = .int .i64 j ∧ wq = wr ∧ s ∉ r.2.take j) (fun jv _ => n2 - (intOf jv).toNat)
      case atStart => exact ⟨0, Nat.zero_le _, rfl, rfl, by simp⟩
      case round =>
        obtain ⟨wo, rfl⟩ : ∃ wo : World, wo = wr := ⟨_, rfl⟩
        obtain ⟨j, hj, rfl, rfl, hnj⟩ := hrel
        have HNJ := Lib.hid hnj
        clear hnj
        by_cases hjn : j < n2
        · obtain ⟨y, b2, off2, v, hy, rfl, gc, hv, _⟩ := Sl.at HS2.out hjn
          subst hv
          have HY := Lib.hid hy
          have i2 : (j : Int) < (n2 : Int) := by omega
          clear hy
          by_cases hys : y = s
          · have e1 : (y == s) = true := by rw [beq_iff_eq]; exact hys
            have HW := Lib.hid (show whoE u.rds s = (((i : Nat) : Int), 0) by
              rw [whoE, whoF_at HR.out (by rw [← hys]; exact List.mem_of_getElem? HY.out) HNO.out])
            clear hys
            go_wp2_with (fail)
            go_ret2
            exact ⟨by rw [HW.out]; rfl, HB4.out⟩
          · have e1 : (y == s) = false := by rw [beq_eq_false_iff_ne]; exact hys
            have HN := Lib.hid (show s ∉ r.2.take (j + 1) by
              rw [List.take_add_one, HY.out]
              simp only [Option.toList_some, List.mem_append, List.mem_singleton, not_or]
              exact ⟨HNJ.out, fun e => hys e.symm⟩)
            clear hys
            go_wp2_with (fail)
            exact ⟨⟨j + 1, by omega, by simp, by simp, HN.out⟩, by simp [intOf]; omega⟩
        · obtain rfl : j = n2 := by omega
          have HN := Lib.hid (show s ∉ r.2 by have := HNJ.out; rwa [List.take_of_length_le (by rw [HL2.out]; omega)] at this)
          go_wp2_with (fail)
          exact ⟨⟨i + 1, by omega, by simp, by simp, fun j q hj hq => by
            by_cases hji : j = i
            · subst hji; rw [HR.out] at hq; cases hq; exact HN.out
            · exact HNO.out j q (by omega) hq⟩, by simp [intOf]; omega⟩
    · obtain rfl : i = n := by omega
      have HW := Lib.hid (show whoE u.rds s = (0, 6) by
        rw [whoE, whoF_end fun r hr => ?_]
        obtain ⟨j, hj⟩ := List.getElem?_of_mem hr
        exact HNO.out j r (by rw [← HL.out]; exact (List.getElem?_eq_some_iff.1 hj).1) hj)
      go_wp2_with (fail)
      go_ret2
      exact ⟨by rw [HW.out]; rfl, HB4.out⟩
end Go.Proofs.YthfppkcefnmdoaaGreatDoor
