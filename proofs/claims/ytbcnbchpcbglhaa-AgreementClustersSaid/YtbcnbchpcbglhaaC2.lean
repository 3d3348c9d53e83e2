/-
  The order of groups, and where a source stands.
-/
import Derived.Test.YtbcnbchpcbglhaaC1
namespace Go.Proofs.Ytbcnbchpcbglhaa
open Go.RowKit Go.Ap Go.Shelf Go.Proofs

theorem compare46 (a b : Option Addr) (n c m d : Nat) (xs ys : List Int) (w : World) (hx : Ints w a n xs) (hy : Ints w b m ys) (h1 : 0 < n) (h2 : 0 < m) (hgt : nth ys 0 < nth xs 0) :
    Calls Try.prog 46 #[.slice a n c, .slice b m d] w fun e w' => e = .returned (.int .i64 1) ∧ w = w' := by
  obtain ⟨b1, o1, rfl, hc1⟩ := Ints.at hx h1
  obtain ⟨b2, o2, rfl, hc2⟩ := Ints.at hy h2
  have f1 := hc1 0 h1
  have f2 := hc2 0 h2
  have s1 := hx.small
  have s2 := hy.small
  simp only [Nat.add_zero] at f1 f2
  clear hc1 hc2 hx hy
  generalize nth xs 0 = x at *
  generalize nth ys 0 = y at *
  have HC := Try.cmp_Compare_int x y w
  rw [show Lib.compareInt x y = 1 by unfold Lib.compareInt; rw [if_neg (by omega), if_pos (by omega)]] at HC
  have HC := Lib.hid HC
  go_enter Try.func46, Try.ntmps46
  go_wp2_with (fail)
  go_loop [11] (fun i => i = .int .i64 0) (fun _ => 0)
  case atStart => rfl
  case round =>
    subst hrel
    go_wp2_with (fail)
    refine (HC.out).mono ?_
    rintro e w' ⟨rfl, hw⟩
    subst hw
    go_wp2_with (fail)
    go_ret
    exact ⟨rfl, rfl⟩
theorem cmp45 (a b : Option Addr) (n c m d : Nat) (xs ys : List Int) (w : World) (hx : Ints w a n xs) (hy : Ints w b m ys) (h1 : 0 < n) (h2 : 0 < m) (hgt : nth ys 0 < nth xs 0) :
    Calls Try.prog 45 #[.slice a n c, .slice b m d] w fun e w' => e = .returned (.int .i64 1) ∧ ∃ q, w' = w.drewN q := by
  have H := Lib.hid (compare46 a b n c m d xs ys w hx hy h1 h2 hgt)
  go_enter Try.func45, Try.ntmps45
  go_wp2_with (fail)
  refine (H.out).mono ?_
  rintro e w' ⟨rfl, rfl⟩
  go_wp2_with (fail)
  go_ret
  exact ⟨rfl, 0, rfl⟩

/-- the groups stand by their first members -/
def Heads (xss : List (List Int)) : Prop := (∀ xs ∈ xss, 0 < xs.length) ∧ ∀ k, k + 1 < xss.length → nth (row xss k) 0 < nth (row xss (k + 1)) 0

set_option maxHeartbeats 1000000 in
theorem sortedF44 (a : Option Addr) (n c : Nat) (xss : List (List Int)) (w : World) (h : Rows2 w a n xss) (hs : Heads xss) :
    Calls Try.prog 44 #[.slice a n c, .func (.func 45) #[] #[]] w fun e w' => e = .returned (.bool true) ∧ ∃ q, w' = w.drewN q := by
  have hsm := h.small
  have HH := Lib.hid h
  have HL := Lib.hid h.len
  have HS := Lib.hid hs
  have eg : ∀ args w, (callFunc 45 args).run Try.prog w = .ok (.enter 45 args) w := enters_of Try.func45 (by kernel_rfl) rfl
  clear h hs
  go_enter Try.func44, Try.ntmps44
  go_wp2_with (fail)
  go_loopw [5] (fun iv wr => ∃ (z : Int) (q : Nat), -1 ≤ z ∧ z < n ∧ iv = .int .i64 z ∧ wr = w.drewN q) (fun iv _ => (intOf iv + 1).toNat)
  case atStart => exact ⟨_, 0, by omega, by omega, rfl, rfl⟩
  case round =>
    obtain ⟨z, q, hz1, hz2, rfl, hwr⟩ := hrel
    by_cases h0 : 0 < z
    · obtain ⟨k, rfl⟩ : ∃ k : Nat, z = k + 1 := ⟨(z - 1).toNat, by omega⟩
      obtain ⟨b, o, rfl, hc⟩ := Rows2.all HH.out (by omega)
      have hk1 : k + 1 < xss.length := by rw [HL.out]; omega
      obtain ⟨a1, n1, c1, hcell1, hI1⟩ := hc (k + 1) (by omega)
      obtain ⟨a2, n2, c2, hcell2, hI2⟩ := hc k (by omega)
      have hgt := HS.out.2 k hk1
      have l1 : 0 < n1 := by rw [← hI1.len]; exact HS.out.1 _ (row_mem hk1)
      have l2 : 0 < n2 := by rw [← hI2.len]; exact HS.out.1 _ (row_mem (by omega))
      have f1 : wr.cell? ⟨b, o + (k + 1), none⟩ = some (.slice a1 n1 c1) := by rw [hwr]; exact hcell1
      have f2 : wr.cell? ⟨b, o + k, none⟩ = some (.slice a2 n2 c2) := by rw [hwr]; exact hcell2
      have H45 := Lib.hid (fun q => cmp45 a1 a2 n1 c1 n2 c2 (row xss (k + 1)) (row xss k) (wr.drewN q) (by rw [hwr]; exact hI1.drewN.drewN) (by rw [hwr]; exact hI2.drewN.drewN) l1 l2 hgt)
      have HW := Lib.hid hwr
      have s1 : IntKind.i64.wrap ((k : Int) + 1 - 1) = (k : Int) := by rw [show (k : Int) + 1 - 1 = (k : Int) by omega]; exact IntWalk.i64_in _ (by omega)
      have s2 : ((k : Int) + 1).toNat = k + 1 := by omega
      have s3 : (0 : Int) ≤ (k : Int) + 1 := by omega
      clear hc hwr hgt hcell1 hcell2 hI1 hI2
      go_wp2_with (fail)
      go_quiet ((go_at_call 45; exact Calls.quiet_of (H45.out _)))
      clear s1 s2
      go_wp2_with (fail)
      go_roundw
      case rel => exact ⟨(k : Int), _, by omega, by omega, by go_num, by rw [HW.out, drewN2]⟩
      case measure => simp [intOf]; omega
    · subst hwr
      go_wp2_with (fail)
      go_ret
      exact ⟨rfl, _, rfl⟩

theorem fine47 (a : Option Addr) (n c : Nat) (xs : List Int) (w : World) (h : Ints w a n xs) (h0 : 0 < n) (hs : xs.Pairwise (· ≤ ·)) :
    Calls Try.prog 47 #[.slice a n c] w fun e w' => e = .returned (.bool false) ∧ ∃ q, w' = w.drewN q := by
  have H := Lib.hid (sorted35 a n c xs w h hs)
  have hsm := h.small
  have e0 : ((n : Int) == 0) = false := by rw [beq_eq_false_iff_ne]; omega
  go_enter Try.func47, Try.ntmps47
  go_wp2_with (fail)
  refine (H.out).mono ?_
  rintro e w' ⟨rfl, q, rfl⟩
  go_wp2_with (fail)
  go_ret
  exact ⟨rfl, _, rfl⟩

theorem has42 (Bx : Nat) (a : Option Addr) (n c : Nat) (xs : List Int) (s : Int) (w : World) (hb : w.cell? ⟨Bx, 0, none⟩ = some (.int .i64 s)) (h : Ints w a n xs) :
    Calls Try.prog 42 #[.slice a n c, .pointer (some ⟨Bx, 0, none⟩)] w fun e w' => e = .returned (.bool (hasI xs s)) ∧ ∃ q, w' = w.drewN q := by
  have H := Lib.hid (contains27 a n c xs s w h)
  go_enter Try.func42, Try.ntmps42
  go_wp2_with (fail)
  refine (H.out).mono ?_
  rintro e w' ⟨rfl, rfl⟩
  go_wp2_with (fail)
  go_ret
  exact ⟨rfl, 0, rfl⟩

/-- the place of the group that has a source -/
def placeL (xss : List (List Int)) (s : Int) : Int := idxF (fun l => hasI l s) xss
theorem place40 (a : Option Addr) (n c : Nat) (xss : List (List Int)) (s : Int) (w : World) (h : Rows2 w a n xss) :
    Calls Try.prog 40 #[.slice a n c, .int .i64 s] w fun e w' => e = .returned (.int .i64 (placeL xss s)) ∧ Below w.heap.size w w' := by
  have hc : (w.alloc (.cells #[.int .i64 s] 3)).cell? ⟨w.heap.size, 0, none⟩ = some (.int .i64 s) := cell_fresh rfl rfl
  have h41 := idxf41 (fun l => hasI l s) a n c xss 42 #[.pointer (some ⟨w.heap.size, 0, none⟩)] (w.alloc (.cells #[.int .i64 s] 3)) (h.mono (Nat.le_refl _) (balloc _ _)) (enters_of Try.func42 (by kernel_rfl) rfl) (by
    rintro q xs v hx ⟨a', n', c', rfl, hI⟩
    exact has42 _ a' n' c' xs s _ hc hI.drewN)
  have H41 := Lib.hid h41
  clear h41 h hc
  go_enter Try.func40, Try.ntmps40
  go_wp2_with (fail)
  refine (H41.out).mono ?_
  rintro e w' ⟨rfl, q, rfl⟩
  go_wp2_with (fail)
  go_ret
  exact ⟨rfl, bstep (balloc _ _) (bdrewN _ _)⟩

end Go.Proofs.Ytbcnbchpcbglhaa
