/-
  unicode.SimpleFold at the runes of ASCII and at the two others of their orbits.
-/
import Derived.Test.YtngdmpkoedpgdaaGreatDoorFn5
namespace Go.Ap
open Go Go.RowKit
def asciiF (c : Nat) : Nat := if 65 ≤ c ∧ c ≤ 90 then c + 32 else if c = 107 then 8490 else if c = 115 then 383 else if 97 ≤ c ∧ c ≤ 122 then c - 32 else c
theorem asciiF_le {c : Nat} (h : c < 128) : asciiF c ≤ 8490 := by
  unfold asciiF
  repeat' split
  all_goals omega
def orbL : List (Nat × Nat) := [(75, 107), (83, 115), (107, 8490), (115, 383), (181, 924), (197, 229), (223, 7838), (229, 8491), (304, 304), (305, 305), (383, 83), (452, 453), (453, 454), (454, 452), (455, 456), (456, 457), (457, 455), (458, 459), (459, 460), (460, 458), (497, 498), (498, 499), (499, 497), (837, 921), (912, 8147), (914, 946), (917, 949), (920, 952), (921, 953), (922, 954), (924, 956), (928, 960), (929, 961), (931, 962), (934, 966), (937, 969), (944, 8163), (946, 976), (949, 1013), (952, 977), (953, 8126), (954, 1008), (956, 181), (960, 982), (961, 1009), (962, 963), (963, 931), (966, 981), (969, 8486), (976, 914), (977, 1012), (981, 934), (982, 928), (1008, 922), (1009, 929), (1012, 920), (1013, 917), (1042, 1074), (1044, 1076), (1054, 1086), (1057, 1089), (1058, 1090), (1066, 1098), (1074, 7296), (1076, 7297), (1086, 7298), (1089, 7299), (1090, 7300), (1098, 7302), (1122, 1123), (1123, 7303), (7296, 1042), (7297, 1044), (7298, 1054), (7299, 1057), (7300, 7301), (7301, 1058), (7302, 1066), (7303, 1122), (7304, 42570), (7776, 7777), (7777, 7835), (7835, 7776), (7838, 223), (8126, 837), (8147, 912), (8163, 944), (8486, 937), (8490, 75), (8491, 197), (42570, 42571), (42571, 7304), (64261, 64262), (64262, 64261)]
def orbF (i : Nat) : Nat := (orbL.getD i (0, 0)).1
def orbT (i : Nat) : Nat := (orbL.getD i (0, 0)).2
theorem orb_le : ∀ i : Fin 94, orbF i.val ≤ 65535 ∧ orbT i.val ≤ 65535 := by decide +kernel
/-- the two tables as they lie -/
structure FoldT (g0 g1 : Nat) (w : World) : Prop where
  asc : ∀ i, i < 128 → w.cell? ⟨g0, i, none⟩ = some (.int .u16 ((asciiF i : Nat) : Int))
  orb : ∃ b o c, w.cell? ⟨g1, 0, none⟩ = some (.slice (some ⟨b, o, none⟩) 94 c) ∧ ∀ i, i < 94 → w.cell? ⟨b, o + i * 2, none⟩ = some (.int .u16 ((orbF i : Nat) : Int)) ∧ w.cell? ⟨b, o + i * 2 + 1, none⟩ = some (.int .u16 ((orbT i : Nat) : Int))
theorem FoldT.mono {g0 g1 B : Nat} {w w' : World} (h : FoldT g0 g1 w) (hB : w.heap.size ≤ B) (hb : Below B w w') : FoldT g0 g1 w' := by
  refine ⟨fun i hi => cell_kept hB hb (h.asc i hi), ?_⟩
  obtain ⟨b, o, c, h1, h2⟩ := h.orb
  exact ⟨b, o, c, cell_kept hB hb h1, fun i hi => ⟨cell_kept hB hb (h2 i hi).1, cell_kept hB hb (h2 i hi).2⟩⟩
def sfD (r : Nat) : Prop := r < 128 ∨ r = 383 ∨ r = 8490
def sfF (r : Nat) : Nat := if r = 383 then 83 else if r = 8490 then 75 else asciiF r
theorem sf_dom {r : Nat} (h : sfD r) : sfD (sfF r) := by
  unfold sfD sfF asciiF at *
  rcases h with h | rfl | rfl
  · rw [if_neg (by omega), if_neg (by omega)]
    repeat' split
    all_goals omega
  · simp
  · simp
/-- at most six steps round -/
def sfN : Nat → Nat → Nat
  | 0, r => r
  | n + 1, r => sfF (sfN n r)
theorem sf_round {r : Nat} (h : r < 128) : sfN 6 r = r := by
  have key : ∀ i : Fin 128, sfN 6 i.val = i.val := by decide +kernel
  exact key ⟨r, h⟩
theorem sfN_dom : ∀ (n : Nat) {r : Nat}, sfD r → sfD (sfN n r)
  | 0, _, h => h
  | n + 1, _, h => sf_dom (sfN_dom n h)
/-- how many steps are left -/
def sfM (c r : Nat) : Nat := ((List.range 7).find? fun k => decide (sfN k r = c)).getD 7
theorem sfM_less (c n : Nat) (hc : c < 128) (hn : n < 6) : sfN (n + 1) c ≠ c → sfM c (sfN (n + 1 + 1) c) < sfM c (sfN (n + 1) c) := by
  have key : ∀ (i : Fin 128) (k : Fin 6), sfN (k.val + 1) i.val ≠ i.val → sfM i.val (sfN (k.val + 1 + 1) i.val) < sfM i.val (sfN (k.val + 1) i.val) := by decide +kernel
  exact key ⟨c, hc⟩ ⟨n, hn⟩
end Go.Ap
namespace Go.Proofs.YtngdmpkoedpgdaaGreatDoor
open Go.RowKit Go.Ap Go.Shelf Go.Proofs

attribute [local go_sem] Oper.semAt_some bs_toList empty_toList bs_size bs_extract
abbrev FT (w : World) : Prop := FoldT 0 1 w
set_option maxRecDepth 100000 in
set_option maxHeartbeats 2000000 in
theorem sfold_ascii (r : Nat) (w : World) (h : FT w) (hr : r < 128) : Calls Tryz.prog 97 #[.int .i32 (r : Int)] w fun e w' => e = .returned (.int .i32 ((asciiF r : Nat) : Int)) ∧ w = w' := by
  have c0 := h.asc r hr
  have hA := asciiF_le hr
  generalize asciiF r = A at *
  have d1 : ¬((r : Int) < 0) := by omega
  have d2 : ¬((1114111 : Int) < (r : Int)) := by omega
  have d3 : (r : Int) < 128 := by omega
  clear h
  go_enter Tryz.func97, Tryz.ntmps97
  go_wp2_with (fail)
  go_ret
  exact ⟨rfl, rfl⟩
set_option maxRecDepth 100000 in
set_option maxHeartbeats 4000000 in
theorem sfold_orb (r p : Nat) (w : World) (h : FT w) (hr : 128 ≤ r) (hr2 : r ≤ 65535) (hp : p < 94) (hpr : orbF p = r) (hlt : ∀ i, i < 94 → (orbF i < r ↔ i < p)) : Calls Tryz.prog 97 #[.int .i32 (r : Int)] w fun e w' => e = .returned (.int .i32 ((orbT p : Nat) : Int)) ∧ w = w' := by
  obtain ⟨b, o, c, hg, hcells⟩ := h.orb
  have HC := Lib.hid hcells
  have HLT := Lib.hid hlt
  have HPR := Lib.hid hpr
  obtain ⟨T, hT⟩ : ∃ x, orbT p = x := ⟨_, rfl⟩
  have HTT := Lib.hid hT
  rw [hT]
  have d1 : ¬((r : Int) < 0) := by omega
  have d2 : ¬((1114111 : Int) < (r : Int)) := by omega
  have d3 : ¬((r : Int) < 128) := by omega
  clear h hcells hlt hpr hT
  go_enter Tryz.func97, Tryz.ntmps97
  go_wp2_with (fail)
  go_loopw [3, 4] (fun lo hi wr => ∃ x y : Nat, lo = .int .i64 x ∧ hi = .int .i64 y ∧ x ≤ p ∧ p ≤ y ∧ y ≤ 94 ∧ w = wr) (fun lo hi _ => (intOf hi).toNat - (intOf lo).toNat)
  case atStart => exact ⟨0, 94, rfl, rfl, Nat.zero_le _, by omega, Nat.le_refl _, rfl⟩
  case round =>
    obtain ⟨x, y, rfl, rfl, hxp, hpy, hy, rfl⟩ := hrel
    by_cases hxy : x < y
    · have z1 : (x : Int) < (y : Int) := by omega
      obtain ⟨m, hm⟩ : ∃ m, (x + y) / 2 = m := ⟨_, rfl⟩
      have hmr : x ≤ m ∧ m < y := by omega
      have hmz : ((x : Int) + (y : Int)) / 2 = (m : Int) := by omega
      obtain ⟨c0, c1⟩ := HC.out m (by omega)
      have hle := (orb_le ⟨m, by omega⟩).1
      have hcmp := HLT.out m (by omega)
      simp only at hle
      generalize orbF m = F at *
      clear c1 hm
      by_cases hF : F < r
      · have z2 : (F : Int) < (r : Int) := by omega
        have hmp := hcmp.1 hF
        clear hcmp
        go_wp2_with (fail)
        exact ⟨⟨m + 1, y, by simp, rfl, by omega, hpy, hy, by trivial⟩, by simp [intOf]; omega⟩
      · have z2 : ¬(F : Int) < (r : Int) := by omega
        have hmp : ¬ m < p := fun h => hF (hcmp.2 h)
        clear hcmp
        go_wp2_with (fail)
        exact ⟨⟨x, m, rfl, rfl, hxp, by omega, by omega, by trivial⟩, by simp [intOf]; omega⟩
    · have hx : x = p := by omega
      subst hx
      obtain ⟨c0, c1⟩ := HC.out x hp
      rw [HPR.out] at c0
      rw [HTT.out] at c1
      have hle := (orb_le ⟨x, hp⟩).2
      simp only [HTT.out] at hle
      have z1 : ¬(x : Int) < (y : Int) := by omega
      have z2 : (x : Int) < 94 := by omega
      have z3 : ((r : Int) == (r : Int)) = true := by simp
      go_wp2_with (fail)
      go_ret
      exact ⟨by rfl, by trivial⟩
theorem sfold97 (r : Nat) (w : World) (h : FT w) (hr : sfD r) : Calls Tryz.prog 97 #[.int .i32 (r : Int)] w fun e w' => e = .returned (.int .i32 ((sfF r : Nat) : Int)) ∧ w = w' := by
  have k1 : ∀ i : Fin 94, (orbF i.val < 383 ↔ i.val < 10) := by decide +kernel
  have k2 : ∀ i : Fin 94, (orbF i.val < 8490 ↔ i.val < 88) := by decide +kernel
  rcases hr with hr | rfl | rfl
  · rw [show sfF r = asciiF r by unfold sfF; rw [if_neg (by omega), if_neg (by omega)]]
    exact sfold_ascii r w h hr
  · exact sfold_orb 383 10 w h (by omega) (by omega) (by omega) (by decide +kernel) fun i hi => k1 ⟨i, hi⟩
  · exact sfold_orb 8490 88 w h (by omega) (by omega) (by omega) (by decide +kernel) fun i hi => k2 ⟨i, hi⟩
end Go.Proofs.YtngdmpkoedpgdaaGreatDoor
