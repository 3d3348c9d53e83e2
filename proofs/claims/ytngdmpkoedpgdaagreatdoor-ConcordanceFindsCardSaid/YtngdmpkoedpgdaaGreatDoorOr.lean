/-
  The order of postings: program and reference.
-/
import Derived.Test.YtngdmpkoedpgdaaGreatDoorFq
import Derived.Test.YtngdmpkoedpgdaaGreatDoorU1
import Derived.Test.YtngdmpkoedpgdaaGreatDoorShelf
namespace Go.Ap
open Go Go.RowKit
/-- a posting as a value: word, section, lines -/
def postV (p : Str × Str) (l : Value) : Array Value := #[.string (bs p.1), .string (bs p.2), l]
theorem BlkK.lw {W W' : World} {b : Nat} {cs : Array Value} {t : TypeId} (h : BlkK W b cs t) (hl : Lw W W') : BlkK W' b cs t := h.below hl.below
theorem BlkK.allocK {W : World} {b : Nat} {cs : Array Value} {t : TypeId} (h : BlkK W b cs t) (o : Obj) : BlkK (W.alloc o) b cs t := h.lw ((Lw.refl W).alloc o)
end Go.Ap
namespace Go.Proofs.YtngdmpkoedpgdaaGreatDoor
open Go.RowKit Go.Ap Go.Shelf Go.Proofs

attribute [local go_sem] Oper.semAt_some bs_toList empty_toList bs_size bs_extract bl_eq

set_option maxRecDepth 100000 in
set_option maxHeartbeats 2000000 in
theorem orC (b : Nat) (r1 r2 R : Int) (HR : Hid (R = if r1 = 0 then r2 else r1)) (w : World) (c1 : w.cell? ⟨b, 0, none⟩ = some (.int .i64 r1)) (c2 : w.cell? ⟨b, 1, none⟩ = some (.int .i64 r2)) :
    Calls Tryz.prog 78 #[.slice (some ⟨b, 0, none⟩) 2 2] w fun e w' => e = .returned (.int .i64 R) ∧ w = w' := by
  go_enter Tryz.func78, Tryz.ntmps78
  go_wp2_with (fail)
  go_loopw [8] (fun kv wr => ∃ k : Nat, k ≤ 2 ∧ kv = .int .i64 k ∧ w = wr ∧ (1 ≤ k → r1 = 0) ∧ (2 ≤ k → r2 = 0)) (fun kv _ => 2 - (intOf kv).toNat)
  case atStart => exact ⟨0, Nat.zero_le _, rfl, rfl, by omega, by omega⟩
  case round =>
    obtain ⟨k, hk, rfl, rfl, g1, g2⟩ := hrel
    have G1 := Lib.hid g1
    obtain rfl | rfl | rfl : k = 0 ∨ k = 1 ∨ k = 2 := by omega
    · clear g1 g2
      by_cases q1 : r1 = 0
      · have Q1 := Lib.hid q1
        have e1 : (r1 != 0) = false := by simp [q1]
        clear q1
        go_wp2_with (fail)
        exact ⟨⟨1, by omega, by simp, trivial, fun _ => Q1.out, by omega⟩, by simp [intOf]⟩
      · have Q1 := Lib.hid q1
        have e1 : (r1 != 0) = true := by simpa using q1
        clear q1
        go_wp2_with (fail)
        go_ret
        exact ⟨ret_i (by rw [HR.out, if_neg Q1.out]), rfl⟩
    · clear g1 g2
      by_cases q1 : r2 = 0
      · have Q1 := Lib.hid q1
        have e1 : (r2 != 0) = false := by simp [q1]
        clear q1
        go_wp2_with (fail)
        exact ⟨⟨2, by omega, by simp, trivial, fun _ => G1.out (by omega), fun _ => Q1.out⟩, by simp [intOf]⟩
      · have Q1 := Lib.hid q1
        have e1 : (r2 != 0) = true := by simpa using q1
        clear q1
        go_wp2_with (fail)
        go_ret
        exact ⟨ret_i (by rw [HR.out, if_pos (G1.out (by omega))]), rfl⟩
    · have HZ := Lib.hid (show (0 : Int) = R by rw [HR.out, if_pos (g1 (by omega)), g2 (by omega)])
      clear g1 g2
      go_wp2_with (fail)
      go_ret
      exact ⟨ret_i HZ.out, rfl⟩
theorem strcmpP (a b : Str) (w : World) : Calls Tryz.prog 169 #[.string (bs a), .string (bs b)] w fun e w' => e = .returned (.int .i64 (cmpS a b)) ∧ w = w' := by
  refine (Tryz.strings_Compare (bs a) (bs b) w).mono fun e w' ⟨h1, h2⟩ => ⟨?_, h2.symm⟩
  rw [h1]
  exact ret_i (by rw [show (bs a).data.toList = a by simp [bs], show (bs b).data.toList = b by simp [bs], cb_eq])
set_option maxRecDepth 100000 in
set_option maxHeartbeats 4000000 in
theorem orderP (p q : Str × Str) (l1 l2 : Value) (w : World) (hp : p.1.length ≤ 4611686018427387903) (hq : q.1.length ≤ 4611686018427387903) :
    Calls Tryz.prog 127 #[.agg (postV p l1), .agg (postV q l2)] w fun e w' => e = .returned (.int .i64 (headM mkB p q)) ∧ Lw w w' := by
  obtain ⟨p1, p2⟩ := p
  obtain ⟨q1, q2⟩ := q
  simp only at hp hq
  have HC := Lib.hid (fun W => compareP p1 q1 W hp hq)
  have HS := Lib.hid (fun W => strcmpP p2 q2 W)
  have HU := Lib.hid (show headM mkB (p1, p2) (q1, q2) = if dictM mkB p1 q1 = 0 then cmpS p2 q2 else dictM mkB p1 q1 from rfl)
  obtain ⟨R, hR⟩ : ∃ R, headM mkB (p1, p2) (q1, q2) = R := ⟨_, rfl⟩
  rw [hR] at HU ⊢
  obtain ⟨r1, h1⟩ : ∃ r, dictM mkB p1 q1 = r := ⟨_, rfl⟩
  obtain ⟨r2, h2⟩ : ∃ r, cmpS p2 q2 = r := ⟨_, rfl⟩
  rw [h1] at HU HC
  rw [h2] at HU HS
  clear hR h1 h2 hp hq
  obtain ⟨X, hX⟩ : ∃ X, w.heap.size = X := ⟨_, rfl⟩
  have K1 := Lib.hid (show BlkK ((w.alloc (.cells #[.string (bs p1), .string (bs p2), l1] 37)).alloc (.cells #[.string (bs q1), .string (bs q2), l2] 37)) X #[.string (bs p1), .string (bs p2), l1] 37 by rw [← hX]; exact (BlkK.new w _ _).allocK _)
  have K2 := Lib.hid (show BlkK ((w.alloc (.cells #[.string (bs p1), .string (bs p2), l1] 37)).alloc (.cells #[.string (bs q1), .string (bs q2), l2] 37)) (X + 1) #[.string (bs q1), .string (bs q2), l2] 37 by
    have := BlkK.new (w.alloc (.cells #[.string (bs p1), .string (bs p2), l1] 37)) #[.string (bs q1), .string (bs q2), l2] 37
    rw [show (w.alloc (.cells #[.string (bs p1), .string (bs p2), l1] 37)).heap.size = X + 1 by rw [← hX]; simp] at this
    exact this)
  have HL := Lib.hid (((Lw.refl w).alloc (.cells #[.string (bs p1), .string (bs p2), l1] 37)).alloc (.cells #[.string (bs q1), .string (bs q2), l2] 37))
  obtain ⟨W0, hW0⟩ : ∃ W, (w.alloc (.cells #[.string (bs p1), .string (bs p2), l1] 37)).alloc (.cells #[.string (bs q1), .string (bs q2), l2] 37) = W := ⟨_, rfl⟩
  rw [hW0] at K1 K2 HL
  unfold postV
  go_enter Tryz.func127, Tryz.ntmps127
  go_wp2_with (fail)
  refine (wpIn_wide (n := 20)).1 ?_
  refine wpIn_region_planN (fun W' => Lw w W' ∧ BlkK W' X #[.string (bs p1), .string (bs p2), l1] 37 ∧ BlkK W' (X + 1) #[.string (bs q1), .string (bs q2), l2] 37) (.take 0 <| .take 1 <| .take 2 <| .take 3 <| .take 5 <| .take 6 <| .take 7 <| .take 8 <| .one 4 <| .one 9 <| .one 10 <| .one 11 <| .take 12 <| .fin) (fun _ => trivial) (by kernel_rfl) (by kernel_rfl) (show Lw w W0.drew ∧ _ ∧ _ from ⟨HL.out.drew, K1.out.lw (Lw.refl _).drew, K2.out.lw (Lw.refl _).drew⟩) ?_
  apply plan_take rfl rfl (by rfl)
  case hy =>
    rintro W' hb'
    clear hb'
    go_simp
    first | done | with_reducible rfl
  simp only [List.setIfInBounds_toArray, List.set_cons_zero, List.set_cons_succ]
  apply plan_take rfl rfl (by rfl)
  case hy =>
    rintro W' hb'
    have ca : W'.cell? ⟨X, 0, none⟩ = some (.string (bs p1)) := hb'.2.1.cell (i := 0) rfl
    have cb : W'.cell? ⟨X, 1, none⟩ = some (.string (bs p2)) := hb'.2.1.cell (i := 1) rfl
    have cc : W'.cell? ⟨X + 1, 0, none⟩ = some (.string (bs q1)) := hb'.2.2.cell (i := 0) rfl
    have cd : W'.cell? ⟨X + 1, 1, none⟩ = some (.string (bs q2)) := hb'.2.2.cell (i := 1) rfl
    clear hb'
    go_simp
    first | done | with_reducible rfl
  simp only [List.setIfInBounds_toArray, List.set_cons_zero, List.set_cons_succ]
  apply plan_take rfl rfl (by rfl)
  case hy =>
    rintro W' hb'
    clear hb'
    go_simp
    first | done | with_reducible rfl
  simp only [List.setIfInBounds_toArray, List.set_cons_zero, List.set_cons_succ]
  apply plan_take rfl rfl (by rfl)
  case hy =>
    rintro W' hb'
    have ca : W'.cell? ⟨X, 0, none⟩ = some (.string (bs p1)) := hb'.2.1.cell (i := 0) rfl
    have cb : W'.cell? ⟨X, 1, none⟩ = some (.string (bs p2)) := hb'.2.1.cell (i := 1) rfl
    have cc : W'.cell? ⟨X + 1, 0, none⟩ = some (.string (bs q1)) := hb'.2.2.cell (i := 0) rfl
    have cd : W'.cell? ⟨X + 1, 1, none⟩ = some (.string (bs q2)) := hb'.2.2.cell (i := 1) rfl
    clear hb'
    go_simp
    first | done | with_reducible rfl
  simp only [List.setIfInBounds_toArray, List.set_cons_zero, List.set_cons_succ]
  apply plan_take rfl rfl (by rfl)
  case hy =>
    rintro W' hb'
    clear hb'
    go_simp
    first | done | with_reducible rfl
  simp only [List.setIfInBounds_toArray, List.set_cons_zero, List.set_cons_succ]
  apply plan_take rfl rfl (by rfl)
  case hy =>
    rintro W' hb'
    have ca : W'.cell? ⟨X, 0, none⟩ = some (.string (bs p1)) := hb'.2.1.cell (i := 0) rfl
    have cb : W'.cell? ⟨X, 1, none⟩ = some (.string (bs p2)) := hb'.2.1.cell (i := 1) rfl
    have cc : W'.cell? ⟨X + 1, 0, none⟩ = some (.string (bs q1)) := hb'.2.2.cell (i := 0) rfl
    have cd : W'.cell? ⟨X + 1, 1, none⟩ = some (.string (bs q2)) := hb'.2.2.cell (i := 1) rfl
    clear hb'
    go_simp
    first | done | with_reducible rfl
  simp only [List.setIfInBounds_toArray, List.set_cons_zero, List.set_cons_succ]
  apply plan_take rfl rfl (by rfl)
  case hy =>
    rintro W' hb'
    clear hb'
    go_simp
    first | done | with_reducible rfl
  simp only [List.setIfInBounds_toArray, List.set_cons_zero, List.set_cons_succ]
  apply plan_take rfl rfl (by rfl)
  case hy =>
    rintro W' hb'
    have ca : W'.cell? ⟨X, 0, none⟩ = some (.string (bs p1)) := hb'.2.1.cell (i := 0) rfl
    have cb : W'.cell? ⟨X, 1, none⟩ = some (.string (bs p2)) := hb'.2.1.cell (i := 1) rfl
    have cc : W'.cell? ⟨X + 1, 0, none⟩ = some (.string (bs q1)) := hb'.2.2.cell (i := 0) rfl
    have cd : W'.cell? ⟨X + 1, 1, none⟩ = some (.string (bs q2)) := hb'.2.2.cell (i := 1) rfl
    clear hb'
    go_simp
    first | done | with_reducible rfl
  simp only [List.setIfInBounds_toArray, List.set_cons_zero, List.set_cons_succ]
  refine plan_one rfl ?_
  gi_wp2_with (fail)
  refine ⟨trivial, (callsIn_wide.2 (HC.out _)).mono ?_⟩
  rintro e W1 ⟨rfl, l5⟩
  have HL1 := Lib.hid (HL.out.drew.trans l5)
  have M1 := Lib.hid (K1.out.lw ((Lw.refl _).drew.trans l5))
  have M2 := Lib.hid (K2.out.lw ((Lw.refl _).drew.trans l5))
  clear l5
  gi_wp2_with (fail)
  refine ⟨⟨HL1.out, M1.out, M2.out⟩, ?_⟩
  refine plan_one rfl ?_
  gi_wp2_with (fail)
  refine ⟨trivial, (callsIn_wide.2 (HS.out _)).mono ?_⟩
  rintro e W2 ⟨rfl, rfl⟩
  gi_wp2_with (fail)
  refine ⟨⟨HL1.out, M1.out, M2.out⟩, ?_⟩
  refine plan_one rfl ?_
  gi_wp2_with (fail)
  refine ⟨⟨HL1.out.alloc _, M1.out.allocK _, M2.out.allocK _⟩, ?_⟩
  have HO := Lib.hid (orC W1.heap.size r1 r2 R HU (W1.alloc (.cells #[.int .i64 r1, .int .i64 r2] 3)) ((BlkK.new W1 _ _).cell (i := 0) rfl) ((BlkK.new W1 _ _).cell (i := 1) rfl))
  refine plan_one rfl ?_
  gi_wp2_with (fail)
  refine ⟨trivial, (callsIn_wide.2 HO.out).mono ?_⟩
  rintro e W3 ⟨rfl, rfl⟩
  gi_wp2_with (fail)
  refine ⟨⟨HL1.out.alloc _, M1.out.allocK _, M2.out.allocK _⟩, ?_⟩
  apply plan_take rfl rfl (by rfl)
  case hy =>
    rintro W' hb'
    clear hb'
    go_simp
    first | done | with_reducible rfl
  simp only [List.setIfInBounds_toArray, List.set_cons_zero, List.set_cons_succ]
  refine plan_fin ?_
  gi_wp2_with (fail)
  go_wp2_with (fail)
  go_ret
  exact ⟨rfl, HL1.out.alloc _⟩
set_option maxRecDepth 100000 in
set_option maxHeartbeats 4000000 in
theorem orderR (p q : Str × Str) (l1 l2 : Value) (w : World) (hp : p.1.length ≤ 65536) (hq : q.1.length ≤ 65536) :
    Calls Tryz.prog 155 #[.agg (postV p l1), .agg (postV q l2)] w fun e w' => e = .returned (.int .i64 (headM mkB p q)) ∧ Below w.heap.size w w' := by
  obtain ⟨p1, p2⟩ := p
  obtain ⟨q1, q2⟩ := q
  simp only at hp hq
  have HC := Lib.hid (fun W => compareR p1 q1 W hp hq)
  have HU := Lib.hid (show headM mkB (p1, p2) (q1, q2) = if dictM mkB p1 q1 = 0 then (if ltS p2 q2 then -1 else if ltS q2 p2 then 1 else 0) else dictM mkB p1 q1 from rfl)
  obtain ⟨R, hR⟩ : ∃ R, headM mkB (p1, p2) (q1, q2) = R := ⟨_, rfl⟩
  rw [hR] at HU ⊢
  obtain ⟨r1, h1⟩ : ∃ r, dictM mkB p1 q1 = r := ⟨_, rfl⟩
  rw [h1] at HU HC
  clear hR h1 hp hq
  obtain ⟨X, hX⟩ : ∃ X, w.heap.size = X := ⟨_, rfl⟩
  have K1 := Lib.hid (show BlkK ((w.alloc (.cells #[.string (bs p1), .string (bs p2), l1] 37)).alloc (.cells #[.string (bs q1), .string (bs q2), l2] 37)) X #[.string (bs p1), .string (bs p2), l1] 37 by rw [← hX]; exact (BlkK.new w _ _).allocK _)
  have K2 := Lib.hid (show BlkK ((w.alloc (.cells #[.string (bs p1), .string (bs p2), l1] 37)).alloc (.cells #[.string (bs q1), .string (bs q2), l2] 37)) (X + 1) #[.string (bs q1), .string (bs q2), l2] 37 by
    have := BlkK.new (w.alloc (.cells #[.string (bs p1), .string (bs p2), l1] 37)) #[.string (bs q1), .string (bs q2), l2] 37
    rw [show (w.alloc (.cells #[.string (bs p1), .string (bs p2), l1] 37)).heap.size = X + 1 by rw [← hX]; simp] at this
    exact this)
  have HL := Lib.hid (((Lw.refl w).alloc (.cells #[.string (bs p1), .string (bs p2), l1] 37)).alloc (.cells #[.string (bs q1), .string (bs q2), l2] 37)).below
  obtain ⟨W0, hW0⟩ : ∃ W, (w.alloc (.cells #[.string (bs p1), .string (bs p2), l1] 37)).alloc (.cells #[.string (bs q1), .string (bs q2), l2] 37) = W := ⟨_, rfl⟩
  rw [hW0] at K1 K2 HL
  unfold postV
  have ca := K1.out.cell (i := 0) (u := .string (bs p1)) rfl
  have cc := K2.out.cell (i := 0) (u := .string (bs q1)) rfl
  have hab : (ltS q2 p2 = true → (p2 == q2) = false) ∧ (ltS p2 q2 = false → ltS q2 p2 = false → (p2 == q2) = true) := ⟨fun h => (by rw [beq_eq_false_iff_ne]; rintro rfl; rw [ltS_irr] at h; exact Bool.noConfusion h), fun h1 h => (by rw [ltS_tri h1 h]; simp)⟩
  by_cases z : r1 = 0
  · have Z := Lib.hid z
    have e1 : (r1 != 0) = false := by simp [z]
    clear z
    cases b1 : ltS p2 q2
    · cases b2 : ltS q2 p2
      · have HX := Lib.hid (show (0 : Int) = R by rw [HU.out, if_pos Z.out, if_neg (by rw [b1]; simp), if_neg (by rw [b2]; simp)])
        have b3 := hab.2 b1 b2
        clear hab b2
        go_enter Tryz.func155, Tryz.ntmps155
        go_wp2_with (fail)
        refine (HC.out _).mono ?_
        rintro e W1 ⟨rfl, hb⟩
        have cb := (K1.out.below hb).cell (i := 1) (u := .string (bs p2)) rfl
        have cd := (K2.out.below hb).cell (i := 1) (u := .string (bs q2)) rfl
        have HB := Lib.hid (bstep HL.out hb)
        clear hb
        go_wp2_with (fail)
        go_ret
        exact ⟨ret_i HX.out, HB.out⟩
      · have HX := Lib.hid (show (1 : Int) = R by rw [HU.out, if_pos Z.out, if_neg (by rw [b1]; simp), if_pos b2])
        have b3 := hab.1 b2
        clear hab b2
        go_enter Tryz.func155, Tryz.ntmps155
        go_wp2_with (fail)
        refine (HC.out _).mono ?_
        rintro e W1 ⟨rfl, hb⟩
        have cb := (K1.out.below hb).cell (i := 1) (u := .string (bs p2)) rfl
        have cd := (K2.out.below hb).cell (i := 1) (u := .string (bs q2)) rfl
        have HB := Lib.hid (bstep HL.out hb)
        clear hb
        go_wp2_with (fail)
        go_ret
        exact ⟨ret_i HX.out, HB.out⟩
    · have HX := Lib.hid (show (-1 : Int) = R by rw [HU.out, if_pos Z.out, if_pos b1])
      clear hab
      go_enter Tryz.func155, Tryz.ntmps155
      go_wp2_with (fail)
      refine (HC.out _).mono ?_
      rintro e W1 ⟨rfl, hb⟩
      have cb := (K1.out.below hb).cell (i := 1) (u := .string (bs p2)) rfl
      have cd := (K2.out.below hb).cell (i := 1) (u := .string (bs q2)) rfl
      have HB := Lib.hid (bstep HL.out hb)
      clear hb
      go_wp2_with (fail)
      go_ret
      exact ⟨ret_i HX.out, HB.out⟩
  · have Z := Lib.hid z
    have e1 : (r1 != 0) = true := by simpa using z
    have HX := Lib.hid (show r1 = R by rw [HU.out, if_neg Z.out])
    clear z hab
    go_enter Tryz.func155, Tryz.ntmps155
    go_wp2_with (fail)
    refine (HC.out _).mono ?_
    rintro e W1 ⟨rfl, hb⟩
    have cb := (K1.out.below hb).cell (i := 1) (u := .string (bs p2)) rfl
    have cd := (K2.out.below hb).cell (i := 1) (u := .string (bs q2)) rfl
    have HB := Lib.hid (bstep HL.out hb)
    clear hb
    go_wp2_with (fail)
    go_ret
    exact ⟨ret_i HX.out, HB.out⟩
end Go.Proofs.YtngdmpkoedpgdaaGreatDoor
