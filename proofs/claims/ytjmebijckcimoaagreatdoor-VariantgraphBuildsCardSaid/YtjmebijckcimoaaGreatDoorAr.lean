import Derived.Test.YtjmebijckcimoaaGreatDoorMk
import Derived.Test.YtjmebijckcimoaaGreatDoorVgk
import Derived.Test.YtjmebijckcimoaaGreatDoorShelf
import Derived.Shelf.SlSortCmp.WholeK
import Derived.Shelf.SlSortCmp.NoneTotal
import Derived.Test.YtjmebijckcimoaaGreatDoorUa


namespace Go.Proofs.YtjmebijckcimoaaGreatDoor
open Go.RowKit Go.Ap Go.Shelf Go.Proofs Go.Maps
theorem keyedEn : Keyed Tryz.prog 75 := Keyed.of_law (deep_law_laid (by kernel_rfl) (m := 2) (by omega) (of_decide_eq_true (by kernel_rfl)) (by kernel_rfl) (by kernel_rfl))
def kvEn (p : Int × Int) : Value := .agg #[.int .i64 p.1, .int .i64 p.2]
theorem keyEn {p : Int × Int} (h1 : I64 p.1) (h2 : I64 p.2) : ∃ x, keyOf Tryz.prog 75 (kvEn p) = some (.string x) := by
  obtain ⟨m, hm⟩ := sizeHd
  have hkt : Tryz.prog.keyType 75 = true := by kernel_rfl
  have hcs : Tryz.prog.cellsOf 75 = 2 := by kernel_rfl
  have hc3 : Tryz.prog.cellsOf 3 = 1 := by kernel_rfl
  have hw1 := wf_i64 h1
  have hw2 := wf_i64 h2
  refine ⟨keyBytes [.int .i64 p.1, .int .i64 p.2], ?_⟩
  unfold keyOf kvEn
  simp only [Tryz.underlying75]
  rw [if_pos (by simp [hkt, Value.formed, Tryz.underlying75, hcs]), hm]
  unfold Program.keyLits
  simp only [Tryz.underlying75, Value.cells]
  rw [if_pos (by simp [hcs])]
  simp [hc3, Program.keyLits, Tryz.underlying3, hw1, hw2]
set_option maxRecDepth 100000 in
theorem keyInvEn {v : Value} {l : Lit} (h : keyOf Tryz.prog 75 v = some l) : ∃ p : Int × Int, (I64 p.1 ∧ I64 p.2) ∧ v = kvEn p := by
  obtain ⟨m, hm⟩ := sizeHd
  have hcs : Tryz.prog.cellsOf 75 = 2 := by kernel_rfl
  have hc3 : Tryz.prog.cellsOf 3 = 1 := by kernel_rfl
  unfold keyOf at h
  simp only [Tryz.underlying75] at h
  split at h
  · rename_i hf
    rw [Bool.and_eq_true] at hf
    obtain ⟨_, hf⟩ := hf
    cases v with
    | agg cs =>
      obtain ⟨cl⟩ := cs
      simp [Value.formed, Tryz.underlying75, hcs] at hf
      match cl, hf with
      | [c0, c1], _ =>
        rw [hm] at h
        unfold Program.keyLits at h
        simp [Tryz.underlying75, hc3, hcs, Value.cells] at h
        rw [Option.bind_eq_some_iff] at h
        obtain ⟨l0, h0, h⟩ := h
        simp only [Function.comp] at h
        cases h1 : Tryz.prog.keyLits (m + 1) 3 [c1] with
        | none => rw [h1] at h; simp at h
        | some l1 =>
          obtain ⟨z0, rfl, g0⟩ := intLits h0
          obtain ⟨z1, rfl, g1⟩ := intLits h1
          exact ⟨(z0, z1), ⟨g0, g1⟩, rfl⟩
    | _ => simp [Value.formed, Tryz.underlying75] at hf
  · cases h
def tEn : MapV Tryz.prog 73 75 44 (Int × Int) where
  kv := kvEn
  fit p := I64 p.1 ∧ I64 p.2
  keyed := keyedEn
  und := Tryz.underlying73
  key h := keyEn h.1 h.2
  keyI h := keyInvEn h
  kinj {s s'} h := by
    unfold kvEn at h
    simp only [Value.agg.injEq, Array.mk.injEq, List.cons.injEq, Value.int.injEq, and_true, true_and] at h
    exact Prod.ext h.1 h.2
  zero := .slice none 0 0
  zeroV w := Tryz.zeroValue44 w
theorem keyedNd : Keyed Tryz.prog 71 := Keyed.of_law (deep_law_laid (by kernel_rfl) (m := 2) (by omega) (of_decide_eq_true (by kernel_rfl)) (by kernel_rfl) (by kernel_rfl))
def kvNd (p : Int × Str) : Value := .agg #[.int .i64 p.1, .string (bs p.2)]
theorem keyNd {p : Int × Str} (h1 : I64 p.1) (h2 : p.2.length ≤ maxLen) : ∃ x, keyOf Tryz.prog 71 (kvNd p) = some (.string x) := by
  obtain ⟨m, hm⟩ := sizeHd
  have hkt : Tryz.prog.keyType 71 = true := by kernel_rfl
  have hcs : Tryz.prog.cellsOf 71 = 2 := by kernel_rfl
  have hc9 : Tryz.prog.cellsOf 9 = 1 := by kernel_rfl
  have hc3 : Tryz.prog.cellsOf 3 = 1 := by kernel_rfl
  have hw1 := wf_i64 h1
  have hb2 : (bs p.2).size ≤ maxLen := by rw [bs_size]; exact h2
  refine ⟨keyBytes [.int .i64 p.1, .string (bs p.2).data.toList], ?_⟩
  unfold keyOf kvNd
  simp only [Tryz.underlying71]
  rw [if_pos (by simp [hkt, Value.formed, Tryz.underlying71, hcs]), hm]
  unfold Program.keyLits
  simp only [Tryz.underlying71, Value.cells]
  rw [if_pos (by simp [hcs])]
  simp [hc3, hc9, Program.keyLits, Tryz.underlying3, Tryz.underlying9, hw1, hb2]
set_option maxRecDepth 100000 in
theorem keyInvNd {v : Value} {l : Lit} (h : keyOf Tryz.prog 71 v = some l) : ∃ p : Int × Str, (I64 p.1 ∧ p.2.length ≤ maxLen) ∧ v = kvNd p := by
  obtain ⟨m, hm⟩ := sizeHd
  have hcs : Tryz.prog.cellsOf 71 = 2 := by kernel_rfl
  have hc9 : Tryz.prog.cellsOf 9 = 1 := by kernel_rfl
  have hc3 : Tryz.prog.cellsOf 3 = 1 := by kernel_rfl
  unfold keyOf at h
  simp only [Tryz.underlying71] at h
  split at h
  · rename_i hf
    rw [Bool.and_eq_true] at hf
    obtain ⟨_, hf⟩ := hf
    cases v with
    | agg cs =>
      obtain ⟨cl⟩ := cs
      simp [Value.formed, Tryz.underlying71, hcs] at hf
      match cl, hf with
      | [c0, c1], _ =>
        rw [hm] at h
        unfold Program.keyLits at h
        simp [Tryz.underlying71, hc9, hc3, hcs, Value.cells] at h
        rw [Option.bind_eq_some_iff] at h
        obtain ⟨l0, h0, h⟩ := h
        simp only [Function.comp] at h
        cases h1 : Tryz.prog.keyLits (m + 1) 9 [c1] with
        | none => rw [h1] at h; simp at h
        | some l1 =>
          obtain ⟨z0, rfl, g0⟩ := intLits h0
          obtain ⟨s1, rfl, g1⟩ := strLits h1
          refine ⟨(z0, s1.data.toList), ⟨g0, by simpa using g1⟩, ?_⟩
          unfold kvNd
          simp [bs]
    | _ => simp [Value.formed, Tryz.underlying71] at hf
  · cases h
def tNd : MapV Tryz.prog 69 71 3 (Int × Str) where
  kv := kvNd
  fit p := I64 p.1 ∧ p.2.length ≤ maxLen
  keyed := keyedNd
  und := Tryz.underlying69
  key h := keyNd h.1 h.2
  keyI h := keyInvNd h
  kinj {s s'} h := by
    unfold kvNd at h
    simp only [Value.agg.injEq, Array.mk.injEq, List.cons.injEq, Value.string.injEq, Value.int.injEq, and_true, true_and] at h
    exact Prod.ext h.1 (Go.Proofs.YtjmebijckcimoaaGreatDoor.bs_inj h.2)
  zero := .int .i64 0
  zeroV w := Tryz.zeroValue3 w
end Go.Proofs.YtjmebijckcimoaaGreatDoor



namespace Go.Proofs.YtjmebijckcimoaaGreatDoor
open Go.RowKit Go.Ap Go.Shelf Go.Proofs

attribute [local go_sem] Oper.semAt_some bs_toList empty_toList bs_size bs_extract

set_option maxRecDepth 100000 in
set_option maxHeartbeats 2000000 in
theorem orC (b : Nat) (r1 r2 R : Int) (HR : Hid (R = if r1 = 0 then r2 else r1)) (w : World) (c1 : w.cell? ⟨b, 0, none⟩ = some (.int .i64 r1)) (c2 : w.cell? ⟨b, 1, none⟩ = some (.int .i64 r2)) :
    Calls Tryz.prog 75 #[.slice (some ⟨b, 0, none⟩) 2 2] w fun e w' => e = .returned (.int .i64 R) ∧ w = w' := by
  go_enter Tryz.func75, Tryz.ntmps75
  go_wp2_with (fail)
  go_loopw [8] (fun kv wr => ∃ k : Nat, k ≤ 2 ∧ kv = .int .i64 k ∧ w = wr ∧ (1 ≤ k → r1 = 0) ∧ (2 ≤ k → r2 = 0)) (fun kv _ => 2 - (intOf kv).toNat)
  case atStart => exact ⟨0, Nat.zero_le _, rfl, rfl, by omega, by omega⟩
  case round =>
    obtain ⟨k, hk, rfl, rfl, g1, g2⟩ := hrel
    have G1 := Lib.hid g1
    obtain rfl | rfl | rfl : k = 0 ∨ k = 1 ∨ k = 2 := by omega
    · clear g1 g2
      by_cases q1 : r1 = 0
      · have Q1 := Lib.hid q1
        have e1 : (r1 != 0) = false := by simp [q1]
        clear q1
        go_wp2_with (fail)
        exact ⟨⟨1, by omega, by simp, trivial, fun _ => Q1.out, by omega⟩, by simp [intOf]⟩
      · have Q1 := Lib.hid q1
        have e1 : (r1 != 0) = true := by simpa using q1
        clear q1
        go_wp2_with (fail)
        go_ret
        exact ⟨ret_i (by rw [HR.out, if_neg Q1.out]), rfl⟩
    · clear g1 g2
      by_cases q1 : r2 = 0
      · have Q1 := Lib.hid q1
        have e1 : (r2 != 0) = false := by simp [q1]
        clear q1
        go_wp2_with (fail)
        exact ⟨⟨2, by omega, by simp, trivial, fun _ => G1.out (by omega), fun _ => Q1.out⟩, by simp [intOf]⟩
      · have Q1 := Lib.hid q1
        have e1 : (r2 != 0) = true := by simpa using q1
        clear q1
        go_wp2_with (fail)
        go_ret
        exact ⟨ret_i (by rw [HR.out, if_pos (G1.out (by omega))]), rfl⟩
    · have HZ := Lib.hid (show (0 : Int) = R by rw [HR.out, if_pos (g1 (by omega)), g2 (by omega)])
      clear g1 g2
      go_wp2_with (fail)
      go_ret
      exact ⟨ret_i HZ.out, rfl⟩
theorem cmpInt (a b : Int) (w : World) : Calls Tryz.prog 76 #[.int .i64 a, .int .i64 b] w fun e w' => e = .returned (.int .i64 (Vg.cI a b)) ∧ w = w' := by
  refine (Tryz.cmp_Compare_int a b w).mono fun e w' ⟨h1, h2⟩ => ⟨?_, h2.symm⟩
  rw [h1]
  refine ret_i ?_
  unfold Lib.compareInt Vg.cI
  repeat' split
  all_goals first | rfl | (exfalso; omega)
set_option maxRecDepth 100000 in
set_option maxHeartbeats 4000000 in
theorem orderA (p q : Vg.En) (l1 l2 : Value) (w : World) :
    Calls Tryz.prog 50 #[.agg #[.int .i64 p.1, .int .i64 p.2, l1], .agg #[.int .i64 q.1, .int .i64 q.2, l2]] w fun e w' => e = .returned (.int .i64 (Vg.cE p q)) ∧ Lw w w' := by
  obtain ⟨p1, p2⟩ := p
  obtain ⟨q1, q2⟩ := q
  have HC := Lib.hid (fun W => cmpInt p1 q1 W)
  have HS := Lib.hid (fun W => cmpInt p2 q2 W)
  have HU := Lib.hid (show Vg.cE (p1, p2) (q1, q2) = if Vg.cI p1 q1 = 0 then Vg.cI p2 q2 else Vg.cI p1 q1 from rfl)
  obtain ⟨R, hR⟩ : ∃ R, Vg.cE (p1, p2) (q1, q2) = R := ⟨_, rfl⟩
  rw [hR] at HU ⊢
  obtain ⟨r1, h1⟩ : ∃ r, Vg.cI p1 q1 = r := ⟨_, rfl⟩
  obtain ⟨r2, h2⟩ : ∃ r, Vg.cI p2 q2 = r := ⟨_, rfl⟩
  rw [h1] at HU HC
  rw [h2] at HU HS
  clear hR h1 h2
  obtain ⟨X, hX⟩ : ∃ X, w.heap.size = X := ⟨_, rfl⟩
  have K1 := Lib.hid (show BlkK ((w.alloc (.cells #[.int .i64 p1, .int .i64 p2, l1] 48)).alloc (.cells #[.int .i64 q1, .int .i64 q2, l2] 48)) X #[.int .i64 p1, .int .i64 p2, l1] 48 by rw [← hX]; exact (BlkK.new w _ _).allocK _)
  have K2 := Lib.hid (show BlkK ((w.alloc (.cells #[.int .i64 p1, .int .i64 p2, l1] 48)).alloc (.cells #[.int .i64 q1, .int .i64 q2, l2] 48)) (X + 1) #[.int .i64 q1, .int .i64 q2, l2] 48 by
    have := BlkK.new (w.alloc (.cells #[.int .i64 p1, .int .i64 p2, l1] 48)) #[.int .i64 q1, .int .i64 q2, l2] 48
    rw [show (w.alloc (.cells #[.int .i64 p1, .int .i64 p2, l1] 48)).heap.size = X + 1 by rw [← hX]; simp] at this
    exact this)
  have HL := Lib.hid (((Lw.refl w).alloc (.cells #[.int .i64 p1, .int .i64 p2, l1] 48)).alloc (.cells #[.int .i64 q1, .int .i64 q2, l2] 48))
  obtain ⟨W0, hW0⟩ : ∃ W, (w.alloc (.cells #[.int .i64 p1, .int .i64 p2, l1] 48)).alloc (.cells #[.int .i64 q1, .int .i64 q2, l2] 48) = W := ⟨_, rfl⟩
  rw [hW0] at K1 K2 HL
  go_enter Tryz.func50, Tryz.ntmps50
  go_wp2_with (fail)
  refine (wpIn_wide (n := 20)).1 ?_
  refine wpIn_region_planN (fun W' => Lw w W' ∧ BlkK W' X #[.int .i64 p1, .int .i64 p2, l1] 48 ∧ BlkK W' (X + 1) #[.int .i64 q1, .int .i64 q2, l2] 48) (.take 0 <| .take 1 <| .take 2 <| .take 3 <| .take 5 <| .take 6 <| .take 7 <| .take 8 <| .one 4 <| .one 9 <| .one 10 <| .one 11 <| .take 12 <| .fin) (fun _ => trivial) (by kernel_rfl) (by kernel_rfl) (show Lw w W0.drew ∧ _ ∧ _ from ⟨HL.out.drew, K1.out.lw (Lw.refl _).drew, K2.out.lw (Lw.refl _).drew⟩) ?_
  apply plan_take rfl rfl (by rfl)
  case hy =>
    rintro W' hb'
    clear hb'
    go_simp
    first | done | with_reducible rfl
  simp only [List.setIfInBounds_toArray, List.set_cons_zero, List.set_cons_succ]
  apply plan_take rfl rfl (by rfl)
  case hy =>
    rintro W' hb'
    have ca : W'.cell? ⟨X, 0, none⟩ = some (.int .i64 p1) := hb'.2.1.cell (i := 0) rfl
    have cb : W'.cell? ⟨X, 1, none⟩ = some (.int .i64 p2) := hb'.2.1.cell (i := 1) rfl
    have cc : W'.cell? ⟨X + 1, 0, none⟩ = some (.int .i64 q1) := hb'.2.2.cell (i := 0) rfl
    have cd : W'.cell? ⟨X + 1, 1, none⟩ = some (.int .i64 q2) := hb'.2.2.cell (i := 1) rfl
    clear hb'
    go_simp
    first | done | with_reducible rfl
  simp only [List.setIfInBounds_toArray, List.set_cons_zero, List.set_cons_succ]
  apply plan_take rfl rfl (by rfl)
  case hy =>
    rintro W' hb'
    clear hb'
    go_simp
    first | done | with_reducible rfl
  simp only [List.setIfInBounds_toArray, List.set_cons_zero, List.set_cons_succ]
  apply plan_take rfl rfl (by rfl)
  case hy =>
    rintro W' hb'
    have ca : W'.cell? ⟨X, 0, none⟩ = some (.int .i64 p1) := hb'.2.1.cell (i := 0) rfl
    have cb : W'.cell? ⟨X, 1, none⟩ = some (.int .i64 p2) := hb'.2.1.cell (i := 1) rfl
    have cc : W'.cell? ⟨X + 1, 0, none⟩ = some (.int .i64 q1) := hb'.2.2.cell (i := 0) rfl
    have cd : W'.cell? ⟨X + 1, 1, none⟩ = some (.int .i64 q2) := hb'.2.2.cell (i := 1) rfl
    clear hb'
    go_simp
    first | done | with_reducible rfl
  simp only [List.setIfInBounds_toArray, List.set_cons_zero, List.set_cons_succ]
  apply plan_take rfl rfl (by rfl)
  case hy =>
    rintro W' hb'
    clear hb'
    go_simp
    first | done | with_reducible rfl
  simp only [List.setIfInBounds_toArray, List.set_cons_zero, List.set_cons_succ]
  apply plan_take rfl rfl (by rfl)
  case hy =>
    rintro W' hb'
    have ca : W'.cell? ⟨X, 0, none⟩ = some (.int .i64 p1) := hb'.2.1.cell (i := 0) rfl
    have cb : W'.cell? ⟨X, 1, none⟩ = some (.int .i64 p2) := hb'.2.1.cell (i := 1) rfl
    have cc : W'.cell? ⟨X + 1, 0, none⟩ = some (.int .i64 q1) := hb'.2.2.cell (i := 0) rfl
    have cd : W'.cell? ⟨X + 1, 1, none⟩ = some (.int .i64 q2) := hb'.2.2.cell (i := 1) rfl
    clear hb'
    go_simp
    first | done | with_reducible rfl
  simp only [List.setIfInBounds_toArray, List.set_cons_zero, List.set_cons_succ]
  apply plan_take rfl rfl (by rfl)
  case hy =>
    rintro W' hb'
    clear hb'
    go_simp
    first | done | with_reducible rfl
  simp only [List.setIfInBounds_toArray, List.set_cons_zero, List.set_cons_succ]
  apply plan_take rfl rfl (by rfl)
  case hy =>
    rintro W' hb'
    have ca : W'.cell? ⟨X, 0, none⟩ = some (.int .i64 p1) := hb'.2.1.cell (i := 0) rfl
    have cb : W'.cell? ⟨X, 1, none⟩ = some (.int .i64 p2) := hb'.2.1.cell (i := 1) rfl
    have cc : W'.cell? ⟨X + 1, 0, none⟩ = some (.int .i64 q1) := hb'.2.2.cell (i := 0) rfl
    have cd : W'.cell? ⟨X + 1, 1, none⟩ = some (.int .i64 q2) := hb'.2.2.cell (i := 1) rfl
    clear hb'
    go_simp
    first | done | with_reducible rfl
  simp only [List.setIfInBounds_toArray, List.set_cons_zero, List.set_cons_succ]
  refine plan_one rfl ?_
  gi_wp2_with (fail)
  refine ⟨trivial, (callsIn_wide.2 (HC.out _)).mono ?_⟩
  rintro e W1 ⟨rfl, rfl⟩
  have HL1 := Lib.hid HL.out.drew
  have M1 := Lib.hid (K1.out.lw (Lw.refl _).drew)
  have M2 := Lib.hid (K2.out.lw (Lw.refl _).drew)
  gi_wp2_with (fail)
  refine ⟨⟨HL1.out, M1.out, M2.out⟩, ?_⟩
  refine plan_one rfl ?_
  gi_wp2_with (fail)
  refine ⟨trivial, (callsIn_wide.2 (HS.out _)).mono ?_⟩
  rintro e W2 ⟨rfl, rfl⟩
  gi_wp2_with (fail)
  refine ⟨⟨HL1.out, M1.out, M2.out⟩, ?_⟩
  refine plan_one rfl ?_
  gi_wp2_with (fail)
  refine ⟨⟨HL1.out.alloc _, M1.out.allocK _, M2.out.allocK _⟩, ?_⟩
  have HO := Lib.hid (orC W0.heap.size r1 r2 R HU (W0.drew.alloc (.cells #[.int .i64 r1, .int .i64 r2] 3)) ((BlkK.new W0.drew _ _).cell (i := 0) rfl) ((BlkK.new W0.drew _ _).cell (i := 1) rfl))
  refine plan_one rfl ?_
  gi_wp2_with (fail)
  refine ⟨trivial, (callsIn_wide.2 HO.out).mono ?_⟩
  rintro e W3 ⟨rfl, rfl⟩
  gi_wp2_with (fail)
  refine ⟨⟨HL1.out.alloc _, M1.out.allocK _, M2.out.allocK _⟩, ?_⟩
  apply plan_take rfl rfl (by rfl)
  case hy =>
    rintro W' hb'
    clear hb'
    go_simp
    first | done | with_reducible rfl
  simp only [List.setIfInBounds_toArray, List.set_cons_zero, List.set_cons_succ]
  refine plan_fin ?_
  gi_wp2_with (fail)
  go_wp2_with (fail)
  go_ret
  exact ⟨rfl, HL1.out.alloc _⟩
end Go.Proofs.YtjmebijckcimoaaGreatDoor






namespace Go.Proofs.YtjmebijckcimoaaGreatDoor
open Go.RowKit Go.Ap Go.Shelf Go.Proofs Go.Sort
abbrev ArS := {p : EIt // I64 p.1.1 ∧ p.2.oneCell' = true}
instance : Inhabited ArS := ⟨⟨((0, 0), .bool false), (show I64 0 by unfold I64; omega), rfl⟩⟩
theorem swo_ends : SWO (ltOf fun p q : ArS => Vg.cE p.1.1 q.1.1) := by
  have hc := Vg.cmp_E
  have neg : ∀ {x y : Vg.En}, ¬Vg.cE x y < 0 → x = y ∨ Vg.cE y x < 0 := fun {x y} h => by
    by_cases h0 : Vg.cE x y = 0
    · exact .inl (hc.zero.1 h0)
    · exact .inr (hc.swap.2 (by omega))
  have lt : ∀ (x y : ArS), (ltOf fun p q : ArS => Vg.cE p.1.1 q.1.1) x y = decide (Vg.cE x.1.1 y.1.1 < 0) := fun _ _ => rfl
  refine ⟨fun x => ?_, fun x y z h1 h2 => ?_, fun x y z h1 h2 => ?_⟩
  · rw [lt, decide_eq_false_iff_not, hc.self]
    omega
  · rw [lt, decide_eq_true_eq] at *
    exact hc.trans h1 h2
  · rw [lt, decide_eq_false_iff_not] at *
    intro h3
    rcases neg h1 with e1 | e1
    · rw [e1] at h3
      exact h2 h3
    · rcases neg h2 with e2 | e2
      · rw [← e2] at h3
        exact h1 h3
      · have h4 := hc.trans e2 e1
        exact hc.asym h3 h4
/-- in order, heads apart: strictly in order -/
theorem sorted_heads {d d' : Array ArS} (hp : PermIn 0 d.size d d') (hs : SortedIn (ltOf fun p q : ArS => Vg.cE p.1.1 q.1.1) 0 d.size d') (hn : (d.toList.map fun p : ArS => p.1.1).Nodup) :
    d'.toList.Perm d.toList ∧ d'.toList.Pairwise fun p q => Vg.cE p.1.1 q.1.1 < 0 := by
  have hc := Vg.cmp_E
  obtain ⟨h1, _, h3⟩ := hp
  have hperm : d'.toList.Perm d.toList := by
    have e1 : d'.extract 0 d.size = d' := by rw [← h1]; exact Array.extract_size
    have e2 : d.extract 0 d.size = d := Array.extract_size
    rw [e1, e2] at h3
    exact h3
  refine ⟨hperm, ?_⟩
  have hn' : (d'.toList.map fun p : ArS => p.1.1).Nodup := (hperm.map _).nodup_iff.2 hn
  rw [List.pairwise_iff_getElem]
  intro i j hi hj hij
  have hi' : i < d'.size := by simpa using hi
  have hj' : j < d'.size := by simpa using hj
  have h4 := hs i j (Nat.zero_le _) hij (by omega)
  rw [getElem!_pos d' j hj', getElem!_pos d' i hi'] at h4
  have h5 : ¬Vg.cE d'[j].1.1 d'[i].1.1 < 0 := by simpa [ltOf] using h4
  have h6 := List.pairwise_iff_getElem.1 hn' i j (by simpa using hi') (by simpa using hj') hij
  simp only [List.getElem_map, Array.getElem_toList] at h6 ⊢
  refine hc.swap.2 ?_
  by_cases h0 : Vg.cE d'[j].1.1 d'[i].1.1 = 0
  · exact absurd (hc.zero.1 h0).symm h6
  · omega
end Go.Proofs.YtjmebijckcimoaaGreatDoor




namespace Go.Proofs.YtjmebijckcimoaaGreatDoor
open Go.RowKit Go.Ap Go.Shelf Go.Proofs Go.Sort
theorem eiC_get (p : EIt) {c : Nat} (hc : c < 3) : (eiC p)[c]? = some (eiC p)[c]! := by
  rw [List.getElem?_eq_getElem (by rw [eiC_len]; exact hc), getElem!_pos (eiC p) c (by rw [eiC_len]; exact hc)]
theorem holdsK_row {w : World} {base g cap n : Nat} {e : TypeId} {d : Array ArS} (h : w.ownsRow base e 3 (.slice (some ⟨g, 0, none⟩) n cap) n ((d.toList.map (·.1)).flatMap eiC)) (hn : d.size = n) : HoldsK (fun p : ArS => eiC p.1) 3 w g 0 d := by
  intro t ht
  rw [size_flatK] at ht
  rw [get_flatK _ _ _ _ ht, Nat.zero_add]
  have hk : t / 3 < d.size := by omega
  refine ⟨?_, h.frozenAt t⟩
  rw [h.cellAt t (by omega)]
  have h0 : (d.toList.map (·.1))[t / 3]? = some (d[t / 3]!).1 := by
    rw [List.getElem?_map, Array.getElem?_toList, Array.getElem?_eq_getElem hk, getElem!_pos d (t / 3) hk]
    rfl
  have h1 := flatAt (f := eiC) (m := 3) eiC_len h0 (eiC_get (d[t / 3]!).1 (c := t % 3) (by omega))
  rw [show t / 3 * 3 + t % 3 = t by omega] at h1
  exact h1
theorem grown_sortK {w : World} {gb m : Nat} {d : Array ArS} {os : Array Obj} : w.grownBy (sortWorldK (fun p : ArS => eiC p.1) 3 w gb 0 m d os) (some gb) := by
  unfold sortWorldK putRowK
  refine ⟨rfl, rfl, rfl, by simp, fun k hk hne => ?_⟩
  rw [heap_grow_old _ _ (by simpa using hk)]
  have : gb ≠ k := fun e => hne (by rw [e])
  simp [putRow, mapBlock, Sort.ahead, Array.getElem?_modify, this]
/-- a row of sorted items reads as postings -/
theorem arcs_row {W : World} {gb : Nat} {d : Array ArS} {L : Vg.En → List Int} (hH : HoldsK (fun p : ArS => eiC p.1) 3 W gb 0 d) (hn : d.size ≤ 4611686018427387903)
    (hp : ∀ p ∈ d.toList, I64 p.1.1.1 ∧ I64 p.1.1.2 ∧ ∃ a c, p.1.2 = .slice a (L p.1.1).length c ∧ Ints W a (L p.1.1).length (L p.1.1)) :
    Arcs W (some ⟨gb, 0, none⟩) d.size (d.toList.map fun p => (p.1.1, L p.1.1)) := by
  refine ⟨by simp, hn, fun k x hk => ⟨gb, 0, rfl, ?_⟩⟩
  rw [List.getElem?_map, Option.map_eq_some_iff] at hk
  obtain ⟨p, hpk, rfl⟩ := hk
  obtain ⟨h1, h2, a, c, h3, h4⟩ := hp p (List.mem_of_getElem? hpk)
  have hkd : k < d.size := by simpa using (List.getElem?_eq_some_iff.1 hpk).1
  have hpd : d[k]! = p := by
    rw [Array.getElem?_toList, Array.getElem?_eq_getElem hkd, Option.some.injEq] at hpk
    rw [getElem!_pos d k hkd, hpk]
  have c0 := (hH.cell hkd (c := 0) (by omega)).1
  have c1 := (hH.cell hkd (c := 1) (by omega)).1
  have c2 := (hH.cell hkd (c := 2) (by omega)).1
  rw [hpd] at c0 c1 c2
  refine ⟨a, c, c0, c1, ?_, h1, h2, h4⟩
  rw [← h3]
  exact c2
theorem compact_some {l : List Int} (h : l ≠ []) : Lib.compact (Go.Ap.sortI l) ≠ [] := by
  obtain ⟨x, hx⟩ := List.exists_mem_of_ne_nil l h
  intro he
  have := ((compact_asc (Go.Ap.sortI_asc l)).2 x).2 ((Go.Ap.sortI_perm l).mem_iff.2 hx)
  rw [he] at this
  cases this
/-- sorted items are the index -/
theorem idx_items {es : List ((Vg.En) × Int)} {g : Vg.En → List Int} {I : List EIt} (hpw : I.Pairwise fun p q => Vg.cE p.1 q.1 < 0) (hall : ∀ s, g s ≠ [] → s ∈ I.map (·.1)) (hne : ∀ p ∈ I, g p.1 ≠ []) (hes : ∀ h m, (h, m) ∈ es ↔ m ∈ g h) :
    I.map (fun p => ((p.1, Lib.compact (Go.Ap.sortI (g p.1))) : Vg.Arc)) = Vg.idxE es := by
  refine IsIdx.unique (Vg.cmp_E) (es := es) (es' := es) ⟨?_, ?_, ?_, ?_⟩ (Vg.idxE_is es) (fun _ => Iff.rfl)
  · exact List.pairwise_map.2 hpw
  · intro p hp
    obtain ⟨q, hq, rfl⟩ := List.mem_map.1 hp
    exact (compact_asc (Go.Ap.sortI_asc _)).1
  · intro p hp
    obtain ⟨q, hq, rfl⟩ := List.mem_map.1 hp
    exact compact_some (hne q hq)
  · intro h m
    rw [hes]
    constructor
    · intro hm
      obtain ⟨q, hq, rfl⟩ := List.mem_map.1 (hall h fun e => by rw [e] at hm; cases hm)
      exact ⟨_, List.mem_map.2 ⟨q, hq, rfl⟩, rfl, ((compact_asc (Go.Ap.sortI_asc _)).2 m).2 ((Go.Ap.sortI_perm _).mem_iff.2 hm)⟩
    · rintro ⟨p, hp, rfl, hm⟩
      obtain ⟨q, hq, rfl⟩ := List.mem_map.1 hp
      exact (Go.Ap.sortI_perm _).mem_iff.1 (((compact_asc (Go.Ap.sortI_asc _)).2 m).1 hm)
/-- an index of the call's own, handed on -/
def GivesAr (w' : World) (u : Value) (l : List Vg.Arc) : Prop := ∃ a c, u = .slice a l.length c ∧ Arcs w' a l.length l ∧ l.length ≤ c
theorem own_one {e : TypeId} {w : World} {base : Nat} {v : Value} {xs : List Int} (h : OwnI e w base v xs) : v.oneCell' = true := by
  rcases h.1.2 with ⟨rfl, h0⟩ | ⟨g, cap, cur, rfl, _, _, h1, h2, _, _⟩
  · rfl
  · rfl
theorem comp_len (l : List Int) : (Lib.compact (Go.Ap.sortI l)).length ≤ l.length := by
  have h1 : (Lib.compact (Go.Ap.sortI l)).length ≤ (Go.Ap.sortI l).length := by
    unfold Lib.compact Lib.compactUpTo
    rw [List.length_map]
    exact Nat.le_trans (List.length_filter_le _ _) (by simp)
  have h2 := (Go.Ap.sortI_perm l).length_eq
  omega
/-- an index of the call's own, handed on -/
theorem GivesAr.nil (w : World) : GivesAr w (.slice none 0 0) [] := ⟨none, 0, rfl, SlM.nil _ _, Nat.le_refl _⟩
/-- behind the loop of postings: what is to be sorted, and what the sort makes of it -/
theorem rnd_endA {P : Program} {tm k0 e0 : TypeId} {T : MapV P tm k0 e0 Vg.En} {pe : TypeId} {w W : World} {b r base n cnt : Nat} {f : Vg.En → Option Value} {g : Vg.En → List Int} {left : Vg.En → Bool} {ov : Value} {I : List EIt} {es : List ((Vg.En) × Int)}
    (R : RndA T pe 3 W b r base n f g left cnt ov I none) (hall : ∀ s, left s = false) (hf1 : ∀ s, f s = none → g s = []) (hf2 : ∀ s v, f s = some v → OwnI 3 w base v (g s) ∧ g s ≠ []) (hes : ∀ h m, (h, m) ∈ es ↔ m ∈ g h)
    (hel : ∀ x ∈ es, I64 x.1.1 ∧ I64 x.1.2) (hgn : ∀ s, (g s).length ≤ 1000000) (hIn : I.length ≤ 4096) :
    ov = .slice none 0 0 ∧ Vg.idxE es = [] ∨
    ∃ (gb cap k : Nat) (d : Array ArS), ov = .slice (some ⟨gb, 0, none⟩) k cap ∧ k = I.length ∧ d.size = k ∧ HoldsK (fun p : ArS => eiC p.1) 3 W gb 0 d ∧ gb < W.heap.size ∧
      ∀ d' m os, PermIn 0 d.size d d' → SortedIn (ltOf fun p q : ArS => Vg.cE p.1.1 q.1.1) 0 d.size d' →
        GivesAr (sortWorldK (fun p : ArS => eiC p.1) 3 W gb 0 m d' os) (.slice (some ⟨gb, 0, none⟩) k cap) (Vg.idxE es) ∧
        (Below base w W → base ≤ w.heap.size → Below base w (sortWorldK (fun p : ArS => eiC p.1) 3 W gb 0 m d' os)) := by
  have hin : ∀ s, g s ≠ [] → s ∈ I.map (·.1) := fun s hs => by
    rcases R.all s (fun e => hs (hf1 s e)) with h | h | h
    · rw [hall] at h; cases h
    · exact h
    · cases h
  have hne : ∀ p ∈ I, g p.1 ≠ [] := fun p hp => by
    obtain ⟨_, v, hv, _⟩ := R.done p hp
    exact (hf2 _ _ hv).2
  rcases R.row.2 with ⟨rfl, h0⟩ | ⟨gb, cap, cur, rfl, hbg, hgb, hc1, hc2, hc3, hc4⟩
  · have hI : I = [] := List.eq_nil_of_length_eq_zero h0
    subst hI
    exact .inl ⟨rfl, (idx_items (es := es) (g := g) .nil hin hne hes).symm⟩
  · refine .inr ?_
    have hfit : ∀ p ∈ I, I64 p.1.1 ∧ I64 p.1.2 := fun p hp => by
      obtain ⟨m, hm⟩ := List.exists_mem_of_ne_nil _ (hne p hp)
      exact hel _ ((hes p.1 m).2 hm)
    have hP : ∀ p ∈ I, I64 p.1.1 ∧ p.2.oneCell' = true := fun p hp => ⟨(hfit p hp).1, own_one (R.lines p hp)⟩
    obtain ⟨d, hd⟩ : ∃ d : Array ArS, d.toList.map (·.1) = I := ⟨(I.attachWith _ hP).toArray, by rw [List.toList_toArray]; exact List.attachWith_map_subtype_val hP⟩
    have hds : d.size = I.length := by rw [← hd]; simp
    have hgl : gb < W.heap.size := (Array.getElem?_eq_some_iff.1 hgb).1
    have hH : HoldsK (fun p : ArS => eiC p.1) 3 W gb 0 d := holdsK_row (by rw [hd]; exact R.row) hds
    refine ⟨gb, cap, I.length, d, rfl, rfl, hds, hH, hgl, fun d' m os hp hs => ?_⟩
    have hnd : (d.toList.map fun p : ArS => p.1.1).Nodup := by
      have := R.once
      rw [← hd, List.map_map] at this
      exact this
    obtain ⟨hperm, hpw⟩ := sorted_heads hp hs hnd
    have hds' : d'.size = d.size := by have := hperm.length_eq; simpa using this
    have hg := grown_sortK (w := W) (gb := gb) (m := m) (d := d') (os := os)
    have hH' := holdsK_sortWorldK_c (enc := fun p : ArS => eiC p.1) (k := 3) (w := W) (blk := gb) (off := 0) d d' m os hH hgl hds'
    have hmem : ∀ p ∈ d'.toList, p.1 ∈ I := fun p hp => by
      rw [← hd]
      exact List.mem_map.2 ⟨p, hperm.mem_iff.1 hp, rfl⟩
    have hPo := arcs_row (L := fun s => Lib.compact (Go.Ap.sortI (g s))) hH' (by omega) (fun p hp => by
      have hl := R.lines p.1 (hmem p hp)
      have hl' := hl.kept hg (own_type hl.1 R.row (Ne.symm R.types))
      obtain ⟨a, c, h1, h2⟩ := hl'.ints (by have a := comp_len (g p.1.1); have b := hgn p.1.1; omega)
      exact ⟨(hfit p.1 (hmem p hp)).1, (hfit p.1 (hmem p hp)).2, a, c, h1, h2⟩)
    have hidx : (d'.toList.map fun p => ((p.1.1, Lib.compact (Go.Ap.sortI (g p.1.1))) : Vg.Arc)) = Vg.idxE es := by
      have h1 : ∀ s, g s ≠ [] → s ∈ (d'.toList.map (·.1)).map (·.1) := fun s hs => by
        obtain ⟨p, hp, rfl⟩ := List.mem_map.1 (hin s hs)
        rw [← hd] at hp
        obtain ⟨q, hq, rfl⟩ := List.mem_map.1 hp
        exact List.mem_map.2 ⟨q.1, List.mem_map.2 ⟨q, hperm.mem_iff.2 hq, rfl⟩, rfl⟩
      have h2 : ∀ p ∈ d'.toList.map (·.1), g p.1 ≠ [] := fun p hp => by
        obtain ⟨q, hq, rfl⟩ := List.mem_map.1 hp
        exact hne _ (hmem q hq)
      have h0 : (d'.toList.map fun p : ArS => p.1).Pairwise fun p q : EIt => Vg.cE p.1 q.1 < 0 := by
        rw [List.pairwise_map]
        exact hpw
      have h3 := idx_items (es := es) (g := g) h0 h1 h2 hes
      rw [List.map_map] at h3
      exact h3
    have hlen : (Vg.idxE es).length = I.length := by rw [← hidx]; simp [hds', hds]
    rw [hidx, hds', hds] at hPo
    refine ⟨⟨_, cap, by rw [hlen], by rw [hlen]; exact hPo, by rw [hlen]; exact hc1⟩, fun hb hbs => hb.grown hg (by have := hb.size; omega) fun k hk => ?_⟩
    cases hk
    exact hbg
end Go.Proofs.YtjmebijckcimoaaGreatDoor




namespace Go.Proofs.YtjmebijckcimoaaGreatDoor
open Go.RowKit Go.Ap Go.Shelf Go.Proofs Go.Sort
theorem sortArcs (gb n cap : Nat) (d : Array ArS) (w : World) (hd : d.size = n) (hH : HoldsK (fun p : ArS => eiC p.1) 3 w gb 0 d) (hb : gb < w.heap.size) (hn : n ≤ 4096) :
    Calls Tryz.prog 71 #[.slice (some ⟨gb, 0, none⟩) n cap, .func (.func 50) #[] #[]] w fun e w' =>
      e = .returned (.tuple #[]) ∧ ∃ d' m os, PermIn 0 d.size d d' ∧ SortedIn (ltOf fun p q : ArS => Vg.cE p.1.1 q.1.1) 0 d.size d' ∧ w' = sortWorldK (fun p : ArS => eiC p.1) 3 w gb 0 m d' os := by
  subst hd
  exact AnyQ.slices_SortFunc Tryz.sortArc71 3 (fun w => Tryz.isAgg48 w) (fun w => Tryz.sizeOf48 w) (fun p : ArS => eiC p.1) (fun p => rfl) (fun p v hv => by
    simp only [eiC, List.mem_cons, List.not_mem_nil, or_false] at hv
    rcases hv with rfl | rfl | rfl
    · rfl
    · rfl
    · exact p.2.2) (fun p q => Vg.cE p.1.1 q.1.1) swo_ends 50 #[] gb 0 cap d w (enters_of Tryz.func50 (by kernel_rfl) rfl)
    (fun m os dk _ x y => by
      refine (orderA x.1.1 y.1.1 x.1.2 y.1.2 _).mono fun e w' ⟨h1, h2⟩ => ⟨h1, h2⟩) hH hb (by omega)
theorem sortArcs0 (a : Option Addr) (cap : Nat) (fv : Value) (w : World) : Calls Tryz.prog 71 #[.slice a 0 cap, fv] w fun e w' => e = .returned (.tuple #[]) ∧ w' = w :=
  AnyF.slices_SortFunc_none Tryz.sortArc71 a cap fv w
end Go.Proofs.YtjmebijckcimoaaGreatDoor
namespace Go.Proofs.YtjmebijckcimoaaGreatDoor
open Go.RowKit Go.Ap Go.Shelf Go.Proofs

attribute [local go_sem] Oper.semAt_some bs_toList empty_toList bs_size bs_extract

theorem infoArc : (Tryz.prog.info? 48).map (fun i => (i.zero, i.size, i.bytes)) = some (some (.agg #[.int .i64 0, .int .i64 0, .slice none 0 0]), 3, 40) := by kernel_rfl
set_option maxRecDepth 100000 in
set_option maxHeartbeats 8000000 in
theorem arcsP (b base n : Nat) (g : Vg.En → List Int) (w : World) (hG : Grp tEn 3 w b base n g) (hbase : base ≤ w.heap.size) (hn : n ≤ 4096) (hgl : ∀ s, (g s).length ≤ 1000000) (es : List ((Vg.En) × Int)) (hes : ∀ h m, (h, m) ∈ es ↔ m ∈ g h) (hel : ∀ x ∈ es, I64 x.1.1 ∧ I64 x.1.2) :
    Calls Tryz.prog 42 #[.map (some b)] w fun e w' => (∃ u, e = .returned u ∧ GivesAr w' u (Vg.idxE es)) ∧ Below base w w' := by
  obtain ⟨i0, hi, hz0, hz1, hz2⟩ := info_parts infoArc
  obtain ⟨f, hM, hF1, hF2, hF3⟩ := hG
  obtain ⟨W1, cnt0, hrg, hmw, hgr, hsz, hcn⟩ := hM.range
  replace hrg : (Instr.range 73 (.map (some b))).run Tryz.prog w = .ok (.pointer (some ⟨w.heap.size, 0, none⟩)) W1 := hrg
  have HGL := Lib.hid hgl
  have HF2 := Lib.hid hF2
  obtain ⟨r, hr⟩ : ∃ r, w.heap.size = r := ⟨_, rfl⟩
  rw [hr] at hrg hmw hsz
  have HR0 := Lib.hid (show RndA tEn 48 3 W1 b r base n f g (fun s => (f s).isSome) cnt0 (.slice none 0 0) [] none from
    { map := hmw, types := by decide, todo := fun s v _ hv => (hF2 s v hv).1.kept hgr (by cases h : v.ownBlock <;> simp), row := World.ownsRow_nil _ _ _ _, lines := fun p hp => absurd hp List.not_mem_nil, done := fun p hp => absurd hp List.not_mem_nil, once := by simp, all := fun s hs => .inl (Option.isSome_iff_ne_none.2 hs), now := fun _ h => absurd h (by simp), apart := hF3 })
  have HB0 := Lib.hid (show Below base w W1 from (Below.refl base w).grown hgr hbase fun k hk => by cases hk)
  have HRR := Lib.hid hr
  have HF1 := Lib.hid hF1
  have HES := Lib.hid hes
  have HEL := Lib.hid hel
  generalize hIX : Vg.idxE es = ix
  have HIX := Lib.hid hIX
  clear hM hF1 hF2 hF3 hmw hgr hr hgl hes hel
  go_enter Tryz.func42, Tryz.ntmps42
  go_wp2_with (fail)
  try rw [HRR.out]
  clear hrg
  go_loopw [3] (fun ov wr => ∃ (left : Vg.En → Bool) (cnt : Nat) (I : List EIt), RndA tEn 48 3 wr b r base n f g left cnt ov I none ∧ Below base w wr ∧ I.length + cnt ≤ n) (fun _ wr => wr.rangeLeft b r)
  case atStart => exact ⟨_, _, _, HR0.out, HB0.out, by simpa using hcn⟩
  case round =>
    obtain ⟨wi, rfl⟩ : ∃ wi : World, wi = wr := ⟨_, rfl⟩
    obtain ⟨left, cnt, I, hR, hb, hIc⟩ := hrel
    have HB := Lib.hid hb
    have HR := Lib.hid hR
    rcases hR.map.next 0 with ⟨_, hall, hrun⟩ | ⟨s, v, W2, cnt', hfit, hls, hfs, hrun, hm2, hlt, hg2, hs2, hen⟩
    · replace hrun : (Instr.next (.pointer (some ⟨r, 0, none⟩)) false 0).run Tryz.prog wi = .ok (.tuple #[.bool false]) wi := hrun
      have HALL := Lib.hid hall
      have HIC := Lib.hid hIc
      clear hall hIc
      rcases rnd_endA HR.out HALL.out HF1.out HF2.out HES.out HEL.out HGL.out (by have := HIC.out; omega) with ⟨rfl, hnil⟩ | ⟨gb, cap, k, d, rfl, hkI, hds, hH, hgl, hend⟩
      · have HS := Lib.hid (fun w => sortArcs0 none 0 (.func (.func 50) #[] #[]) w)
        rw [hIX] at hnil
        subst hnil
        clear hR hb
        go_wp2_with (fail)
        refine (HS.out _).mono ?_
        rintro e W9 ⟨rfl, rfl⟩
        go_wp2_with (fail)
        go_ret
        exact ⟨⟨_, rfl, GivesAr.nil _⟩, HB.out⟩
      · have HS := Lib.hid (sortArcs gb k cap d wi hds hH hgl (by have := HIC.out; omega))
        have HE := Lib.hid hend
        clear hR hb hkI hds hH hgl hend
        go_wp2_with (fail)
        refine HS.out.mono ?_
        rintro e W9 ⟨rfl, d', m, os, hp, hs, rfl⟩
        have HQ := Lib.hid (HE.out d' m os (by exact hp) (by exact hs))
        clear hp hs
        go_wp2_with (fail)
        go_ret
        exact ⟨⟨_, rfl, HIX.out ▸ HQ.out.1⟩, HQ.out.2 HB.out hbase⟩
    · replace hrun : (Instr.next (.pointer (some ⟨r, 0, none⟩)) false 0).run Tryz.prog wi = .ok (.tuple #[.bool true, .agg #[.int .i64 s.1, .int .i64 s.2], v]) W2 := hrun
      replace hen : (Instr.entry (.pointer (some ⟨r, 0, none⟩))).run Tryz.prog W2 = .ok (.tuple #[.agg #[.int .i64 s.1, .int .i64 s.2], v]) W2 := hen
      have hle := hR.map.left_eq
      have HN := Lib.hid (hR.next hls hm2 hg2)
      have hv0 := hR.todo s v hls hfs
      have HV2 := Lib.hid (show OwnI 3 W2 base v (g s) from hv0.kept hg2 (.inr fun he => hR.map.iter hv0.1 he.symm))
      have HNE := Lib.hid (HF2.out s v hfs).2
      have HB2 := Lib.hid (show Below base w W2 from hb.grown hg2 (by have := hb.size; omega) fun k hk => (by
        cases hk
        have := HRR.out
        omega))
      have HFS := Lib.hid hfs
      have HLT := Lib.hid hlt
      obtain ⟨X, hX⟩ : ∃ X, W2.heap.size = X := ⟨_, rfl⟩
      have HA := Lib.hid (balloc W2 (.cells #[.int .i64 s.1, .int .i64 s.2] 75))
      have K := Lib.hid (show BlkK (W2.alloc (.cells #[.int .i64 s.1, .int .i64 s.2] 75)) X #[.int .i64 s.1, .int .i64 s.2] 75 by rw [← hX]; exact BlkK.new W2 _ _)
      obtain ⟨WA, hWA⟩ : ∃ W, W2.alloc (.cells #[.int .i64 s.1, .int .i64 s.2] 75) = W := ⟨_, rfl⟩
      rw [hWA] at HA K
      have hva := HV2.out.below HA.out
      obtain ⟨a, c, rfl, hsort⟩ := sortG base v (g s) WA hva (HGL.out s) HNE.out
      have HVA := Lib.hid hva
      have HS := Lib.hid hsort
      clear hR hb hfit hls hm2 hg2 hs2 hv0 hfs hlt hva hsort
      go_wp2_with (fail)
      refine HS.out.mono ?_
      rintro e W3 ⟨rfl, ho3, hg3⟩
      have R3 := Lib.hid ((HN.out.below HA.out).touch HFS.out HVA.out hg3)
      have K3 := Lib.hid (K.out.keptE hg3 (K.out.apart HVA.out.1 (by decide)))
      have HO3 := Lib.hid ho3
      have hp := Go.Ap.sortI_perm (g s)
      obtain ⟨a', c', he, hcomp⟩ := compG base _ (Go.Ap.sortI (g s)) W3.drew (ho3.below (bdrewN W3 1)) (by rw [hp.length_eq]; exact HGL.out s) (fun h0 => HNE.out (List.eq_nil_of_length_eq_zero (by rw [← hp.length_eq, h0]; rfl))) (Go.Ap.sortI_asc _)
      rw [hp.length_eq] at he hcomp
      cases he
      have HC := Lib.hid hcomp
      have HB3 := Lib.hid (show Below base w W3 from (HB2.out.trans (HA.out.mono (by have := HB2.out.size; omega))).grown hg3 (by have h1 := HA.out.size; have h2 := HB2.out.size; omega) fun k hk => (HVA.out.1.lt k hk).1)
      clear ho3 hg3 hcomp hp
      go_wp2_with (fail)
      refine (wpIn_wide (n := 20)).1 ?_
      refine wpIn_region_planN (fun W' => BlkK W' X #[.int .i64 s.1, .int .i64 s.2] 75) (.take 0 <| .take 1 <| .take 2 <| .take 3 <| .take 4 <| .take 5 <| .one 6 <| .take 7 <| .one 8 <| .one 9 <| .take 10 <| .fin) (fun _ => trivial) (by kernel_rfl) (by kernel_rfl) (show BlkK _ X _ _ from K3.out.below (bdrewN _ 1)) ?_
      iterate 2
        apply plan_take rfl rfl (by rfl)
        case hy =>
          rintro W' hb'
          clear hb'
          go_simp
          first | done | with_reducible rfl
        simp only [List.setIfInBounds_toArray, List.set_cons_zero, List.set_cons_succ]
      apply plan_take rfl rfl (by rfl)
      case hy =>
        rintro W' hb'
        have x0 : W'.cell? ⟨X, 0, none⟩ = some (.int .i64 s.1) := hb'.cell (i := 0) rfl
        clear hb'
        go_simp
        first | done | with_reducible rfl
      simp only [List.setIfInBounds_toArray, List.set_cons_zero, List.set_cons_succ]
      apply plan_take rfl rfl (by rfl)
      case hy =>
        rintro W' hb'
        clear hb'
        go_simp
        first | done | with_reducible rfl
      simp only [List.setIfInBounds_toArray, List.set_cons_zero, List.set_cons_succ]
      apply plan_take rfl rfl (by rfl)
      case hy =>
        rintro W' hb'
        have x1 : W'.cell? ⟨X, 1, none⟩ = some (.int .i64 s.2) := hb'.cell (i := 1) rfl
        clear hb'
        go_simp
        first | done | with_reducible rfl
      simp only [List.setIfInBounds_toArray, List.set_cons_zero, List.set_cons_succ]
      apply plan_take rfl rfl (by rfl)
      case hy =>
        rintro W' hb'
        clear hb'
        go_simp
        first | done | with_reducible rfl
      simp only [List.setIfInBounds_toArray, List.set_cons_zero, List.set_cons_succ]
      refine plan_one rfl ?_
      gi_wp2_with (fail)
      refine ⟨trivial, (callsIn_wide.2 HC.out).mono ?_⟩
      rintro e W4 ⟨u, rfl, ho4, hg4, hub⟩
      have R4 := Lib.hid ((R3.out.below (bdrewN W3 1)).touch HFS.out (HO3.out.below (bdrewN W3 1)) hg4)
      have K4 := Lib.hid ((K3.out.below (bdrewN W3 1)).keptE hg4 ((K3.out.below (bdrewN W3 1)).apart (HO3.out.below (bdrewN W3 1)).1 (by decide)))
      have HO4 := Lib.hid ho4
      have HUB := Lib.hid hub
      have HB4 := Lib.hid (show Below base w W4 from (HB3.out.trans ((bdrewN W3 1).mono (by have := HB3.out.size; omega))).grown hg4 (by have := HB3.out.size; show base ≤ W3.heap.size; omega) fun k hk => ((HO3.out.below (bdrewN W3 1)).1.lt k hk).1)
      have hsz4 : base ≤ W4.heap.size := by have := HB4.out.size; omega
      have hcl : (Lib.compact (Go.Ap.sortI (g s))).length ≤ 4611686018427387903 := by
        have h1 : (Lib.compact (Go.Ap.sortI (g s))).length ≤ (Go.Ap.sortI (g s)).length := by
          unfold Lib.compact Lib.compactUpTo
          rw [List.length_map]
          exact Nat.le_trans (List.length_filter_le _ _) (by simp)
        have h2 := (Go.Ap.sortI_perm (g s)).length_eq
        have h3 := HGL.out s
        omega
      obtain ⟨a5, k5, rfl, _⟩ := ho4.ints hcl
      obtain ⟨m5, hm5⟩ : ∃ m, (Lib.compact (Go.Ap.sortI (g s))).length = m := ⟨_, rfl⟩
      rw [hm5] at HUB HO4
      simp only [hm5]
      clear ho4 hg4 hub
      gi_wp2_with (fail)
      refine ⟨K4.out, ?_⟩
      apply plan_take rfl rfl (by rfl)
      case hy =>
        rintro W' hb'
        clear hb'
        go_simp
        first | done | with_reducible rfl
      simp only [List.setIfInBounds_toArray, List.set_cons_zero, List.set_cons_succ]
      refine plan_one rfl ?_
      gi_wp2_with (fail)
      refine ⟨K4.out.allocK _, ?_⟩
      have HNW := Lib.hid (show ∀ (j : Nat) (u : Value), [.int .i64 s.1, .int .i64 s.2, .slice a5 m5 k5][j]? = some u → (W4.alloc (.cells #[.int .i64 s.1, .int .i64 s.2, .slice a5 m5 k5] 48)).cell? ((⟨W4.heap.size, 0, none⟩ : Addr).add j) = some u from World.news_of_block (cs := #[.int .i64 s.1, .int .i64 s.2, .slice a5 m5 k5]) (heap_fresh rfl))
      have HROW := Lib.hid R4.out.row
      refine plan_one rfl ?_
      refine wpListIn_append_own _ rfl _ _ 29 rfl base 48 i0 (.agg #[.int .i64 0, .int .i64 0, .slice none 0 0]) 3 40 Tryz.underlying29 hi hz0 hz1 hz2 rfl (by decide) _ _ _ rfl (HROW.out.alloc _) ⟨W4.heap.size, 0, none⟩ 1 1 [.int .i64 s.1, .int .i64 s.2, .slice a5 m5 k5] rfl rfl HNW.out (by simp [Value.oneCell']) (by unfold maxLen; omega) (by omega) (by simp; omega) ?_
      intro v' w9 hown' hgr' _
      have HW9 := Lib.hid hown'
      have HG9 := Lib.hid hgr'
      clear hown' hgr'
      have HG := Lib.hid (show (W4.alloc (.cells #[.int .i64 s.1, .int .i64 s.2, .slice a5 m5 k5] 48)).grownBy w9 u3.ownBlock from HG9.out)
      have RA := Lib.hid (R4.out.below (balloc W4 (.cells #[.int .i64 s.1, .int .i64 s.2, .slice a5 m5 k5] 48)))
      have K9 := Lib.hid ((K4.out.allocK (.cells #[.int .i64 s.1, .int .i64 s.2, .slice a5 m5 k5] 48)).keptE HG.out ((K4.out.allocK (.cells #[.int .i64 s.1, .int .i64 s.2, .slice a5 m5 k5] 48)).apart RA.out.row (by decide)))
      have R9 := Lib.hid (RA.out.push HFS.out (HO4.out.below (balloc W4 _)) HUB.out HW9.out HG.out)
      have HB9 := Lib.hid (show Below base w w9 from (HB4.out.alloc hsz4 _).grown HG.out (by simp; omega) fun k hk => (RA.out.row.lt k hk).1)
      have hle9 := R9.out.map.left_eq
      have hlt9 := HLT.out
      clear HW9 HG9
      rw [put_some (d := 24) rfl]
      simp only [List.setIfInBounds_toArray, List.set_cons_zero, List.set_cons_succ]
      gi_wp2_with (fail)
      refine ⟨K9.out, ?_⟩
      apply plan_take rfl rfl (by rfl)
      case hy =>
        rintro W' hb'
        clear hb'
        go_simp
        first | done | with_reducible rfl
      simp only [List.setIfInBounds_toArray, List.set_cons_zero, List.set_cons_succ]
      refine plan_fin ?_
      gi_wp2_with (fail)
      go_wp2_with (fail)
      go_roundw
      case rel => exact ⟨_, cnt', _, R9.out, HB9.out, by rw [List.length_append, List.length_singleton]; omega⟩
      case measure => omega
end Go.Proofs.YtjmebijckcimoaaGreatDoor
