/-
  VariationUnits: the law.
-/
import Derived.Test.YthfppkcefnmdoaaGreatDoorL5
import Derived.Test.YthfppkcefnmdoaaGreatDoorJr
import Derived.Test.YthfppkcefnmdoaaGreatDoorRe
import Derived.Test.YthfppkcefnmdoaaGreatDoorUr
namespace Go.Ap
/-- the places of a collation, and the error -/
def unitsE (x : Coll) : List Plc × Int := if collC x ≠ 0 then ([], 1) else (unitsL x, 0)
theorem unitsE_bad {x : Coll} (h : collC x ≠ 0) : unitsE x = ([], 1) := if_pos h
theorem unitsE_in {x : Coll} (h : collC x = 0) : unitsE x = (unitsL x, 0) := if_neg (by rw [h]; simp)
end Go.Ap
namespace Go.Proofs.YthfppkcefnmdoaaGreatDoor
open Go.RowKit Go.Ap Go.Shelf Go.Proofs

attribute [local go_sem] Oper.semAt_some bs_toList empty_toList bs_size bs_extract
/-- a slice of places, and an error -/
def GivesP (w : World) (r : List Plc × Int) (e : Ending) (w' : World) : Prop := ∃ a n c, e = .returned (.tuple #[.slice a n c, .int .i64 r.2]) ∧ Plcs w' a n r.1 ∧ Below w.heap.size w w'
theorem GivesP.of {w : World} {r : List Plc × Int} {e : Ending} {w' : World} (h : GivesU w r e w') (hn : r.1.length ≤ 4611686018427387903) (hs : ∀ u ∈ r.1, RdS u.rds) : GivesP w r e w' := by
  obtain ⟨v, he, ho, hb⟩ := h
  obtain ⟨a, c, rfl, hp⟩ := ho.plcs hb hn hs
  exact ⟨a, _, c, he, hp, hb⟩
set_option maxRecDepth 100000 in
set_option maxHeartbeats 4000000 in
theorem unitsPE (x : Coll) (a1 : Option Addr) (n1 c1 : Nat) (a2 : Option Addr) (n2 c2 : Nat) (a3 : Option Addr) (n3 c3 : Nat) (w : World) (h : CollM w a1 a2 a3 n1 n2 n3 x) (hc1 : n1 ≤ c1) (hev : EV w) (h32 : x.columns.length ≤ 1048576) :
    Calls Tryz.prog 14 #[collV x.sec a1 n1 c1 a2 n2 c2 a3 n3 c3] w (GivesP w (unitsE x)) := by
  by_cases hok : collC x = 0
  · rw [unitsE_in hok]
    have hl3 := h.columns.len
    have hle := (val_of hok).le
    exact (callsIn_wide.1 (unitsP x a1 n1 c1 a2 n2 c2 a3 n3 c3 w h hc1 hev h32 hok)).mono fun e w' hg => GivesP.of (r := (unitsL x, 0)) hg (by have := units_len x; show (unitsL x).length ≤ _; omega) (units_small hle h32)
  · rw [unitsE_bad hok]
    have HCK := Lib.hid (fun W (hb : Below w.heap.size w W) => collP x a1 n1 c1 a2 n2 c2 a3 n3 c3 W (h.mono (Nat.le_refl _) hb) hc1 (hev.mono (Nat.le_refl _) hb))
    have HB4 := Lib.hid (balloc w (.cells #[.string (bs x.sec), .slice a1 n1 c1, .slice a2 n2 c2, .slice a3 n3 c3] 26))
    have HBX := Lib.hid (BoxC.new w x.sec a1 n1 c1 a2 n2 c2 a3 n3 c3)
    have dn : (collC x != 0) = true := by simpa using hok
    obtain ⟨cc, hcc⟩ : ∃ cc, collC x = cc := ⟨_, rfl⟩
    rw [hcc] at HCK dn
    unfold collV at HCK ⊢
    clear h hc1 hev hok hcc
    go_enter Tryz.func14, Tryz.ntmps14
    obtain ⟨q0, q1, q2, q3⟩ := HBX.out
    go_wp2_with (fail)
    refine (HCK.out _ HB4.out).mono ?_
    rintro e w1 ⟨rfl, hb1⟩
    clear q0 q1 q2 q3
    go_wp2_with (fail)
    go_ret2
    exact ⟨_, _, _, rfl, SlM.nil _ _, bstep HB4.out hb1⟩
set_option maxRecDepth 100000 in
set_option maxHeartbeats 4000000 in
theorem unitsRE (x : Coll) (a1 : Option Addr) (n1 c1 : Nat) (a2 : Option Addr) (n2 c2 : Nat) (a3 : Option Addr) (n3 c3 : Nat) (w : World) (h : CollM w a1 a2 a3 n1 n2 n3 x) (h32 : x.columns.length ≤ 1048576) :
    Calls Tryz.prog 29 #[collV x.sec a1 n1 c1 a2 n2 c2 a3 n3 c3] w (GivesP w (unitsE x)) := by
  by_cases hok : collC x = 0
  · rw [unitsE_in hok]
    have hl3 := h.columns.len
    have hle := (val_of hok).le
    exact (unitsR x a1 n1 c1 a2 n2 c2 a3 n3 c3 w h h32 hok).mono fun e w' hg => GivesP.of (r := (unitsL x, 0)) hg (by have := units_len x; show (unitsL x).length ≤ _; omega) (units_small hle h32)
  · rw [unitsE_bad hok]
    have HCK := Lib.hid (fun W (hb : Below w.heap.size w W) => collR x a1 n1 c1 a2 n2 c2 a3 n3 c3 W (h.mono (Nat.le_refl _) hb))
    have HB4 := Lib.hid (balloc w (.cells #[.string (bs x.sec), .slice a1 n1 c1, .slice a2 n2 c2, .slice a3 n3 c3] 26))
    have HBX := Lib.hid (BoxC.new w x.sec a1 n1 c1 a2 n2 c2 a3 n3 c3)
    have dn : (collC x != 0) = true := by simpa using hok
    obtain ⟨cc, hcc⟩ : ∃ cc, collC x = cc := ⟨_, rfl⟩
    rw [hcc] at HCK dn
    unfold collV at HCK ⊢
    clear h hok hcc
    go_enter Tryz.func29, Tryz.ntmps29
    obtain ⟨q0, q1, q2, q3⟩ := HBX.out
    go_wp2_with (fail)
    refine (HCK.out _ HB4.out).mono ?_
    rintro e w1 ⟨rfl, hb1⟩
    clear q0 q1 q2 q3
    go_wp2_with (fail)
    go_ret2
    exact ⟨_, _, _, rfl, SlM.nil _ _, bstep (bstep HB4.out hb1) (balloc _ _)⟩
theorem joinE_len (x : Coll) (us : List Plc) (d : Int) : (joinE x us d).1.length ≤ us.length := by
  unfold joinE
  split
  · simp
  · split
    · simp
    · exact joinL_len d x us
theorem joinE_small {x : Coll} {us : List Plc} {d : Int} (h2 : x.columns.length ≤ 1048576) : ∀ u ∈ (joinE x us d).1, RdS u.rds := by
  unfold joinE
  split
  · intro u hu; cases hu
  · rename_i hc
    split
    · intro u hu; cases hu
    · obtain ⟨hok, hr⟩ := chkU_zero (show chkU x us = 0 by simpa using hc)
      exact join_small hr (val_of hok).le h2
set_option maxHeartbeats 2000000 in
theorem gtWordsU (a : Option Addr) (n c : Nat) (xs : List Str) (k : Int) (w : World) (h : StrsL w a n xs) :
    Calls Tryz.prog 65 #[.slice a n c, .int .i64 k] w fun e w' => (∃ b, e = .returned (.bool b)) ∧ w = w' := by
  have hs := h.small
  have HX := Lib.hid h
  clear h
  go_enter Tryz.func65, Tryz.ntmps65
  go_wp2_with (fail)
  go_loopw [5] (fun i wr => ∃ j : Nat, j ≤ n ∧ i = .int .i64 j ∧ w = wr) (fun i _ => n - (intOf i).toNat)
  case atStart => exact ⟨0, Nat.zero_le _, rfl, rfl⟩
  case round =>
    obtain ⟨j, hj, rfl, rfl⟩ := hrel
    by_cases hlt : j < n
    · obtain ⟨t, b, off, v, ht, rfl, hcv, rfl, _⟩ := Sl.at HX.out hlt
      unfold sv at hcv
      have i1 : (j : Int) < (n : Int) := by omega
      by_cases h20 : 20 < t.length
      · have t1 : decide (20 < t.length) = true := by simpa using h20
        have t2 : decide ((20 : Int) < (t.length : Int)) = true := decide_eq_true (by omega)
        clear ht h20
        go_wp2_with (fail)
        go_ret
        exact ⟨⟨_, rfl⟩, rfl⟩
      · have t1 : decide (20 < t.length) = false := by simpa using h20
        have t2 : decide ((20 : Int) < (t.length : Int)) = false := decide_eq_false (by omega)
        clear ht h20
        go_wp2_with (fail)
        go_roundw
        case rel => exact ⟨j + 1, by omega, by simp, by first | rfl | trivial⟩
        case measure => simp [intOf]; omega
    · obtain rfl : j = n := by omega
      go_wp2_with (fail)
      go_ret
      exact ⟨⟨_, rfl⟩, rfl⟩
set_option maxRecDepth 100000 in
set_option maxHeartbeats 4000000 in
theorem greatU (a : Option Addr) (n c : Nat) (us : List Plc) (w : World) (h : Plcs w a n us) :
    Calls Tryz.prog 28 #[.slice a n c] w fun e w' => (∃ b, e = .returned (.bool b) ∧ (b = false → n ≤ 12)) ∧ w = w' := by
  have hs := h.small
  have HX := Lib.hid h
  have HW := Lib.hid (fun a n c xs (h : StrsL w a n xs) => gtWordsU a n c xs 8 w h)
  clear h
  go_enter Tryz.func28, Tryz.ntmps28
  go_wp2_with (fail)
  go_loopw [3] (fun i wr => ∃ j : Nat, j ≤ n ∧ i = .int .i64 j ∧ w = wr) (fun i _ => n - (intOf i).toNat)
  case atStart => exact ⟨0, Nat.zero_le _, rfl, rfl⟩
  case round =>
    obtain ⟨j, hj, rfl, rfl⟩ := hrel
    by_cases hlt : j < n
    · obtain ⟨u, b, off, hu, rfl, ⟨ar, nr, kr, g0, g1, g2, hRd, _, _, _⟩⟩ := HX.out.at hlt
      have HRD := Lib.hid hRd
      have hsr := hRd.small
      have i1 : (j : Int) < (n : Int) := by omega
      clear hu hRd
      cases h6 : decide ((6 : Int) < (nr : Int))
      · go_wp2_with (fail)
        go_loopw [4] (fun i wr => ∃ t : Nat, t ≤ nr ∧ i = .int .i64 t ∧ w = wr) (fun i _ => nr - (intOf i).toNat)
        case atStart => exact ⟨0, Nat.zero_le _, rfl, rfl⟩
        case round =>
          obtain ⟨t, ht, rfl, rfl⟩ := hrel
          by_cases htr : t < nr
          · obtain ⟨r, b2, o2, hr, rfl, ⟨b5, n5, k5, b6, n6, k6, q0, s5, q1, s6⟩⟩ := HRD.out.at htr
            have HS5 := Lib.hid s5
            have i2 : (t : Int) < (nr : Int) := by omega
            have hs6 := s6.small
            clear hr s5 s6
            cases h8 : decide ((8 : Int) < (n6 : Int))
            · go_wp2_with (fail)
              refine (HW.out b5 n5 k5 r.1 HS5.out).mono ?_
              rintro e w' ⟨⟨bb, rfl⟩, rfl⟩
              cases bb
              · go_wp2_with (fail)
                go_roundw
                case rel => exact ⟨t + 1, by omega, by simp, by first | rfl | trivial⟩
                case measure => simp [intOf]; omega
              · go_wp2_with (fail)
                go_ret
                exact ⟨⟨_, rfl, fun h => by cases h⟩, rfl⟩
            · go_wp2_with (fail)
              go_ret
              exact ⟨⟨_, rfl, fun h => by cases h⟩, rfl⟩
          · obtain rfl : t = nr := by omega
            go_wp2_with (fail)
            go_roundw
            case rel => exact ⟨j + 1, by omega, by simp, by first | rfl | trivial⟩
            case measure => simp [intOf]; omega
      · go_wp2_with (fail)
        go_ret
        exact ⟨⟨_, rfl, fun h => by cases h⟩, rfl⟩
    · obtain rfl : j = n := by omega
      go_wp2_with (fail)
      go_ret
      exact ⟨⟨_, rfl, fun h => by simp at h; omega⟩, rfl⟩
set_option maxHeartbeats 1000000 in
theorem sameRw (a a' : Option Addr) (c c' n n' : Nat) (xs ys : List Rdg) (w : World) (h : Rdgs w a n xs) (h' : Rdgs w a' n' ys) :
    Calls Tryz.prog 33 #[.slice a n c, .slice a' n' c'] w fun e w' => e = .returned (.bool (decide (xs = ys))) ∧ Below w.heap.size w w' := by
  have H := Lib.hid (sameRq a a' c c' n n' xs ys w h h')
  generalize decide (xs = ys) = r at *
  clear h h'
  go_enter Tryz.func33, Tryz.ntmps33
  go_wp2_with (fail)
  refine H.out.mono ?_
  rintro e w1 ⟨rfl, q, rfl⟩
  go_wp2_with (fail)
  go_ret
  exact ⟨rfl, bdrewN w q⟩
set_option maxRecDepth 100000 in
set_option maxHeartbeats 16000000 in
theorem law7 (x : Coll) (a1 : Option Addr) (n1 c1 : Nat) (a2 : Option Addr) (n2 c2 : Nat) (a3 : Option Addr) (n3 c3 : Nat) (a : Option Addr) (n c : Nat) (us : List Plc) (lo hi d : Int) (w : World) (h : CollM w a1 a2 a3 n1 n2 n3 x) (hc1 : n1 ≤ c1) (hu : Plcs w a n us) (_ : I64 lo) (_ : I64 hi) (_ : I64 d) (hev : EV w) :
    Calls Tryz.prog 7 #[.agg #[.string (bs x.sec), .slice a1 n1 c1, .slice a2 n2 c2, .slice a3 n3 c3], .slice a n c, .int .i64 lo, .int .i64 hi, .int .i64 d] w fun e w' => e = .returned (.bool true) ∧ Below w.heap.size w w' := by
  have hl3 := h.columns.len
  have hlu := hu.len
  have HGR := Lib.hid (fun W (hb : Below w.heap.size w W) => greatR x a1 n1 c1 a2 n2 c2 a3 n3 c3 W (h.mono (Nat.le_refl _) hb))
  have HGU := Lib.hid (fun W (hb : Below w.heap.size w W) => greatU a n c us W (Plcs.mono hu (Nat.le_refl _) hb))
  have HAW := Lib.hid (fun W (hb : Below w.heap.size w W) => awakeP W (hev.mono (Nat.le_refl _) hb))
  have HUP := Lib.hid (fun W (hb : Below w.heap.size w W) (h32 : x.columns.length ≤ 1048576) => unitsPE x a1 n1 c1 a2 n2 c2 a3 n3 c3 W (h.mono (Nat.le_refl _) hb) hc1 (hev.mono (Nat.le_refl _) hb) h32)
  have HUR := Lib.hid (fun W (hb : Below w.heap.size w W) (h32 : x.columns.length ≤ 1048576) => unitsRE x a1 n1 c1 a2 n2 c2 a3 n3 c3 W (h.mono (Nat.le_refl _) hb) h32)
  have HRP := Lib.hid (fun W (hb : Below w.heap.size w W) (h32 : x.columns.length ≤ 1048576) => readsP x a1 n1 c1 a2 n2 c2 a3 n3 c3 W (h.mono (Nat.le_refl _) hb) hc1 (hev.mono (Nat.le_refl _) hb) h32 lo hi)
  have HRR := Lib.hid (fun W (hb : Below w.heap.size w W) (h32 : x.columns.length ≤ 1048576) => readsR x a1 n1 c1 a2 n2 c2 a3 n3 c3 W (h.mono (Nat.le_refl _) hb) h32 lo hi)
  have HJP := Lib.hid (fun W (hb : Below w.heap.size w W) (h32 : x.columns.length ≤ 1048576) (hn : n ≤ 12) => (joinP x a1 n1 c1 a2 n2 c2 a3 n3 c3 W (h.mono (Nat.le_refl _) hb) hc1 (hev.mono (Nat.le_refl _) hb) h32 a n c us (Plcs.mono hu (Nat.le_refl _) hb) (by omega) d).mono fun e w' hg => GivesP.of hg (by have := joinE_len x us d; omega) (joinE_small h32))
  have HJR := Lib.hid (fun W (hb : Below w.heap.size w W) (h32 : x.columns.length ≤ 1048576) (hn : n ≤ 12) => (joinR x a1 n1 c1 a2 n2 c2 a3 n3 c3 W (h.mono (Nat.le_refl _) hb) h32 a n c us (Plcs.mono hu (Nat.le_refl _) hb) (by omega) d).mono fun e w' hg => GivesP.of hg (by have := joinE_len x us d; omega) (joinE_small h32))
  have HCPP := Lib.hid (fun W (hb : Below w.heap.size w W) (h32 : x.columns.length ≤ 1048576) => checkU x a1 n1 c1 a2 n2 c2 a3 n3 c3 W (h.mono (Nat.le_refl _) hb) hc1 (hev.mono (Nat.le_refl _) hb) h32 a n c us (Plcs.mono hu (Nat.le_refl _) hb))
  have HCRR := Lib.hid (fun W (hb : Below w.heap.size w W) (h32 : x.columns.length ≤ 1048576) => checkR x a1 n1 c1 a2 n2 c2 a3 n3 c3 W (h.mono (Nat.le_refl _) hb) h32 a n c us (Plcs.mono hu (Nat.le_refl _) hb))
  have HB4 := Lib.hid (balloc w (.cells #[.string (bs x.sec), .slice a1 n1 c1, .slice a2 n2 c2, .slice a3 n3 c3] 26))
  have HBX := Lib.hid (BoxC.new w x.sec a1 n1 c1 a2 n2 c2 a3 n3 c3)
  unfold collV at HGR HUP HUR HRP HRR HJP HJR HCPP HCRR
  obtain ⟨uE, huE⟩ : ∃ uE, unitsE x = uE := ⟨_, rfl⟩
  obtain ⟨rE, hrE⟩ : ∃ rE, rdsE x lo hi = rE := ⟨_, rfl⟩
  obtain ⟨jE, hjE⟩ : ∃ jE, joinE x us d = jE := ⟨_, rfl⟩
  obtain ⟨kE, hkE⟩ : ∃ kE, chkU x us = kE := ⟨_, rfl⟩
  rw [huE] at HUP HUR
  rw [hrE] at HRP HRR
  rw [hjE] at HJP HJR
  rw [hkE] at HCPP HCRR
  clear h hc1 hu hev huE hrE hjE hkE
  go_enter Tryz.func7, Tryz.ntmps7
  obtain ⟨q0, q1, q2, q3⟩ := HBX.out
  go_wp2_with (fail)
  refine (HGR.out _ HB4.out).mono ?_
  rintro e wa ⟨⟨b, rfl, hb24⟩, hba⟩
  have HBA := Lib.hid (bstep HB4.out hba)
  have HBXa := Lib.hid (HBX.out.below hba)
  clear hba q0 q1 q2 q3
  cases b
  · have h24 := hb24 rfl
    have h32 : x.columns.length ≤ 1048576 := by omega
    clear hb24
    go_wp2_with (fail)
    refine (HGU.out _ HBA.out).mono ?_
    rintro e wb ⟨⟨b, rfl, hb12⟩, rfl⟩
    cases b
    · have h12 := hb12 rfl
      clear hb12
      obtain ⟨q0, q1, q2, q3⟩ := HBXa.out
      go_wp2_with (fail)
      refine (HUP.out _ (HBA.out) h32).mono ?_
      rintro e w1 ⟨sa, ma, ka, rfl, hpa, hba⟩
      have HB1 := Lib.hid (bstep HBA.out hba)
      have HX1 := Lib.hid (HBXa.out.below hba)
      have HPA := Lib.hid hpa
      clear hpa hba q0 q1 q2 q3
      obtain ⟨q0, q1, q2, q3⟩ := HX1.out
      go_wp2_with (fail)
      refine (HUR.out _ (HB1.out) h32).mono ?_
      rintro e w2 ⟨sb, mb, kb, rfl, hpb, hbb⟩
      have HB2 := Lib.hid (bstep HB1.out hbb)
      have HX2 := Lib.hid (HX1.out.below hbb)
      have HPB := Lib.hid hpb
      have HPA := Lib.hid (Plcs.mono HPA.out (Nat.le_refl _) hbb)
      clear hpb hbb q0 q1 q2 q3
      obtain ⟨q0, q1, q2, q3⟩ := HX2.out
      go_wp2_with (fail)
      refine (HRP.out _ (HB2.out) h32).mono ?_
      rintro e w3 ⟨sc, mc, kc, rfl, hpc, hbc⟩
      have HB3 := Lib.hid (bstep HB2.out hbc)
      have HX3 := Lib.hid (HX2.out.below hbc)
      have HPC := Lib.hid hpc
      have HPA := Lib.hid (Plcs.mono HPA.out (Nat.le_refl _) hbc)
      have HPB := Lib.hid (Plcs.mono HPB.out (Nat.le_refl _) hbc)
      clear hpc hbc q0 q1 q2 q3
      obtain ⟨q0, q1, q2, q3⟩ := HX3.out
      go_wp2_with (fail)
      refine (HRR.out _ (HB3.out) h32).mono ?_
      rintro e w4 ⟨sd, md, kd, rfl, hpd, hbd⟩
      have HB4x := Lib.hid (bstep HB3.out hbd)
      have HX4 := Lib.hid (HX3.out.below hbd)
      have HPD := Lib.hid hpd
      have HPA := Lib.hid (Plcs.mono HPA.out (Nat.le_refl _) hbd)
      have HPB := Lib.hid (Plcs.mono HPB.out (Nat.le_refl _) hbd)
      have HPC := Lib.hid (Rdgs.mono HPC.out (Nat.le_refl _) hbd)
      clear hpd hbd q0 q1 q2 q3
      obtain ⟨q0, q1, q2, q3⟩ := HX4.out
      go_wp2_with (fail)
      refine (HJP.out _ (HB4x.out) h32 h12).mono ?_
      rintro e w5 ⟨se, me, ke, rfl, hpe, hbe⟩
      have HB5 := Lib.hid (bstep HB4x.out hbe)
      have HX5 := Lib.hid (HX4.out.below hbe)
      have HPE := Lib.hid hpe
      have HPA := Lib.hid (Plcs.mono HPA.out (Nat.le_refl _) hbe)
      have HPB := Lib.hid (Plcs.mono HPB.out (Nat.le_refl _) hbe)
      have HPC := Lib.hid (Rdgs.mono HPC.out (Nat.le_refl _) hbe)
      have HPD := Lib.hid (Rdgs.mono HPD.out (Nat.le_refl _) hbe)
      clear hpe hbe q0 q1 q2 q3
      obtain ⟨q0, q1, q2, q3⟩ := HX5.out
      go_wp2_with (fail)
      refine (HJR.out _ (HB5.out) h32 h12).mono ?_
      rintro e w6 ⟨sf, mf, kf, rfl, hpf, hbf⟩
      have HB6 := Lib.hid (bstep HB5.out hbf)
      have HX6 := Lib.hid (HX5.out.below hbf)
      have HPF := Lib.hid hpf
      have HPA := Lib.hid (Plcs.mono HPA.out (Nat.le_refl _) hbf)
      have HPB := Lib.hid (Plcs.mono HPB.out (Nat.le_refl _) hbf)
      have HPC := Lib.hid (Rdgs.mono HPC.out (Nat.le_refl _) hbf)
      have HPD := Lib.hid (Rdgs.mono HPD.out (Nat.le_refl _) hbf)
      have HPE := Lib.hid (Plcs.mono HPE.out (Nat.le_refl _) hbf)
      clear hpf hbf q0 q1 q2 q3
      have HSA := Lib.hid (fun p q (hpq : (p = Value.slice sa ma ka ∧ q = Value.slice sb mb kb) ∨ (p = Value.slice se me ke ∧ q = Value.slice sf mf kf)) W (hb : Below w6.heap.size w6 W) => show Calls Tryz.prog 23 #[p, q] W fun e w' => e = .returned (.bool true) ∧ Below W.heap.size W w' from by
        rcases hpq with ⟨rfl, rfl⟩ | ⟨rfl, rfl⟩
        · have := samePq sa sb ka kb ma mb uE.1 uE.1 W (Plcs.mono HPA.out (Nat.le_refl _) hb) (Plcs.mono HPB.out (Nat.le_refl _) hb)
          rw [plcsB_iff.2 rfl] at this
          exact this.mono fun e w' ⟨he, q, hq⟩ => ⟨he, by rw [hq]; exact bdrewN W q⟩
        · have := samePq se sf ke kf me mf jE.1 jE.1 W (Plcs.mono HPE.out (Nat.le_refl _) hb) (Plcs.mono HPF.out (Nat.le_refl _) hb)
          rw [plcsB_iff.2 rfl] at this
          exact this.mono fun e w' ⟨he, q, hq⟩ => ⟨he, by rw [hq]; exact bdrewN W q⟩)
      have HSR := Lib.hid (fun W (hb : Below w6.heap.size w6 W) => show Calls Tryz.prog 33 #[.slice sc mc kc, .slice sd md kd] W fun e w' => e = .returned (.bool true) ∧ Below W.heap.size W w' from by
        have := sameRw sc sd kc kd mc md rE.1 rE.1 W (Rdgs.mono HPC.out (Nat.le_refl _) hb) (Rdgs.mono HPD.out (Nat.le_refl _) hb)
        rwa [decide_eq_true rfl] at this)
      have HCP := Lib.hid (fun W (hb : Below w6.heap.size w6 W) => HCPP.out W (bstep HB6.out hb) h32)
      have HCR := Lib.hid (fun W (hb : Below w6.heap.size w6 W) => HCRR.out W (bstep HB6.out hb) h32)
      have HAX := Lib.hid (fun W (hb : Below w6.heap.size w6 W) => HAW.out W (bstep HB6.out hb))
      obtain ⟨u1, u2⟩ := uE
      obtain ⟨r1, r2⟩ := rE
      obtain ⟨j1, j2⟩ := jE
      simp only
      obtain ⟨q0, q1, q2, q3⟩ := HX6.out
      go_wp2_with (fail)
      have HKP := Lib.hid (show ∀ W, Below w6.heap.size w6 W → (W.cell? ⟨w.heap.size, 0, none⟩ = some (.string (bs x.sec)) ∧ W.cell? ⟨w.heap.size, 1, none⟩ = some (.slice a1 n1 c1) ∧ W.cell? ⟨w.heap.size, 2, none⟩ = some (.slice a2 n2 c2) ∧ W.cell? ⟨w.heap.size, 3, none⟩ = some (.slice a3 n3 c3) ∧ Below w6.heap.size w6 W) from fun W hb => ⟨cell_keep hb (q0), cell_keep hb (q1), cell_keep hb (q2), cell_keep hb (q3), hb⟩)
      go_region_held3 (fun W => W.cell? ⟨w.heap.size, 0, none⟩ = some (.string (bs x.sec)) ∧ W.cell? ⟨w.heap.size, 1, none⟩ = some (.slice a1 n1 c1) ∧ W.cell? ⟨w.heap.size, 2, none⟩ = some (.slice a2 n2 c2) ∧ W.cell? ⟨w.heap.size, 3, none⟩ = some (.slice a3 n3 c3) ∧ Below w6.heap.size w6 W)
        ((refine HKP.out _ ?_; first | exact (Below.refl _ _).drew | (refine bstep ?_ hb2; exact (‹_ ∧ _ ∧ _ ∧ _ ∧ Below w6.heap.size w6 _›).2.2.2.2) | exact (‹_ ∧ _ ∧ _ ∧ _ ∧ Below w6.heap.size w6 _›).2.2.2.2))
        (first | (go_at_call 23; refine Calls.mono (HSA.out _ _ ?_ _ ?_) ?_; (first | exact .inl ⟨rfl, rfl⟩ | exact .inr ⟨rfl, rfl⟩); exact (‹_ ∧ _ ∧ _ ∧ _ ∧ Below w6.heap.size w6 _›).2.2.2.2; rintro e w' ⟨rfl, hb2⟩) | (go_at_call 33; refine Calls.mono (HSR.out _ ?_) ?_; exact (‹_ ∧ _ ∧ _ ∧ _ ∧ Below w6.heap.size w6 _›).2.2.2.2; rintro e w' ⟨rfl, hb2⟩) | (go_at_call 20; refine Calls.mono (HCP.out _ ?_) ?_; exact (‹_ ∧ _ ∧ _ ∧ _ ∧ Below w6.heap.size w6 _›).2.2.2.2; rintro e w' ⟨rfl, hb2⟩) | (go_at_call 34; refine Calls.mono (HCR.out _ ?_) ?_; exact (‹_ ∧ _ ∧ _ ∧ _ ∧ Below w6.heap.size w6 _›).2.2.2.2; rintro e w' ⟨rfl, hb2⟩) | (go_at_call 13; refine Calls.mono (HAX.out _ ?_) ?_; exact (‹_ ∧ _ ∧ _ ∧ _ ∧ Below w6.heap.size w6 _›).2.2.2.2; rintro e w' ⟨rfl, hb2⟩))
      have hbX := (‹_ ∧ _ ∧ _ ∧ _ ∧ Below w6.heap.size w6 _›).2.2.2.2
      go_wp2_with (fail)
      go_ret
      exact ⟨rfl, bstep HB6.out hbX⟩
    · clear hb12
      go_wp2_with (fail)
      refine (HAW.out _ HBA.out).mono ?_
      rintro e wc ⟨rfl, hbc⟩
      go_wp2_with (fail)
      go_ret
      exact ⟨rfl, bstep HBA.out hbc⟩
  · clear hb24
    go_wp2_with (fail)
    refine (HAW.out _ HBA.out).mono ?_
    rintro e wc ⟨rfl, hbc⟩
    go_wp2_with (fail)
    go_ret
    exact ⟨rfl, bstep HBA.out hbc⟩
end Go.Proofs.YthfppkcefnmdoaaGreatDoor
