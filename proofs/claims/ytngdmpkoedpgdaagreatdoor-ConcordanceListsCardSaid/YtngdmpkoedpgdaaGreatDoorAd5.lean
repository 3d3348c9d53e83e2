/-
  add: an index with a further line of a word (reference).
-/
import Derived.Test.YtngdmpkoedpgdaaGreatDoorQa
namespace Go.Ap
open Go Go.RowKit
theorem ints_new1 {w : World} {V : Nat} {x : Int} (h : BlkK w V #[.int .i64 x] 3) (hx : I64 x) : Ints w (some ⟨V, 0, none⟩) 1 [x] :=
  sl_at h ⟨⟨rfl, hx⟩, trivial⟩ rfl (by omega)
theorem ints_two {w6 w3 w4 : World} {v1 v3 : Value} {C : Obj} {b5 o5 n m : Nat} {ys : List Int} (hi : Ints w6 (some ⟨b5, o5, none⟩) n ys) (hlt : b5 < m) (hne : some b5 ≠ v1.ownBlock)
    (hg : (w6.alloc C).grownBy w3 v1.ownBlock) (ha : v3.ownBlock = v1.ownBlock ∨ v3.ownBlock = some m) (hg' : w3.grownBy w4 v3.ownBlock) : Ints w4 (some ⟨b5, o5, none⟩) n ys := by
  refine ints_grown (ints_grown (hi.mono (Nat.le_refl _) (balloc w6 C)) hg hne) hg' ?_
  rcases ha with h | h
  · rw [h]; exact hne
  · rw [h]
    intro he
    have := Option.some.inj he
    omega
theorem own_ne {e : TypeId} {w1 : World} {base b5 : Nat} {v1 : Value} {qs : List PIt} (h : RowQ e w1 base v1 qs) (hb : b5 < base ∨ w1.heap.size ≤ b5) : some b5 ≠ v1.ownBlock := by
  intro he
  have := World.ownsRow.lt h b5 he.symm
  omega
def GivesPc (e : Ending) (w w' : World) (l : List Post) : Prop := ∃ b off c, e = .returned (.slice (some ⟨b, off, none⟩) l.length c) ∧ Postc w' (some ⟨b, off, none⟩) l.length l ∧ l.length ≤ c ∧ Below w.heap.size w w'
theorem add_gives {e : TypeId} {w w4 : World} {base : Nat} {v : Value} {qs1 qs2 : List PIt} {P : PIt} {r : List Post} (h : RowQ e w4 base v (qs1 ++ [P] ++ qs2)) (hr : (qs1 ++ [P] ++ qs2).map (·.1) = r) (hn : (qs1 ++ [P] ++ qs2).length ≤ 4611686018427387903)
    (h1 : ∀ p ∈ qs1, ∃ a k, p.2 = .slice a p.1.2.length k ∧ p.1.2.length ≤ k ∧ PostS w a p.1) (h2 : ∀ p ∈ qs2, ∃ a k, p.2 = .slice a p.1.2.length k ∧ p.1.2.length ≤ k ∧ PostS w a p.1)
    (hP : ∃ a k, P.2 = .slice a P.1.2.length k ∧ P.1.2.length ≤ k ∧ PostS w4 a P.1) (hb : Below w.heap.size w w4) : GivesPc (.returned v) w w4 r := by
  obtain ⟨b, o, c, rfl, hp, hc⟩ := RowQ.gives h (by simp) hn (fun p hp => by
    rcases List.mem_append.1 hp with hp | hp
    · rcases List.mem_append.1 hp with hp | hp
      · obtain ⟨a', k', e1, e2, e3⟩ := h1 p hp
        exact ⟨a', k', e1, e2, e3.mono (Nat.le_refl _) hb⟩
      · rw [List.mem_singleton] at hp
        subst hp
        exact hP
    · obtain ⟨a2, k2, e1, e2, e3⟩ := h2 p hp
      exact ⟨a2, k2, e1, e2, e3.mono (Nat.le_refl _) hb⟩)
  have hlen : (qs1 ++ [P] ++ qs2).length = r.length := by rw [← hr, List.length_map]
  rw [hr] at hp
  rw [hlen] at hp hc ⊢
  exact ⟨b, o, c, rfl, hp, hc, hb⟩
theorem withF_pos (l : List Int) (x : Int) : 0 < (withF l x).length := by
  cases l with
  | nil => simp [withF]
  | cons y r => unfold withF; split <;> (try split) <;> simp
theorem head_eq {p q : Str × Str} (h : headM mkB p q = 0) : p = q := (cmp_head mkB).zero.1 h
end Go.Ap
namespace Go.Proofs.YtngdmpkoedpgdaaGreatDoor
open Go.RowKit Go.Ap Go.Shelf Go.Proofs

attribute [local go_sem] Oper.semAt_some bs_toList empty_toList bs_size bs_extract
set_option maxRecDepth 100000 in
set_option maxHeartbeats 4000000 in
theorem add104 (l : List Post) (wd sc : Str) (x : Int) (b off n c : Nat) (w : World) (h : Postc w (some ⟨b, off, none⟩) n l) (hc : n ≤ c) (hn : n ≤ 100000) (hx : I64 x) (hwd : wd.length ≤ 65536) (hsc : sc.length ≤ 65536) (hl : ∀ p ∈ l, p.1.1.length ≤ 65536 ∧ p.2 ≠ [] ∧ p.2.length ≤ 1000000) :
    Calls Tryz.prog 104 #[.slice (some ⟨b, off, none⟩) n c, .string (bs wd), .string (bs sc), .int .i64 x] w fun e w' => GivesPc e w w' (addF (headM mkB) l (wd, sc) x) := by
  obtain ⟨i0, hi, hz0, hz1, hz2⟩ := info_parts infoPost
  have HX := Lib.hid h
  have HL := Lib.hid h.len
  have HLL := Lib.hid hl
  have HIX := Lib.hid hx
  clear h hl hx
  obtain ⟨V, hV⟩ : ∃ V, w.heap.size = V := ⟨_, rfl⟩
  obtain ⟨W1, hW1⟩ : ∃ W, (w.alloc (.cells #[.int .i64 x] 3)).alloc (.cells #[.string (bs wd), .string (bs sc), .slice (some ⟨V, 0, none⟩) 1 1] 37) = W := ⟨_, rfl⟩
  have HB0 := Lib.hid (show Below w.heap.size w W1 by rw [← hW1]; exact bstep (balloc w _) (balloc (w.alloc _) _))
  have HK0 := Lib.hid (show BlkK W1 (V + 1) #[.string (bs wd), .string (bs sc), .slice (some ⟨V, 0, none⟩) 1 1] 37 by
    have := BlkK.new (w.alloc (.cells #[.int .i64 x] 3)) #[.string (bs wd), .string (bs sc), .slice (some ⟨V, 0, none⟩) 1 1] 37
    rw [World.size_alloc, hV, hW1] at this
    exact this)
  have HL0 := Lib.hid (show BlkK W1 V #[.int .i64 x] 3 by
    have := (BlkK.new w #[.int .i64 x] 3).below (balloc (w.alloc (.cells #[.int .i64 x] 3)) (.cells #[.string (bs wd), .string (bs sc), .slice (some ⟨V, 0, none⟩) 1 1] 37))
    rw [hW1, hV] at this
    exact this)
  go_enter Tryz.func104, Tryz.ntmps104
  go_wp2_with (fail)
  try rw [hV]
  clear hW1
  have HV := Lib.hid hV
  clear hV
  go_loopw [10] (fun kv wr => ∃ k : Nat, k ≤ n ∧ kv = .int .i64 k ∧ Below W1.heap.size W1 wr ∧ ∀ j p, j < k → l[j]? = some p → headM mkB p.1 (wd, sc) < 0) (fun kv _ => n - (intOf kv).toNat)
  case atStart => exact ⟨0, Nat.zero_le _, rfl, Below.refl _ _, fun j p hj => absurd hj (Nat.not_lt_zero _)⟩
  case round =>
    obtain ⟨wi, rfl⟩ : ∃ wi : World, wi = wr := ⟨_, rfl⟩
    obtain ⟨k, hk, rfl, hb, hall⟩ := hrel
    have HA := Lib.hid hall
    have HBR := Lib.hid (bstep HB0.out hb)
    have HBW := Lib.hid hb
    have HKR := Lib.hid (HK0.out.below hb)
    have HLR := Lib.hid (HL0.out.below hb)
    clear hb hall
    by_cases hlt : k < n
    · obtain ⟨p, b', off', hp, he, a1, k1, e0, e1, e2, hkc, hps⟩ := HX.out.at hlt
      cases he
      have e0 := cell_keep HBR.out e0
      have e1 := cell_keep HBR.out e1
      have e2 := cell_keep HBR.out e2
      obtain ⟨⟨pw, ps⟩, ln⟩ := p
      have hpl := HLL.out _ (List.mem_of_getElem? hp)
      simp only at e0 e1 e2 hkc hpl
      have HPS0 := Lib.hid hps
      have HPL := Lib.hid hpl
      have HKC := Lib.hid hkc
      have HPK := Lib.hid hp
      obtain ⟨cm, hcm⟩ : ∃ cm, headM mkB (pw, ps) (wd, sc) = cm := ⟨_, rfl⟩
      have HCQ := Lib.hid hcm
      have HCM := Lib.hid (fun W => by
        have := orderR (pw, ps) (wd, sc) (.slice a1 ln.length k1) (.slice (some ⟨V, 0, none⟩) 1 1) W hpl.1 hwd
        unfold postV at this
        rwa [hcm] at this)
      obtain ⟨q, hq⟩ : ∃ q, ln.length = q := ⟨_, rfl⟩
      have HQL := Lib.hid hq
      rw [hq] at e2 HCM
      have HE0 := Lib.hid e0
      have HE1 := Lib.hid e1
      have HE2 := Lib.hid e2
      have HP0 := Lib.hid (HKR.out.cell (i := 0) (u := .string (bs wd)) rfl)
      have HP1 := Lib.hid (HKR.out.cell (i := 1) (u := .string (bs sc)) rfl)
      have HP2 := Lib.hid (HKR.out.cell (i := 2) (u := .slice (some ⟨V, 0, none⟩) 1 1) rfl)
      have i1 : (k : Int) < (n : Int) := by omega
      have i0' : (0 : Int) ≤ (k : Int) := by omega
      clear hp hpl hkc hps hcm hq e0 e1 e2
      by_cases g1 : cm < 0
      · have d1 : decide (cm < 0) = true := decide_eq_true g1
        have HG1 := Lib.hid g1
        clear g1
        go_wp2_with (fail)
        refine (wpIn_wide (n := 20)).1 ?_
        refine wpIn_region_planN (fun W' => Below wi.heap.size wi W') (.take 0 <| .take 1 <| .take 2 <| .take 3 <| .take 4 <| .take 5 <| .take 6 <| .take 7 <| .take 8 <| .take 9 <| .one 10 <| .take 11 <| .take 12 .fin) (fun _ => trivial) (by kernel_rfl) (by kernel_rfl) (show Below _ wi _ from bdrewN _ 1) ?_
        have HSX := Lib.hid (show Below wi.heap.size wi wi.drew from bdrewN _ 1)
        iterate 5
          apply plan_take rfl rfl (by rfl)
          case hy =>
            rintro W' hb'
            clear hb'
            go_simp
            first | done | with_reducible rfl
          simp only [List.setIfInBounds_toArray, List.set_cons_zero, List.set_cons_succ]
        iterate 3
          apply plan_gd (j := 4) (t := 21) (b := true) (c := true) rfl rfl rfl rfl rfl (by simp) rfl
          case hy =>
            rintro W' hb'
            clear hb'
            go_simp
            first | done | with_reducible rfl
          simp only [List.setIfInBounds_toArray, List.set_cons_zero, List.set_cons_succ]
        iterate 2
          apply plan_gd (j := 4) (t := 21) (b := true) (c := true) rfl rfl rfl rfl rfl (by simp) rfl
          case hy =>
            rintro W' hb'
            have f0 := cell_keep hb' HE0.out
            have f1 := cell_keep hb' HE1.out
            have f2 := cell_keep hb' HE2.out
            have g0 := cell_keep hb' HP0.out
            have g1 := cell_keep hb' HP1.out
            have g2 := cell_keep hb' HP2.out
            clear hb'
            go_simp
            first | done | with_reducible rfl
          simp only [List.setIfInBounds_toArray, List.set_cons_zero, List.set_cons_succ]
        refine plan_one rfl ?_
        gi_wp2_with (fail)
        refine ⟨trivial, (callsIn_wide.2 (HCM.out _)).mono ?_⟩
        rintro e W9 ⟨rfl, hb9⟩
        have HSX := Lib.hid (bstep HSX.out hb9)
        clear hb9
        gi_wp2_with (fail)
        refine ⟨HSX.out, ?_⟩
        apply plan_gd (j := 4) (t := 21) (b := true) (c := true) rfl rfl rfl rfl rfl (by simp) rfl
        case hy =>
          rintro W' hb'
          clear hb'
          go_simp
          first | done | with_reducible rfl
        simp only [List.setIfInBounds_toArray, List.set_cons_zero, List.set_cons_succ]
        apply plan_take rfl rfl (by rfl)
        case hy =>
          rintro W' hb'
          clear hb'
          go_simp
          first | done | with_reducible rfl
        simp only [List.setIfInBounds_toArray, List.set_cons_zero, List.set_cons_succ]
        refine plan_fin ?_
        gi_wp2_with (fail)
        go_wp2_with (fail)
        go_roundw
        case rel => exact ⟨k + 1, by omega, by simp, bstep HBW.out HSX.out, fun j p hj hjp => (by
          by_cases hjk : j = k
          · subst hjk
            rw [HPK.out] at hjp
            cases hjp
            rw [HCQ.out]; exact HG1.out
          · exact HA.out j p (by omega) hjp)⟩
        case measure => simp [intOf]; omega
      · have d1 : decide (cm < 0) = false := decide_eq_false g1
        have HG1 := Lib.hid g1
        clear g1
        go_wp2_with (fail)
        refine (wpIn_wide (n := 20)).1 ?_
        refine wpIn_region_planN (fun W' => Below wi.heap.size wi W') (.take 0 <| .take 1 <| .take 2 <| .take 3 <| .take 4 <| .take 5 <| .take 6 <| .take 7 <| .take 8 <| .take 9 <| .one 10 <| .take 11 <| .take 12 .fin) (fun _ => trivial) (by kernel_rfl) (by kernel_rfl) (show Below _ wi _ from bdrewN _ 1) ?_
        have HSX := Lib.hid (show Below wi.heap.size wi wi.drew from bdrewN _ 1)
        iterate 5
          apply plan_take rfl rfl (by rfl)
          case hy =>
            rintro W' hb'
            clear hb'
            go_simp
            first | done | with_reducible rfl
          simp only [List.setIfInBounds_toArray, List.set_cons_zero, List.set_cons_succ]
        iterate 3
          apply plan_gd (j := 4) (t := 21) (b := true) (c := true) rfl rfl rfl rfl rfl (by simp) rfl
          case hy =>
            rintro W' hb'
            clear hb'
            go_simp
            first | done | with_reducible rfl
          simp only [List.setIfInBounds_toArray, List.set_cons_zero, List.set_cons_succ]
        iterate 2
          apply plan_gd (j := 4) (t := 21) (b := true) (c := true) rfl rfl rfl rfl rfl (by simp) rfl
          case hy =>
            rintro W' hb'
            have f0 := cell_keep hb' HE0.out
            have f1 := cell_keep hb' HE1.out
            have f2 := cell_keep hb' HE2.out
            have g0 := cell_keep hb' HP0.out
            have g1 := cell_keep hb' HP1.out
            have g2 := cell_keep hb' HP2.out
            clear hb'
            go_simp
            first | done | with_reducible rfl
          simp only [List.setIfInBounds_toArray, List.set_cons_zero, List.set_cons_succ]
        refine plan_one rfl ?_
        gi_wp2_with (fail)
        refine ⟨trivial, (callsIn_wide.2 (HCM.out _)).mono ?_⟩
        rintro e W9 ⟨rfl, hb9⟩
        have HSX := Lib.hid (bstep HSX.out hb9)
        clear hb9
        gi_wp2_with (fail)
        refine ⟨HSX.out, ?_⟩
        apply plan_gd (j := 4) (t := 21) (b := true) (c := true) rfl rfl rfl rfl rfl (by simp) rfl
        case hy =>
          rintro W' hb'
          clear hb'
          go_simp
          first | done | with_reducible rfl
        simp only [List.setIfInBounds_toArray, List.set_cons_zero, List.set_cons_succ]
        apply plan_take rfl rfl (by rfl)
        case hy =>
          rintro W' hb'
          clear hb'
          go_simp
          first | done | with_reducible rfl
        simp only [List.setIfInBounds_toArray, List.set_cons_zero, List.set_cons_succ]
        refine plan_fin ?_
        gi_wp2_with (fail)
        obtain ⟨u0, hu0⟩ : ∃ W, W9 = W := ⟨_, rfl⟩
        have HRU := Lib.hid (show Below wi.heap.size wi u0 by rw [← hu0]; exact HSX.out)
        rw [hu0]
        clear hu0
        have HU := Lib.hid (show Below w.heap.size w u0 from HBR.out.trans (HRU.out.mono HBR.out.size))
        have HKU := Lib.hid (HKR.out.below HRU.out)
        have HLU := Lib.hid (HLR.out.below HRU.out)
        have HZU := Lib.hid (show w.heap.size ≤ u0.heap.size from HU.out.size)
        have HO1 := Lib.hid (show RowQ 37 (u0.alloc (.cells #[] 37)) u0.heap.size (.slice (some ⟨u0.heap.size, 0, none⟩) 0 0) [] from RowQ.empty _ u0 (Nat.le_refl _))
        have hkn : k ≤ n := by omega
        obtain ⟨qs1, q1, q2, q3⟩ := postc_items (HX.out.take hkn)
        have hql1 : qs1.length = k := by have := congrArg List.length q1; rw [List.length_map, List.length_take, HL.out] at this; omega
        have HQ1 := Lib.hid q1
        have HQ2 := Lib.hid q2
        have HQ3 := Lib.hid q3
        clear q1 q2 q3
        have s1 : (k : Int) ≤ (c : Int) := by omega
        have s2 : (k : Int) ≤ (n : Int) := by omega
        have z0 : (0 : Int) ≤ (k : Int) := by omega
        go_wp2_with (at_builtin; refine wpList_append_q rfl _ _ 27 37 rfl u0.heap.size i0 Tryz.underlying27 hi hz0 hz1 hz2 _ [] rfl HO1.out b off k c qs1 rfl hql1 (fun j u hu => cell_keep (HU.out.trans ((balloc u0 _).mono HZU.out)) (HQ2.out j u hu)) (fun p hp => by obtain ⟨_, _, he, _⟩ := HQ3.out p hp; rw [he]; rfl) (by simp; omega) (by simp) ?_)
        intro v1 w1 ho1 hb1 hg1 ha1
        have HO2 := Lib.hid (show RowQ 37 w1 u0.heap.size v1 qs1 from ho1)
        have HB1 := Lib.hid (show Below u0.heap.size u0 w1 from (balloc u0 _).trans hb1)
        have HK1 := Lib.hid (HKU.out.below HB1.out)
        have HL1 := Lib.hid (HLU.out.below HB1.out)
        clear ho1 hb1 hg1 ha1
        have HM01 := Lib.hid (show Below wi.heap.size wi w1 from HRU.out.trans (HB1.out.mono HRU.out.size))
        have HE0 := Lib.hid (cell_keep HM01.out HE0.out)
        have HE1 := Lib.hid (cell_keep HM01.out HE1.out)
        have HE2 := Lib.hid (cell_keep HM01.out HE2.out)
        have HP0 := Lib.hid (cell_keep HM01.out HP0.out)
        have HP1 := Lib.hid (cell_keep HM01.out HP1.out)
        have HP2 := Lib.hid (cell_keep HM01.out HP2.out)
        by_cases g2 : cm = 0
        · have d2 : (cm == 0) = true := by rw [beq_iff_eq]; exact g2
          have HG2 := Lib.hid g2
          clear g2
          go_wp2_with (fail)
          refine (wpIn_wide (n := 20)).1 ?_
          refine wpIn_region_planN (fun W' => Below w1.heap.size w1 W') (.take 0 <| .take 1 <| .take 2 <| .take 3 <| .take 4 <| .take 5 <| .take 6 <| .take 7 <| .take 8 <| .take 9 <| .one 10 <| .take 11 <| .take 12 .fin) (fun _ => trivial) (by kernel_rfl) (by kernel_rfl) (show Below _ w1 _ from bdrewN _ 1) ?_
          have HSX := Lib.hid (show Below w1.heap.size w1 w1.drew from bdrewN _ 1)
          iterate 5
            apply plan_take rfl rfl (by rfl)
            case hy =>
              rintro W' hb'
              clear hb'
              go_simp
              first | done | with_reducible rfl
            simp only [List.setIfInBounds_toArray, List.set_cons_zero, List.set_cons_succ]
          iterate 3
            apply plan_gd (j := 4) (t := 41) (b := true) (c := true) rfl rfl rfl rfl rfl (by simp) rfl
            case hy =>
              rintro W' hb'
              clear hb'
              go_simp
              first | done | with_reducible rfl
            simp only [List.setIfInBounds_toArray, List.set_cons_zero, List.set_cons_succ]
          iterate 2
            apply plan_gd (j := 4) (t := 41) (b := true) (c := true) rfl rfl rfl rfl rfl (by simp) rfl
            case hy =>
              rintro W' hb'
              have f0 := cell_keep hb' HE0.out
              have f1 := cell_keep hb' HE1.out
              have f2 := cell_keep hb' HE2.out
              have g0 := cell_keep hb' HP0.out
              have g1 := cell_keep hb' HP1.out
              have g2 := cell_keep hb' HP2.out
              clear hb'
              go_simp
              first | done | with_reducible rfl
            simp only [List.setIfInBounds_toArray, List.set_cons_zero, List.set_cons_succ]
          refine plan_one rfl ?_
          gi_wp2_with (fail)
          refine ⟨trivial, (callsIn_wide.2 (HCM.out _)).mono ?_⟩
          rintro e W9 ⟨rfl, hb9⟩
          have HSX := Lib.hid (bstep HSX.out hb9)
          clear hb9
          gi_wp2_with (fail)
          refine ⟨HSX.out, ?_⟩
          apply plan_gd (j := 4) (t := 41) (b := true) (c := true) rfl rfl rfl rfl rfl (by simp) rfl
          case hy =>
            rintro W' hb'
            clear hb'
            go_simp
            first | done | with_reducible rfl
          simp only [List.setIfInBounds_toArray, List.set_cons_zero, List.set_cons_succ]
          apply plan_take rfl rfl (by rfl)
          case hy =>
            rintro W' hb'
            clear hb'
            go_simp
            first | done | with_reducible rfl
          simp only [List.setIfInBounds_toArray, List.set_cons_zero, List.set_cons_succ]
          refine plan_fin ?_
          gi_wp2_with (fail)
          obtain ⟨w2, hw2⟩ : ∃ W, W9 = W := ⟨_, rfl⟩
          have HB12 := Lib.hid (show Below w1.heap.size w1 w2 by rw [← hw2]; exact HSX.out)
          rw [hw2]
          clear hw2
          have HO3a := Lib.hid (show RowQ 37 w2 u0.heap.size v1 qs1 from owns_below HO2.out HB12.out)
          have HB2 := Lib.hid (HB1.out.trans (HB12.out.mono HB1.out.size))
          have HK2a := Lib.hid (HK1.out.below HB12.out)
          have HL2 := Lib.hid (HL1.out.below HB12.out)
          have HW2a := Lib.hid (HU.out.trans (HB2.out.mono HZU.out))
          have HZ2a := Lib.hid (show u0.heap.size ≤ w2.heap.size from HB2.out.size)
          have HEQ := Lib.hid (head_eq (show headM mkB (pw, ps) (wd, sc) = 0 by rw [HCQ.out]; exact HG2.out))
          have hpos : 0 < ln.length := by have := HPL.out.2.1; exact List.length_pos_iff.2 this
          obtain ⟨b1, o1, ha1, hcs1⟩ := HPS0.out.lines.at hpos
          have hb1l := World.block_lt_of_cell? _ _ (hcs1 0 hpos)
          have HB1L := Lib.hid (show b1 < w.heap.size from hb1l)
          clear hb1l hcs1
          subst ha1
          have HLI := Lib.hid (show Ints w (some ⟨b1, o1, none⟩) q ln by rw [← HQL.out]; exact HPS0.out.lines)
          have e2 := cell_keep HB12.out HE2.out
          go_wp2_with (fail)
          clear e2
          refine (with156 ln x b1 o1 q k1 w2 (HLI.out.mono (Nat.le_refl _) HW2a.out) (by have := HKC.out; have := HQL.out; omega) (by have := HPL.out.2.2; have := HQL.out; omega) (by have := HQL.out; omega) HIX.out).mono ?_
          rintro e w5 ⟨a5, c5, rfl, hi5, hc5, hb5, hd5⟩
          have hpos5 : 0 < (withF ln x).length := withF_pos ln x
          obtain ⟨b5, o5, ha5, hcs5⟩ := hi5.at hpos5
          cases ha5
          have HB5L := Lib.hid (show b5 < w5.heap.size from World.block_lt_of_cell? _ _ (hcs5 0 hpos5))
          have HD5 := Lib.hid (show b5 < w.heap.size ∨ w2.heap.size ≤ b5 from by
            rcases hd5 with h | h
            · cases h; exact .inl HB1L.out
            · exact .inr h)
          have HI5 := Lib.hid hi5
          have HC5 := Lib.hid hc5
          have HB5 := Lib.hid hb5
          clear hi5 hc5 hb5 hd5 hcs5
          have HK5 := Lib.hid (HK2a.out.below HB5.out)
          have HG6 := Lib.hid (show w5.grownBy (w5.setCell ⟨V + 1, 2, none⟩ (.slice (some ⟨b5, o5, none⟩) (withF ln x).length c5)) (some (V + 1)) from grown_put _ _ _ _)
          have HK2 := Lib.hid (show BlkK (w5.setCell ⟨V + 1, 2, none⟩ (.slice (some ⟨b5, o5, none⟩) (withF ln x).length c5)) (V + 1) #[.string (bs wd), .string (bs sc), .slice (some ⟨b5, o5, none⟩) (withF ln x).length c5] 37 from HK5.out.put (i := 2))
          have hz6 : (w5.setCell ⟨V + 1, 2, none⟩ (.slice (some ⟨b5, o5, none⟩) (withF ln x).length c5)).heap.size = w5.heap.size := by simp [World.setCell]
          have HVU := Lib.hid (show V + 1 < u0.heap.size from HKU.out.lt)
          have HVW := Lib.hid (show w.heap.size = V from HV.out)
          have HZ2 := Lib.hid (show u0.heap.size ≤ (w5.setCell ⟨V + 1, 2, none⟩ (.slice (some ⟨b5, o5, none⟩) (withF ln x).length c5)).heap.size by rw [hz6]; exact Nat.le_trans HZ2a.out HB5.out.size)
          have HO3b := Lib.hid (show RowQ 37 w5 u0.heap.size v1 qs1 from owns_below HO3a.out HB5.out)
          have HO3 := Lib.hid (show RowQ 37 (w5.setCell ⟨V + 1, 2, none⟩ (.slice (some ⟨b5, o5, none⟩) (withF ln x).length c5)) u0.heap.size v1 qs1 from World.ownsRow.kept HO3b.out HG6.out (.inr fun he => by have := World.ownsRow.lt HO3b.out _ he; have := HVU.out; omega))
          have HW5 := Lib.hid (HW2a.out.trans (HB5.out.mono HW2a.out.size))
          have HW2 := Lib.hid (HW5.out.grown HG6.out HW5.out.size fun r he => by cases he; have := HVW.out; omega)
          have HI6 := Lib.hid (ints_grown HI5.out HG6.out (fun he => by have h7 := Option.some.inj he; have := HVW.out; have := HVU.out; have := HZ2a.out; rcases HD5.out with h | h <;> omega))
          have HNE := Lib.hid (own_ne (b5 := b5) HO3a.out (by have := HZU.out; rcases HD5.out with h | h <;> omega))
          have HB6L := Lib.hid (show b5 < (w5.setCell ⟨V + 1, 2, none⟩ (.slice (some ⟨b5, o5, none⟩) (withF ln x).length c5)).heap.size by rw [hz6]; exact HB5L.out)
          have HLN := Lib.hid (show (withF ln x).length = (withF ln x).length from rfl)
          have HLK := Lib.hid (show (withF ln x).length ≤ c5 from HC5.out)
          clear hz6
          have g0 := HK5.out.cell (i := 0) (u := .string (bs wd)) rfl
          have g1 := HK5.out.cell (i := 1) (u := .string (bs sc)) rfl
          have g2 := HK5.out.cell (i := 2) (u := .slice (some ⟨V, 0, none⟩) 1 1) rfl
          have f2 := HK5.out.hard (i := 2)
          by_cases hck : c = k + 1
          · have hnk : n = k + 1 := by omega
            have b0 := HK2.out.cell (i := 0) (u := .string (bs wd)) rfl
            have b1 := HK2.out.cell (i := 1) (u := .string (bs sc)) rfl
            have b2 := HK2.out.cell (i := 2) (u := .slice (some ⟨b5, o5, none⟩) (withF ln x).length c5) rfl
            have HOE := Lib.hid (show RowQ 37 ((w5.setCell ⟨V + 1, 2, none⟩ (.slice (some ⟨b5, o5, none⟩) (withF ln x).length c5)).alloc (.cells #[.string (bs wd), .string (bs sc), .slice (some ⟨b5, o5, none⟩) (withF ln x).length c5] 37)) u0.heap.size v1 qs1 from owns_below HO3.out (balloc (w5.setCell ⟨V + 1, 2, none⟩ (.slice (some ⟨b5, o5, none⟩) (withF ln x).length c5)) _))
            have HC2 := Lib.hid (show ∀ j u, ([((((wd, sc), (withF ln x)), .slice (some ⟨b5, o5, none⟩) (withF ln x).length c5) : PIt)].flatMap piC)[j]? = some u → ((w5.setCell ⟨V + 1, 2, none⟩ (.slice (some ⟨b5, o5, none⟩) (withF ln x).length c5)).alloc (.cells #[.string (bs wd), .string (bs sc), .slice (some ⟨b5, o5, none⟩) (withF ln x).length c5] 37)).cell? ⟨w5.heap.size, 0 + j, none⟩ = some u from fun j u hu => by
              rw [Nat.zero_add, show w5.heap.size = (w5.setCell ⟨V + 1, 2, none⟩ (.slice (some ⟨b5, o5, none⟩) (withF ln x).length c5)).heap.size by simp [World.setCell]]
              exact cell_fresh rfl (by simpa [piC] using hu))
            go_wp2_with (at_builtin; refine wpList_append_q rfl _ _ 27 37 rfl u0.heap.size i0 Tryz.underlying27 hi hz0 hz1 hz2 _ qs1 rfl HOE.out w5.heap.size 0 1 1 [((((wd, sc), (withF ln x)), .slice (some ⟨b5, o5, none⟩) (withF ln x).length c5) : PIt)] rfl rfl HC2.out (fun p hp => by rw [List.mem_singleton] at hp; subst hp; rfl) (by rw [hql1]; omega) (by have h9 := HZ2.out; rw [World.size_alloc]; omega) ?_)
            intro v3 w3 ho3 hb3 hg3 ha3
            have HO4 := Lib.hid (show RowQ 37 w3 u0.heap.size v3 (qs1 ++ [((((wd, sc), (withF ln x)), .slice (some ⟨b5, o5, none⟩) (withF ln x).length c5) : PIt)]) from ho3)
            have HB3 := Lib.hid (HW2.out.trans (((balloc (w5.setCell ⟨V + 1, 2, none⟩ (.slice (some ⟨b5, o5, none⟩) (withF ln x).length c5)) (.cells #[.string (bs wd), .string (bs sc), .slice (some ⟨b5, o5, none⟩) (withF ln x).length c5] 37)).mono HW2.out.size).trans (hb3.mono HZU.out)))
            have HZ3 := Lib.hid (show u0.heap.size ≤ w3.heap.size by have h8 := hb3.size; have h9 := HZ2.out; rw [World.size_alloc] at h8; omega)
            have HG3 := Lib.hid hg3
            have HA3 := Lib.hid ha3
            clear ho3 hb3 hg3 ha3 b0 b1 b2 g0 g1 g2 f2
            go_wp2_with (at_builtin; refine wpList_append_q rfl _ _ 27 37 rfl u0.heap.size i0 Tryz.underlying27 hi hz0 hz1 hz2 _ (qs1 ++ [((((wd, sc), (withF ln x)), .slice (some ⟨b5, o5, none⟩) (withF ln x).length c5) : PIt)]) rfl HO4.out b _ 0 _ [] rfl rfl (fun j u hu => by simp at hu) (fun p hp => by cases hp) (by rw [List.length_append, hql1, List.length_singleton]; omega) HZ3.out ?_)
            intro v4 w4 ho4 hb4 hg4 ha4
            have HO5 := Lib.hid (show RowQ 37 w4 u0.heap.size v4 (qs1 ++ [((((wd, sc), (withF ln x)), .slice (some ⟨b5, o5, none⟩) (withF ln x).length c5) : PIt)] ++ []) from by simpa using ho4)
            have HB4 := Lib.hid (HB3.out.trans (hb4.mono HZU.out))
            have HLF := Lib.hid (ints_two HI6.out (Nat.lt_succ_of_lt HB5L.out) HNE.out HG3.out HA3.out hg4)
            clear ho4 hb4 hg4 ha4
            go_wp2_with (fail)
            go_ret
            refine add_gives (r := addF (headM mkB) l (wd, sc) x) HO5.out ?_ (by rw [List.length_append, List.length_append, hql1, List.length_singleton]; simp; omega) HQ3.out (fun p hp => by cases hp) ⟨(some ⟨b5, o5, none⟩), c5, rfl, HLK.out, ⟨by show wd.length ≤ _; omega, by show sc.length ≤ _; omega, HLF.out⟩⟩ HB4.out
            have hA := addF_at (c := headM mkB) (g := (wd, sc)) (x := x) (l := l) (k := k) (by rw [HL.out]; omega) HA.out (fun (p : Post) hp => by rw [HPK.out] at hp; cases hp; rw [HCQ.out]; have := HG1.out; omega)
            rw [HPK.out] at hA
            simp only [HCQ.out] at hA
            rw [if_pos HG2.out, HEQ.out] at hA
            rw [hA, List.map_append, List.map_append, HQ1.out, List.drop_of_length_le (by rw [HL.out]; omega)]
            exact List.append_nil _
          · have hqn : k + 1 ≤ n := by omega
            obtain ⟨qs2, r1, r2, r3⟩ := postc_items (HX.out.drop hqn)
            have hql2 : qs2.length = n - (k + 1) := by have := congrArg List.length r1; rw [List.length_map, List.length_drop, HL.out] at this; omega
            have HR1 := Lib.hid r1
            have HR2 := Lib.hid r2
            have HR3 := Lib.hid r3
            clear r1 r2 r3
            have b0 := HK2.out.cell (i := 0) (u := .string (bs wd)) rfl
            have b1 := HK2.out.cell (i := 1) (u := .string (bs sc)) rfl
            have b2 := HK2.out.cell (i := 2) (u := .slice (some ⟨b5, o5, none⟩) (withF ln x).length c5) rfl
            have HOE := Lib.hid (show RowQ 37 ((w5.setCell ⟨V + 1, 2, none⟩ (.slice (some ⟨b5, o5, none⟩) (withF ln x).length c5)).alloc (.cells #[.string (bs wd), .string (bs sc), .slice (some ⟨b5, o5, none⟩) (withF ln x).length c5] 37)) u0.heap.size v1 qs1 from owns_below HO3.out (balloc (w5.setCell ⟨V + 1, 2, none⟩ (.slice (some ⟨b5, o5, none⟩) (withF ln x).length c5)) _))
            have HC2 := Lib.hid (show ∀ j u, ([((((wd, sc), (withF ln x)), .slice (some ⟨b5, o5, none⟩) (withF ln x).length c5) : PIt)].flatMap piC)[j]? = some u → ((w5.setCell ⟨V + 1, 2, none⟩ (.slice (some ⟨b5, o5, none⟩) (withF ln x).length c5)).alloc (.cells #[.string (bs wd), .string (bs sc), .slice (some ⟨b5, o5, none⟩) (withF ln x).length c5] 37)).cell? ⟨w5.heap.size, 0 + j, none⟩ = some u from fun j u hu => by
              rw [Nat.zero_add, show w5.heap.size = (w5.setCell ⟨V + 1, 2, none⟩ (.slice (some ⟨b5, o5, none⟩) (withF ln x).length c5)).heap.size by simp [World.setCell]]
              exact cell_fresh rfl (by simpa [piC] using hu))
            go_wp2_with (at_builtin; refine wpList_append_q rfl _ _ 27 37 rfl u0.heap.size i0 Tryz.underlying27 hi hz0 hz1 hz2 _ qs1 rfl HOE.out w5.heap.size 0 1 1 [((((wd, sc), (withF ln x)), .slice (some ⟨b5, o5, none⟩) (withF ln x).length c5) : PIt)] rfl rfl HC2.out (fun p hp => by rw [List.mem_singleton] at hp; subst hp; rfl) (by rw [hql1]; omega) (by have h9 := HZ2.out; rw [World.size_alloc]; omega) ?_)
            intro v3 w3 ho3 hb3 hg3 ha3
            have HO4 := Lib.hid (show RowQ 37 w3 u0.heap.size v3 (qs1 ++ [((((wd, sc), (withF ln x)), .slice (some ⟨b5, o5, none⟩) (withF ln x).length c5) : PIt)]) from ho3)
            have HB3 := Lib.hid (HW2.out.trans (((balloc (w5.setCell ⟨V + 1, 2, none⟩ (.slice (some ⟨b5, o5, none⟩) (withF ln x).length c5)) (.cells #[.string (bs wd), .string (bs sc), .slice (some ⟨b5, o5, none⟩) (withF ln x).length c5] 37)).mono HW2.out.size).trans (hb3.mono HZU.out)))
            have HZ3 := Lib.hid (show u0.heap.size ≤ w3.heap.size by have h8 := hb3.size; have h9 := HZ2.out; rw [World.size_alloc] at h8; omega)
            have HG3 := Lib.hid hg3
            have HA3 := Lib.hid ha3
            clear ho3 hb3 hg3 ha3 b0 b1 b2 g0 g1 g2 f2
            go_wp2_with (at_builtin; refine wpList_append_q rfl _ _ 27 37 rfl u0.heap.size i0 Tryz.underlying27 hi hz0 hz1 hz2 _ (qs1 ++ [((((wd, sc), (withF ln x)), .slice (some ⟨b5, o5, none⟩) (withF ln x).length c5) : PIt)]) rfl HO4.out b (off + (k + 1) * 3) (n - (k + 1)) (c - (k + 1)) qs2 rfl hql2 (fun j u hu => cell_keep HB3.out (HR2.out j u hu)) (fun p hp => by obtain ⟨_, _, he, _⟩ := HR3.out p hp; rw [he]; rfl) (by rw [List.length_append, hql1, List.length_singleton]; omega) HZ3.out ?_)
            intro v4 w4 ho4 hb4 hg4 ha4
            have HO5 := Lib.hid (show RowQ 37 w4 u0.heap.size v4 (qs1 ++ [((((wd, sc), (withF ln x)), .slice (some ⟨b5, o5, none⟩) (withF ln x).length c5) : PIt)] ++ qs2) from by simpa using ho4)
            have HB4 := Lib.hid (HB3.out.trans (hb4.mono HZU.out))
            have HLF := Lib.hid (ints_two HI6.out (Nat.lt_succ_of_lt HB5L.out) HNE.out HG3.out HA3.out hg4)
            clear ho4 hb4 hg4 ha4
            go_wp2_with (fail)
            go_ret
            refine add_gives (r := addF (headM mkB) l (wd, sc) x) HO5.out ?_ (by rw [List.length_append, List.length_append, hql1, List.length_singleton]; rw [hql2]; omega) HQ3.out HR3.out ⟨(some ⟨b5, o5, none⟩), c5, rfl, HLK.out, ⟨by show wd.length ≤ _; omega, by show sc.length ≤ _; omega, HLF.out⟩⟩ HB4.out
            have hA := addF_at (c := headM mkB) (g := (wd, sc)) (x := x) (l := l) (k := k) (by rw [HL.out]; omega) HA.out (fun (p : Post) hp => by rw [HPK.out] at hp; cases hp; rw [HCQ.out]; have := HG1.out; omega)
            rw [HPK.out] at hA
            simp only [HCQ.out] at hA
            rw [if_pos HG2.out, HEQ.out] at hA
            rw [hA, List.map_append, List.map_append, HQ1.out, HR1.out, List.append_assoc]
            rfl
        · have d2 : (cm == 0) = false := by rw [beq_eq_false_iff_ne]; exact g2
          have HG2 := Lib.hid g2
          clear g2
          go_wp2_with (fail)
          refine (wpIn_wide (n := 20)).1 ?_
          refine wpIn_region_planN (fun W' => Below w1.heap.size w1 W') (.take 0 <| .take 1 <| .take 2 <| .take 3 <| .take 4 <| .take 5 <| .take 6 <| .take 7 <| .take 8 <| .take 9 <| .one 10 <| .take 11 <| .take 12 .fin) (fun _ => trivial) (by kernel_rfl) (by kernel_rfl) (show Below _ w1 _ from bdrewN _ 1) ?_
          have HSX := Lib.hid (show Below w1.heap.size w1 w1.drew from bdrewN _ 1)
          iterate 5
            apply plan_take rfl rfl (by rfl)
            case hy =>
              rintro W' hb'
              clear hb'
              go_simp
              first | done | with_reducible rfl
            simp only [List.setIfInBounds_toArray, List.set_cons_zero, List.set_cons_succ]
          iterate 3
            apply plan_gd (j := 4) (t := 41) (b := true) (c := true) rfl rfl rfl rfl rfl (by simp) rfl
            case hy =>
              rintro W' hb'
              clear hb'
              go_simp
              first | done | with_reducible rfl
            simp only [List.setIfInBounds_toArray, List.set_cons_zero, List.set_cons_succ]
          iterate 2
            apply plan_gd (j := 4) (t := 41) (b := true) (c := true) rfl rfl rfl rfl rfl (by simp) rfl
            case hy =>
              rintro W' hb'
              have f0 := cell_keep hb' HE0.out
              have f1 := cell_keep hb' HE1.out
              have f2 := cell_keep hb' HE2.out
              have g0 := cell_keep hb' HP0.out
              have g1 := cell_keep hb' HP1.out
              have g2 := cell_keep hb' HP2.out
              clear hb'
              go_simp
              first | done | with_reducible rfl
            simp only [List.setIfInBounds_toArray, List.set_cons_zero, List.set_cons_succ]
          refine plan_one rfl ?_
          gi_wp2_with (fail)
          refine ⟨trivial, (callsIn_wide.2 (HCM.out _)).mono ?_⟩
          rintro e W9 ⟨rfl, hb9⟩
          have HSX := Lib.hid (bstep HSX.out hb9)
          clear hb9
          gi_wp2_with (fail)
          refine ⟨HSX.out, ?_⟩
          apply plan_gd (j := 4) (t := 41) (b := true) (c := true) rfl rfl rfl rfl rfl (by simp) rfl
          case hy =>
            rintro W' hb'
            clear hb'
            go_simp
            first | done | with_reducible rfl
          simp only [List.setIfInBounds_toArray, List.set_cons_zero, List.set_cons_succ]
          apply plan_take rfl rfl (by rfl)
          case hy =>
            rintro W' hb'
            clear hb'
            go_simp
            first | done | with_reducible rfl
          simp only [List.setIfInBounds_toArray, List.set_cons_zero, List.set_cons_succ]
          refine plan_fin ?_
          gi_wp2_with (fail)
          obtain ⟨w2, hw2⟩ : ∃ W, W9 = W := ⟨_, rfl⟩
          have HB12 := Lib.hid (show Below w1.heap.size w1 w2 by rw [← hw2]; exact HSX.out)
          rw [hw2]
          clear hw2
          have HO3a := Lib.hid (show RowQ 37 w2 u0.heap.size v1 qs1 from owns_below HO2.out HB12.out)
          have HB2 := Lib.hid (HB1.out.trans (HB12.out.mono HB1.out.size))
          have HK2a := Lib.hid (HK1.out.below HB12.out)
          have HL2 := Lib.hid (HL1.out.below HB12.out)
          have HW2a := Lib.hid (HU.out.trans (HB2.out.mono HZU.out))
          have HZ2a := Lib.hid (show u0.heap.size ≤ w2.heap.size from HB2.out.size)
          have HO3 := Lib.hid HO3a.out
          have HK2 := Lib.hid HK2a.out
          have HW2 := Lib.hid HW2a.out
          have HZ2 := Lib.hid HZ2a.out
          have HLN := Lib.hid (show [x].length = 1 from rfl)
          have HLK := Lib.hid (show ([x] : List Int).length ≤ 1 from Nat.le_refl _)
          have hqn : k ≤ n := by omega
          obtain ⟨qs2, r1, r2, r3⟩ := postc_items (HX.out.drop hqn)
          have hql2 : qs2.length = n - (k) := by have := congrArg List.length r1; rw [List.length_map, List.length_drop, HL.out] at this; omega
          have HR1 := Lib.hid r1
          have HR2 := Lib.hid r2
          have HR3 := Lib.hid r3
          clear r1 r2 r3
          have hck : ¬c = k := by omega
          have b0 := HK2.out.cell (i := 0) (u := .string (bs wd)) rfl
          have b1 := HK2.out.cell (i := 1) (u := .string (bs sc)) rfl
          have b2 := HK2.out.cell (i := 2) (u := .slice (some ⟨V, 0, none⟩) 1 1) rfl
          have HOE := Lib.hid (show RowQ 37 (w2.alloc (.cells #[.string (bs wd), .string (bs sc), .slice (some ⟨V, 0, none⟩) 1 1] 37)) u0.heap.size v1 qs1 from owns_below HO3.out (balloc w2 _))
          have HC2 := Lib.hid (show ∀ j u, ([((((wd, sc), [x]), .slice (some ⟨V, 0, none⟩) 1 1) : PIt)].flatMap piC)[j]? = some u → (w2.alloc (.cells #[.string (bs wd), .string (bs sc), .slice (some ⟨V, 0, none⟩) 1 1] 37)).cell? ⟨w2.heap.size, 0 + j, none⟩ = some u from fun j u hu => by
            rw [Nat.zero_add]
            exact cell_fresh rfl (by simpa [piC] using hu))
          go_wp2_with (at_builtin; refine wpList_append_q rfl _ _ 27 37 rfl u0.heap.size i0 Tryz.underlying27 hi hz0 hz1 hz2 _ qs1 rfl HOE.out w2.heap.size 0 1 1 [((((wd, sc), [x]), .slice (some ⟨V, 0, none⟩) 1 1) : PIt)] rfl rfl HC2.out (fun p hp => by rw [List.mem_singleton] at hp; subst hp; rfl) (by rw [hql1]; omega) (by have h9 := HZ2.out; rw [World.size_alloc]; omega) ?_)
          intro v3 w3 ho3 hb3 hg3 ha3
          have HO4 := Lib.hid (show RowQ 37 w3 u0.heap.size v3 (qs1 ++ [((((wd, sc), [x]), .slice (some ⟨V, 0, none⟩) 1 1) : PIt)]) from ho3)
          have HB3 := Lib.hid (HW2.out.trans (((balloc w2 (.cells #[.string (bs wd), .string (bs sc), .slice (some ⟨V, 0, none⟩) 1 1] 37)).mono HW2.out.size).trans (hb3.mono HZU.out)))
          have HZ3 := Lib.hid (show u0.heap.size ≤ w3.heap.size by have h8 := hb3.size; have h9 := HZ2.out; rw [World.size_alloc] at h8; omega)
          have HB3U := Lib.hid (HB2.out.trans (((balloc w2 (.cells #[.string (bs wd), .string (bs sc), .slice (some ⟨V, 0, none⟩) 1 1] 37)).mono HZ2.out).trans hb3))
          have HG3 := Lib.hid hg3
          have HA3 := Lib.hid ha3
          clear ho3 hb3 hg3 ha3 b0 b1 b2
          go_wp2_with (at_builtin; refine wpList_append_q rfl _ _ 27 37 rfl u0.heap.size i0 Tryz.underlying27 hi hz0 hz1 hz2 _ (qs1 ++ [((((wd, sc), [x]), .slice (some ⟨V, 0, none⟩) 1 1) : PIt)]) rfl HO4.out b (off + k * 3) (n - k) (c - k) qs2 rfl hql2 (fun j u hu => cell_keep HB3.out (HR2.out j u hu)) (fun p hp => by obtain ⟨_, _, he, _⟩ := HR3.out p hp; rw [he]; rfl) (by rw [List.length_append, hql1, List.length_singleton]; omega) HZ3.out ?_)
          intro v4 w4 ho4 hb4 hg4 ha4
          have HO5 := Lib.hid (show RowQ 37 w4 u0.heap.size v4 (qs1 ++ [((((wd, sc), [x]), .slice (some ⟨V, 0, none⟩) 1 1) : PIt)] ++ qs2) from by simpa using ho4)
          have HB4 := Lib.hid (HB3.out.trans (hb4.mono HZU.out))
          have HLF := Lib.hid (ints_new1 (HLU.out.below (HB3U.out.trans hb4)) HIX.out)
          clear ho4 hb4 hg4 ha4
          go_wp2_with (fail)
          go_ret
          refine add_gives (r := addF (headM mkB) l (wd, sc) x) HO5.out ?_ (by rw [List.length_append, List.length_append, hql1, List.length_singleton]; rw [hql2]; omega) HQ3.out HR3.out ⟨(some ⟨V, 0, none⟩), 1, rfl, HLK.out, ⟨by show wd.length ≤ _; omega, by show sc.length ≤ _; omega, HLF.out⟩⟩ HB4.out
          have hA := addF_at (c := headM mkB) (g := (wd, sc)) (x := x) (l := l) (k := k) (by rw [HL.out]; omega) HA.out (fun (p : Post) hp => by rw [HPK.out] at hp; cases hp; rw [HCQ.out]; have := HG1.out; omega)
          rw [HPK.out] at hA
          simp only [HCQ.out, if_neg HG2.out] at hA
          rw [hA, List.map_append, List.map_append, HQ1.out, HR1.out, List.append_assoc]
          rfl
    · obtain rfl : n = k := by omega
      go_wp2_with (fail)
      refine (wpIn_wide (n := 20)).1 ?_
      refine wpIn_region_planN (fun W' => Below wi.heap.size wi W') (.take 0 <| .take 1 <| .take 2 <| .take 3 <| .take 4 <| .take 5 <| .take 6 <| .take 7 <| .take 8 <| .take 9 <| .take 10 <| .take 11 <| .take 12 .fin) (fun _ => trivial) (by kernel_rfl) (by kernel_rfl) (show Below _ wi _ from bdrewN _ 1) ?_
      have HSX := Lib.hid (show Below wi.heap.size wi wi.drew from bdrewN _ 1)
      iterate 5
        apply plan_take rfl rfl (by rfl)
        case hy =>
          rintro W' hb'
          clear hb'
          go_simp
          first | done | with_reducible rfl
        simp only [List.setIfInBounds_toArray, List.set_cons_zero, List.set_cons_succ]
      iterate 7
        apply plan_no (j := 4) (t := 21) (b := false) (c := true) rfl rfl rfl rfl rfl (by simp) rfl
        simp only [List.setIfInBounds_toArray, List.set_cons_zero, List.set_cons_succ]
      apply plan_take rfl rfl (by rfl)
      case hy =>
        rintro W' hb'
        clear hb'
        go_simp
        first | done | with_reducible rfl
      simp only [List.setIfInBounds_toArray, List.set_cons_zero, List.set_cons_succ]
      refine plan_fin ?_
      gi_wp2_with (fail)
      obtain ⟨u0, hu0⟩ : ∃ W, wi.drew = W := ⟨_, rfl⟩
      have HRU := Lib.hid (show Below wi.heap.size wi u0 by rw [← hu0]; exact HSX.out)
      rw [hu0]
      clear hu0
      have HU := Lib.hid (show Below w.heap.size w u0 from HBR.out.trans (HRU.out.mono HBR.out.size))
      have HKU := Lib.hid (HKR.out.below HRU.out)
      have HLU := Lib.hid (HLR.out.below HRU.out)
      have HZU := Lib.hid (show w.heap.size ≤ u0.heap.size from HU.out.size)
      have HO1 := Lib.hid (show RowQ 37 (u0.alloc (.cells #[] 37)) u0.heap.size (.slice (some ⟨u0.heap.size, 0, none⟩) 0 0) [] from RowQ.empty _ u0 (Nat.le_refl _))
      have hkn : n ≤ n := by omega
      obtain ⟨qs1, q1, q2, q3⟩ := postc_items (HX.out.take hkn)
      have hql1 : qs1.length = n := by have := congrArg List.length q1; rw [List.length_map, List.length_take, HL.out] at this; omega
      have HQ1 := Lib.hid q1
      have HQ2 := Lib.hid q2
      have HQ3 := Lib.hid q3
      clear q1 q2 q3
      have s1 : (n : Int) ≤ (c : Int) := by omega
      have s2 : (n : Int) ≤ (n : Int) := by omega
      have z0 : (0 : Int) ≤ (n : Int) := by omega
      go_wp2_with (at_builtin; refine wpList_append_q rfl _ _ 27 37 rfl u0.heap.size i0 Tryz.underlying27 hi hz0 hz1 hz2 _ [] rfl HO1.out b off n c qs1 rfl hql1 (fun j u hu => cell_keep (HU.out.trans ((balloc u0 _).mono HZU.out)) (HQ2.out j u hu)) (fun p hp => by obtain ⟨_, _, he, _⟩ := HQ3.out p hp; rw [he]; rfl) (by simp; omega) (by simp) ?_)
      intro v1 w1 ho1 hb1 hg1 ha1
      have HO2 := Lib.hid (show RowQ 37 w1 u0.heap.size v1 qs1 from ho1)
      have HB1 := Lib.hid (show Below u0.heap.size u0 w1 from (balloc u0 _).trans hb1)
      have HK1 := Lib.hid (HKU.out.below HB1.out)
      have HL1 := Lib.hid (HLU.out.below HB1.out)
      clear ho1 hb1 hg1 ha1
      go_wp2_with (fail)
      refine (wpIn_wide (n := 20)).1 ?_
      refine wpIn_region_planN (fun W' => Below w1.heap.size w1 W') (.take 0 <| .take 1 <| .take 2 <| .take 3 <| .take 4 <| .take 5 <| .take 6 <| .take 7 <| .take 8 <| .take 9 <| .take 10 <| .take 11 <| .take 12 .fin) (fun _ => trivial) (by kernel_rfl) (by kernel_rfl) (show Below _ w1 _ from bdrewN _ 1) ?_
      have HSX := Lib.hid (show Below w1.heap.size w1 w1.drew from bdrewN _ 1)
      iterate 5
        apply plan_take rfl rfl (by rfl)
        case hy =>
          rintro W' hb'
          clear hb'
          go_simp
          first | done | with_reducible rfl
        simp only [List.setIfInBounds_toArray, List.set_cons_zero, List.set_cons_succ]
      iterate 7
        apply plan_no (j := 4) (t := 41) (b := false) (c := true) rfl rfl rfl rfl rfl (by simp) rfl
        simp only [List.setIfInBounds_toArray, List.set_cons_zero, List.set_cons_succ]
      apply plan_take rfl rfl (by rfl)
      case hy =>
        rintro W' hb'
        clear hb'
        go_simp
        first | done | with_reducible rfl
      simp only [List.setIfInBounds_toArray, List.set_cons_zero, List.set_cons_succ]
      refine plan_fin ?_
      gi_wp2_with (fail)
      obtain ⟨w2, hw2⟩ : ∃ W, w1.drew = W := ⟨_, rfl⟩
      have HB12 := Lib.hid (show Below w1.heap.size w1 w2 by rw [← hw2]; exact HSX.out)
      rw [hw2]
      clear hw2
      have HO3a := Lib.hid (show RowQ 37 w2 u0.heap.size v1 qs1 from owns_below HO2.out HB12.out)
      have HB2 := Lib.hid (HB1.out.trans (HB12.out.mono HB1.out.size))
      have HK2a := Lib.hid (HK1.out.below HB12.out)
      have HL2 := Lib.hid (HL1.out.below HB12.out)
      have HW2a := Lib.hid (HU.out.trans (HB2.out.mono HZU.out))
      have HZ2a := Lib.hid (show u0.heap.size ≤ w2.heap.size from HB2.out.size)
      have HO3 := Lib.hid HO3a.out
      have HK2 := Lib.hid HK2a.out
      have HW2 := Lib.hid HW2a.out
      have HZ2 := Lib.hid HZ2a.out
      have HLN := Lib.hid (show [x].length = 1 from rfl)
      have HLK := Lib.hid (show ([x] : List Int).length ≤ 1 from Nat.le_refl _)
      by_cases hck : c = n
      · have b0 := HK2.out.cell (i := 0) (u := .string (bs wd)) rfl
        have b1 := HK2.out.cell (i := 1) (u := .string (bs sc)) rfl
        have b2 := HK2.out.cell (i := 2) (u := .slice (some ⟨V, 0, none⟩) 1 1) rfl
        have HOE := Lib.hid (show RowQ 37 (w2.alloc (.cells #[.string (bs wd), .string (bs sc), .slice (some ⟨V, 0, none⟩) 1 1] 37)) u0.heap.size v1 qs1 from owns_below HO3.out (balloc w2 _))
        have HC2 := Lib.hid (show ∀ j u, ([((((wd, sc), [x]), .slice (some ⟨V, 0, none⟩) 1 1) : PIt)].flatMap piC)[j]? = some u → (w2.alloc (.cells #[.string (bs wd), .string (bs sc), .slice (some ⟨V, 0, none⟩) 1 1] 37)).cell? ⟨w2.heap.size, 0 + j, none⟩ = some u from fun j u hu => by
          rw [Nat.zero_add]
          exact cell_fresh rfl (by simpa [piC] using hu))
        go_wp2_with (at_builtin; refine wpList_append_q rfl _ _ 27 37 rfl u0.heap.size i0 Tryz.underlying27 hi hz0 hz1 hz2 _ qs1 rfl HOE.out w2.heap.size 0 1 1 [((((wd, sc), [x]), .slice (some ⟨V, 0, none⟩) 1 1) : PIt)] rfl rfl HC2.out (fun p hp => by rw [List.mem_singleton] at hp; subst hp; rfl) (by rw [hql1]; omega) (by have h9 := HZ2.out; rw [World.size_alloc]; omega) ?_)
        intro v3 w3 ho3 hb3 hg3 ha3
        have HO4 := Lib.hid (show RowQ 37 w3 u0.heap.size v3 (qs1 ++ [((((wd, sc), [x]), .slice (some ⟨V, 0, none⟩) 1 1) : PIt)]) from ho3)
        have HB3 := Lib.hid (HW2.out.trans (((balloc w2 (.cells #[.string (bs wd), .string (bs sc), .slice (some ⟨V, 0, none⟩) 1 1] 37)).mono HW2.out.size).trans (hb3.mono HZU.out)))
        have HZ3 := Lib.hid (show u0.heap.size ≤ w3.heap.size by have h8 := hb3.size; have h9 := HZ2.out; rw [World.size_alloc] at h8; omega)
        have HB3U := Lib.hid (HB2.out.trans (((balloc w2 (.cells #[.string (bs wd), .string (bs sc), .slice (some ⟨V, 0, none⟩) 1 1] 37)).mono HZ2.out).trans hb3))
        have HG3 := Lib.hid hg3
        have HA3 := Lib.hid ha3
        clear ho3 hb3 hg3 ha3 b0 b1 b2
        go_wp2_with (at_builtin; refine wpList_append_q rfl _ _ 27 37 rfl u0.heap.size i0 Tryz.underlying27 hi hz0 hz1 hz2 _ (qs1 ++ [((((wd, sc), [x]), .slice (some ⟨V, 0, none⟩) 1 1) : PIt)]) rfl HO4.out b _ 0 _ [] rfl rfl (fun j u hu => by simp at hu) (fun p hp => by cases hp) (by rw [List.length_append, hql1, List.length_singleton]; omega) HZ3.out ?_)
        intro v4 w4 ho4 hb4 hg4 ha4
        have HO5 := Lib.hid (show RowQ 37 w4 u0.heap.size v4 (qs1 ++ [((((wd, sc), [x]), .slice (some ⟨V, 0, none⟩) 1 1) : PIt)] ++ []) from by simpa using ho4)
        have HB4 := Lib.hid (HB3.out.trans (hb4.mono HZU.out))
        have HLF := Lib.hid (ints_new1 (HLU.out.below (HB3U.out.trans hb4)) HIX.out)
        clear ho4 hb4 hg4 ha4
        go_wp2_with (fail)
        go_ret
        refine add_gives (r := addF (headM mkB) l (wd, sc) x) HO5.out ?_ (by rw [List.length_append, List.length_append, hql1, List.length_singleton]; simp; omega) HQ3.out (fun p hp => by cases hp) ⟨(some ⟨V, 0, none⟩), 1, rfl, HLK.out, ⟨by show wd.length ≤ _; omega, by show sc.length ≤ _; omega, HLF.out⟩⟩ HB4.out
        have hA := addF_at (c := headM mkB) (g := (wd, sc)) (x := x) (l := l) (k := n) (by rw [HL.out]; omega) HA.out (fun (p : Post) hp => by rw [List.getElem?_eq_none (by rw [HL.out]; exact Nat.le_refl _)] at hp; cases hp)
        rw [List.getElem?_eq_none (by rw [HL.out]; exact Nat.le_refl _)] at hA
        simp only at hA
        rw [hA, List.map_append, List.map_append, HQ1.out, List.take_of_length_le (Nat.le_of_eq HL.out)]
        simp
      · have b0 := HK2.out.cell (i := 0) (u := .string (bs wd)) rfl
        have b1 := HK2.out.cell (i := 1) (u := .string (bs sc)) rfl
        have b2 := HK2.out.cell (i := 2) (u := .slice (some ⟨V, 0, none⟩) 1 1) rfl
        have HOE := Lib.hid (show RowQ 37 (w2.alloc (.cells #[.string (bs wd), .string (bs sc), .slice (some ⟨V, 0, none⟩) 1 1] 37)) u0.heap.size v1 qs1 from owns_below HO3.out (balloc w2 _))
        have HC2 := Lib.hid (show ∀ j u, ([((((wd, sc), [x]), .slice (some ⟨V, 0, none⟩) 1 1) : PIt)].flatMap piC)[j]? = some u → (w2.alloc (.cells #[.string (bs wd), .string (bs sc), .slice (some ⟨V, 0, none⟩) 1 1] 37)).cell? ⟨w2.heap.size, 0 + j, none⟩ = some u from fun j u hu => by
          rw [Nat.zero_add]
          exact cell_fresh rfl (by simpa [piC] using hu))
        go_wp2_with (at_builtin; refine wpList_append_q rfl _ _ 27 37 rfl u0.heap.size i0 Tryz.underlying27 hi hz0 hz1 hz2 _ qs1 rfl HOE.out w2.heap.size 0 1 1 [((((wd, sc), [x]), .slice (some ⟨V, 0, none⟩) 1 1) : PIt)] rfl rfl HC2.out (fun p hp => by rw [List.mem_singleton] at hp; subst hp; rfl) (by rw [hql1]; omega) (by have h9 := HZ2.out; rw [World.size_alloc]; omega) ?_)
        intro v3 w3 ho3 hb3 hg3 ha3
        have HO4 := Lib.hid (show RowQ 37 w3 u0.heap.size v3 (qs1 ++ [((((wd, sc), [x]), .slice (some ⟨V, 0, none⟩) 1 1) : PIt)]) from ho3)
        have HB3 := Lib.hid (HW2.out.trans (((balloc w2 (.cells #[.string (bs wd), .string (bs sc), .slice (some ⟨V, 0, none⟩) 1 1] 37)).mono HW2.out.size).trans (hb3.mono HZU.out)))
        have HZ3 := Lib.hid (show u0.heap.size ≤ w3.heap.size by have h8 := hb3.size; have h9 := HZ2.out; rw [World.size_alloc] at h8; omega)
        have HB3U := Lib.hid (HB2.out.trans (((balloc w2 (.cells #[.string (bs wd), .string (bs sc), .slice (some ⟨V, 0, none⟩) 1 1] 37)).mono HZ2.out).trans hb3))
        have HG3 := Lib.hid hg3
        have HA3 := Lib.hid ha3
        clear ho3 hb3 hg3 ha3 b0 b1 b2
        go_wp2_with (at_builtin; refine wpList_append_q rfl _ _ 27 37 rfl u0.heap.size i0 Tryz.underlying27 hi hz0 hz1 hz2 _ (qs1 ++ [((((wd, sc), [x]), .slice (some ⟨V, 0, none⟩) 1 1) : PIt)]) rfl HO4.out b _ 0 _ [] rfl rfl (fun j u hu => by simp at hu) (fun p hp => by cases hp) (by rw [List.length_append, hql1, List.length_singleton]; omega) HZ3.out ?_)
        intro v4 w4 ho4 hb4 hg4 ha4
        have HO5 := Lib.hid (show RowQ 37 w4 u0.heap.size v4 (qs1 ++ [((((wd, sc), [x]), .slice (some ⟨V, 0, none⟩) 1 1) : PIt)] ++ []) from by simpa using ho4)
        have HB4 := Lib.hid (HB3.out.trans (hb4.mono HZU.out))
        have HLF := Lib.hid (ints_new1 (HLU.out.below (HB3U.out.trans hb4)) HIX.out)
        clear ho4 hb4 hg4 ha4
        go_wp2_with (fail)
        go_ret
        refine add_gives (r := addF (headM mkB) l (wd, sc) x) HO5.out ?_ (by rw [List.length_append, List.length_append, hql1, List.length_singleton]; simp; omega) HQ3.out (fun p hp => by cases hp) ⟨(some ⟨V, 0, none⟩), 1, rfl, HLK.out, ⟨by show wd.length ≤ _; omega, by show sc.length ≤ _; omega, HLF.out⟩⟩ HB4.out
        have hA := addF_at (c := headM mkB) (g := (wd, sc)) (x := x) (l := l) (k := n) (by rw [HL.out]; omega) HA.out (fun (p : Post) hp => by rw [List.getElem?_eq_none (by rw [HL.out]; exact Nat.le_refl _)] at hp; cases hp)
        rw [List.getElem?_eq_none (by rw [HL.out]; exact Nat.le_refl _)] at hA
        simp only at hA
        rw [hA, List.map_append, List.map_append, HQ1.out, List.take_of_length_le (Nat.le_of_eq HL.out)]
        simp
end Go.Proofs.YtngdmpkoedpgdaaGreatDoor
