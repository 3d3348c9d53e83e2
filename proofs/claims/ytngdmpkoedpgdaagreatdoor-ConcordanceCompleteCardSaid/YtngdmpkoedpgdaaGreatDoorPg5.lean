/-
  postings: the index of the groups.
-/
import Derived.Test.YtngdmpkoedpgdaaGreatDoorSe5
import Derived.Test.YtngdmpkoedpgdaaGreatDoorPn
import Derived.Maps.AppendAt
namespace Go.Proofs.YtngdmpkoedpgdaaGreatDoor
open Go.RowKit Go.Ap Go.Shelf Go.Proofs

attribute [local go_sem] Oper.semAt_some bs_toList empty_toList bs_size bs_extract

theorem infoPost : (Tryz.prog.info? 37).map (fun i => (i.zero, i.size, i.bytes)) = some (some (.agg #[.string { data := #[] }, .string { data := #[] }, .slice none 0 0]), 3, 56) := by kernel_rfl
set_option maxRecDepth 100000 in
set_option maxHeartbeats 8000000 in
theorem postingsP (b base n : Nat) (g : Str × Str → List Int) (w : World) (hG : Grp tHd 3 w b base n g) (hbase : base ≤ w.heap.size) (hn : n ≤ 4096) (hgl : ∀ s, (g s).length ≤ 1000000) (es : List ((Str × Str) × Int)) (hes : ∀ h m, (h, m) ∈ es ↔ m ∈ g h) (hel : ∀ x ∈ es, x.1.1.length ≤ 4611686018427387903 ∧ x.1.2.length ≤ 4611686018427387903) :
    Calls Tryz.prog 65 #[.map (some b)] w fun e w' => (∃ u, e = .returned u ∧ GivesPo w' u (idxM mkB es)) ∧ Below base w w' := by
  obtain ⟨i0, hi, hz0, hz1, hz2⟩ := info_parts infoPost
  obtain ⟨f, hM, hF1, hF2, hF3⟩ := hG
  obtain ⟨W1, cnt0, hrg, hmw, hgr, hsz, hcn⟩ := hM.range
  replace hrg : (Instr.range 90 (.map (some b))).run Tryz.prog w = .ok (.pointer (some ⟨w.heap.size, 0, none⟩)) W1 := hrg
  have HGL := Lib.hid hgl
  have HF2 := Lib.hid hF2
  obtain ⟨r, hr⟩ : ∃ r, w.heap.size = r := ⟨_, rfl⟩
  rw [hr] at hrg hmw hsz
  have HR0 := Lib.hid (show RndP tHd 37 3 W1 b r base n f g (fun s => (f s).isSome) cnt0 (.slice none 0 0) [] none from
    { map := hmw, types := by decide, todo := fun s v _ hv => (hF2 s v hv).1.kept hgr (by cases h : v.ownBlock <;> simp), row := World.ownsRow_nil _ _ _ _, lines := fun p hp => absurd hp List.not_mem_nil, done := fun p hp => absurd hp List.not_mem_nil, once := by simp, all := fun s hs => .inl (Option.isSome_iff_ne_none.2 hs), now := fun _ h => absurd h (by simp), apart := hF3 })
  have HB0 := Lib.hid (show Below base w W1 from (Below.refl base w).grown hgr hbase fun k hk => by cases hk)
  have HRR := Lib.hid hr
  have HF1 := Lib.hid hF1
  have HES := Lib.hid hes
  have HEL := Lib.hid hel
  generalize hIX : idxM mkB es = ix
  have HIX := Lib.hid hIX
  clear hM hF1 hF2 hF3 hmw hgr hr hgl hes hel
  go_enter Tryz.func65, Tryz.ntmps65
  go_wp2_with (fail)
  try rw [HRR.out]
  clear hrg
  go_loopw [3] (fun ov wr => ∃ (left : Str × Str → Bool) (cnt : Nat) (I : List Go.Ap.Item), RndP tHd 37 3 wr b r base n f g left cnt ov I none ∧ Below base w wr ∧ I.length + cnt ≤ n) (fun _ wr => wr.rangeLeft b r)
  case atStart => exact ⟨_, _, _, HR0.out, HB0.out, by simpa using hcn⟩
  case round =>
    obtain ⟨wi, rfl⟩ : ∃ wi : World, wi = wr := ⟨_, rfl⟩
    obtain ⟨left, cnt, I, hR, hb, hIc⟩ := hrel
    have HB := Lib.hid hb
    have HR := Lib.hid hR
    rcases hR.map.next 0 with ⟨_, hall, hrun⟩ | ⟨s, v, W2, cnt', hfit, hls, hfs, hrun, hm2, hlt, hg2, hs2, hen⟩
    · replace hrun : (Instr.next (.pointer (some ⟨r, 0, none⟩)) false 0).run Tryz.prog wi = .ok (.tuple #[.bool false]) wi := hrun
      have HALL := Lib.hid hall
      have HIC := Lib.hid hIc
      clear hall hIc
      rcases rnd_end HR.out HALL.out HF1.out HF2.out HES.out HEL.out HGL.out (by have := HIC.out; omega) with ⟨rfl, hnil⟩ | ⟨gb, cap, k, d, rfl, hkI, hds, hH, hgl, hend⟩
      · have HS := Lib.hid (fun w => sortPosts0 none 0 (.func (.func 127) #[] #[]) w)
        rw [hIX] at hnil
        subst hnil
        clear hR hb
        go_wp2_with (fail)
        refine (HS.out _).mono ?_
        rintro e W9 ⟨rfl, rfl⟩
        go_wp2_with (fail)
        go_ret
        exact ⟨⟨_, rfl, GivesPo.nil _⟩, HB.out⟩
      · have HS := Lib.hid (sortPosts gb k cap d wi hds hH hgl (by have := HIC.out; omega))
        have HE := Lib.hid hend
        clear hR hb hkI hds hH hgl hend
        go_wp2_with (fail)
        refine HS.out.mono ?_
        rintro e W9 ⟨rfl, d', m, os, hp, hs, rfl⟩
        have HQ := Lib.hid (HE.out d' m os (by exact hp) (by exact hs))
        clear hp hs
        go_wp2_with (fail)
        go_ret
        exact ⟨⟨_, rfl, HIX.out ▸ HQ.out.1⟩, HQ.out.2 HB.out hbase⟩
    · replace hrun : (Instr.next (.pointer (some ⟨r, 0, none⟩)) false 0).run Tryz.prog wi = .ok (.tuple #[.bool true, .agg #[.string (bs s.1), .string (bs s.2)], v]) W2 := hrun
      replace hen : (Instr.entry (.pointer (some ⟨r, 0, none⟩))).run Tryz.prog W2 = .ok (.tuple #[.agg #[.string (bs s.1), .string (bs s.2)], v]) W2 := hen
      have hle := hR.map.left_eq
      have HN := Lib.hid (hR.next hls hm2 hg2)
      have hv0 := hR.todo s v hls hfs
      have HV2 := Lib.hid (show OwnI 3 W2 base v (g s) from hv0.kept hg2 (.inr fun he => hR.map.iter hv0.1 he.symm))
      have HNE := Lib.hid (HF2.out s v hfs).2
      have HB2 := Lib.hid (show Below base w W2 from hb.grown hg2 (by have := hb.size; omega) fun k hk => (by
        cases hk
        have := HRR.out
        omega))
      have HFS := Lib.hid hfs
      have HLT := Lib.hid hlt
      obtain ⟨X, hX⟩ : ∃ X, W2.heap.size = X := ⟨_, rfl⟩
      have HA := Lib.hid (balloc W2 (.cells #[.string (bs s.1), .string (bs s.2)] 92))
      have K := Lib.hid (show BlkK (W2.alloc (.cells #[.string (bs s.1), .string (bs s.2)] 92)) X #[.string (bs s.1), .string (bs s.2)] 92 by rw [← hX]; exact BlkK.new W2 _ _)
      obtain ⟨WA, hWA⟩ : ∃ W, W2.alloc (.cells #[.string (bs s.1), .string (bs s.2)] 92) = W := ⟨_, rfl⟩
      rw [hWA] at HA K
      have hva := HV2.out.below HA.out
      obtain ⟨a, c, rfl, hsort⟩ := sortG base v (g s) WA hva (HGL.out s) HNE.out
      have HVA := Lib.hid hva
      have HS := Lib.hid hsort
      clear hR hb hfit hls hm2 hg2 hs2 hv0 hfs hlt hva hsort
      go_wp2_with (fail)
      refine HS.out.mono ?_
      rintro e W3 ⟨rfl, ho3, hg3⟩
      have R3 := Lib.hid ((HN.out.below HA.out).touch HFS.out HVA.out hg3)
      have K3 := Lib.hid (K.out.keptE hg3 (K.out.apart HVA.out.1 (by decide)))
      have HO3 := Lib.hid ho3
      have hp := Go.Ap.sortI_perm (g s)
      obtain ⟨a', c', he, hcomp⟩ := compG base _ (Go.Ap.sortI (g s)) W3.drew (ho3.below (bdrewN W3 1)) (by rw [hp.length_eq]; exact HGL.out s) (fun h0 => HNE.out (List.eq_nil_of_length_eq_zero (by rw [← hp.length_eq, h0]; rfl))) (Go.Ap.sortI_asc _)
      rw [hp.length_eq] at he hcomp
      cases he
      have HC := Lib.hid hcomp
      have HB3 := Lib.hid (show Below base w W3 from (HB2.out.trans (HA.out.mono (by have := HB2.out.size; omega))).grown hg3 (by have h1 := HA.out.size; have h2 := HB2.out.size; omega) fun k hk => (HVA.out.1.lt k hk).1)
      clear ho3 hg3 hcomp hp
      go_wp2_with (fail)
      refine (wpIn_wide (n := 20)).1 ?_
      refine wpIn_region_planN (fun W' => BlkK W' X #[.string (bs s.1), .string (bs s.2)] 92) (.take 0 <| .take 1 <| .take 2 <| .take 3 <| .take 4 <| .take 5 <| .one 6 <| .take 7 <| .one 8 <| .one 9 <| .take 10 <| .fin) (fun _ => trivial) (by kernel_rfl) (by kernel_rfl) (show BlkK _ X _ _ from K3.out.below (bdrewN _ 1)) ?_
      apply plan_take rfl rfl (by rfl)
      case hy =>
        rintro W' hb'
        clear hb'
        go_simp
        first | done | with_reducible rfl
      simp only [List.setIfInBounds_toArray, List.set_cons_zero, List.set_cons_succ]
      apply plan_take rfl rfl (by rfl)
      case hy =>
        rintro W' hb'
        clear hb'
        go_simp
        first | done | with_reducible rfl
      simp only [List.setIfInBounds_toArray, List.set_cons_zero, List.set_cons_succ]
      apply plan_take rfl rfl (by rfl)
      case hy =>
        rintro W' hb'
        have x0 : W'.cell? ⟨X, 0, none⟩ = some (.string (bs s.1)) := hb'.cell (i := 0) rfl
        clear hb'
        go_simp
        first | done | with_reducible rfl
      simp only [List.setIfInBounds_toArray, List.set_cons_zero, List.set_cons_succ]
      apply plan_take rfl rfl (by rfl)
      case hy =>
        rintro W' hb'
        clear hb'
        go_simp
        first | done | with_reducible rfl
      simp only [List.setIfInBounds_toArray, List.set_cons_zero, List.set_cons_succ]
      apply plan_take rfl rfl (by rfl)
      case hy =>
        rintro W' hb'
        have x1 : W'.cell? ⟨X, 1, none⟩ = some (.string (bs s.2)) := hb'.cell (i := 1) rfl
        clear hb'
        go_simp
        first | done | with_reducible rfl
      simp only [List.setIfInBounds_toArray, List.set_cons_zero, List.set_cons_succ]
      apply plan_take rfl rfl (by rfl)
      case hy =>
        rintro W' hb'
        clear hb'
        go_simp
        first | done | with_reducible rfl
      simp only [List.setIfInBounds_toArray, List.set_cons_zero, List.set_cons_succ]
      refine plan_one rfl ?_
      gi_wp2_with (fail)
      refine ⟨trivial, (callsIn_wide.2 HC.out).mono ?_⟩
      rintro e W4 ⟨u, rfl, ho4, hg4, hub⟩
      have R4 := Lib.hid ((R3.out.below (bdrewN W3 1)).touch HFS.out (HO3.out.below (bdrewN W3 1)) hg4)
      have K4 := Lib.hid ((K3.out.below (bdrewN W3 1)).keptE hg4 ((K3.out.below (bdrewN W3 1)).apart (HO3.out.below (bdrewN W3 1)).1 (by decide)))
      have HO4 := Lib.hid ho4
      have HUB := Lib.hid hub
      have HB4 := Lib.hid (show Below base w W4 from (HB3.out.trans ((bdrewN W3 1).mono (by have := HB3.out.size; omega))).grown hg4 (by have := HB3.out.size; show base ≤ W3.heap.size; omega) fun k hk => ((HO3.out.below (bdrewN W3 1)).1.lt k hk).1)
      have hsz4 : base ≤ W4.heap.size := by have := HB4.out.size; omega
      have hcl : (Lib.compact (Go.Ap.sortI (g s))).length ≤ 4611686018427387903 := by
        have h1 : (Lib.compact (Go.Ap.sortI (g s))).length ≤ (Go.Ap.sortI (g s)).length := by
          unfold Lib.compact Lib.compactUpTo
          rw [List.length_map]
          exact Nat.le_trans (List.length_filter_le _ _) (by simp)
        have h2 := (Go.Ap.sortI_perm (g s)).length_eq
        have h3 := HGL.out s
        omega
      obtain ⟨a5, k5, rfl, _⟩ := ho4.ints hcl
      obtain ⟨m5, hm5⟩ : ∃ m, (Lib.compact (Go.Ap.sortI (g s))).length = m := ⟨_, rfl⟩
      rw [hm5] at HUB HO4
      simp only [hm5]
      clear ho4 hg4 hub
      gi_wp2_with (fail)
      refine ⟨K4.out, ?_⟩
      apply plan_take rfl rfl (by rfl)
      case hy =>
        rintro W' hb'
        clear hb'
        go_simp
        first | done | with_reducible rfl
      simp only [List.setIfInBounds_toArray, List.set_cons_zero, List.set_cons_succ]
      refine plan_one rfl ?_
      gi_wp2_with (fail)
      refine ⟨K4.out.allocK _, ?_⟩
      have HNW := Lib.hid (show ∀ (j : Nat) (u : Value), [.string (bs s.1), .string (bs s.2), .slice a5 m5 k5][j]? = some u → (W4.alloc (.cells #[.string (bs s.1), .string (bs s.2), .slice a5 m5 k5] 37)).cell? ((⟨W4.heap.size, 0, none⟩ : Addr).add j) = some u from World.news_of_block (cs := #[.string (bs s.1), .string (bs s.2), .slice a5 m5 k5]) (heap_fresh rfl))
      have HROW := Lib.hid R4.out.row
      refine plan_one rfl ?_
      refine wpListIn_append_own _ rfl _ _ 27 rfl base 37 i0 (.agg #[.string { data := #[] }, .string { data := #[] }, .slice none 0 0]) 3 56 Tryz.underlying27 hi hz0 hz1 hz2 rfl (by decide) _ _ _ rfl (HROW.out.alloc _) ⟨W4.heap.size, 0, none⟩ 1 1 [.string (bs s.1), .string (bs s.2), .slice a5 m5 k5] rfl rfl HNW.out (by simp [Value.oneCell']) (by unfold maxLen; omega) (by omega) (by simp; omega) ?_
      intro v' w9 hown' hgr' _
      have HW9 := Lib.hid hown'
      have HG9 := Lib.hid hgr'
      clear hown' hgr'
      have HG := Lib.hid (show (W4.alloc (.cells #[.string (bs s.1), .string (bs s.2), .slice a5 m5 k5] 37)).grownBy w9 u3.ownBlock from HG9.out)
      have RA := Lib.hid (R4.out.below (balloc W4 (.cells #[.string (bs s.1), .string (bs s.2), .slice a5 m5 k5] 37)))
      have K9 := Lib.hid ((K4.out.allocK (.cells #[.string (bs s.1), .string (bs s.2), .slice a5 m5 k5] 37)).keptE HG.out ((K4.out.allocK (.cells #[.string (bs s.1), .string (bs s.2), .slice a5 m5 k5] 37)).apart RA.out.row (by decide)))
      have R9 := Lib.hid (RA.out.push HFS.out (HO4.out.below (balloc W4 _)) HUB.out HW9.out HG.out)
      have HB9 := Lib.hid (show Below base w w9 from (HB4.out.alloc hsz4 _).grown HG.out (by simp; omega) fun k hk => (RA.out.row.lt k hk).1)
      have hle9 := R9.out.map.left_eq
      have hlt9 := HLT.out
      clear HW9 HG9
      rw [put_some (d := 24) rfl]
      simp only [List.setIfInBounds_toArray, List.set_cons_zero, List.set_cons_succ]
      gi_wp2_with (fail)
      refine ⟨K9.out, ?_⟩
      apply plan_take rfl rfl (by rfl)
      case hy =>
        rintro W' hb'
        clear hb'
        go_simp
        first | done | with_reducible rfl
      simp only [List.setIfInBounds_toArray, List.set_cons_zero, List.set_cons_succ]
      refine plan_fin ?_
      gi_wp2_with (fail)
      go_wp2_with (fail)
      go_roundw
      case rel => exact ⟨_, cnt', _, R9.out, HB9.out, by rw [List.length_append, List.length_singleton]; omega⟩
      case measure => omega
end Go.Proofs.YtngdmpkoedpgdaaGreatDoor
