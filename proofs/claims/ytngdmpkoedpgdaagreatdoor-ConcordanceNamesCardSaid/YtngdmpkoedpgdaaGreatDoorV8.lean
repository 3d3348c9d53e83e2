/-
  The law of the index of names.
-/
import Derived.Test.YtngdmpkoedpgdaaGreatDoorNa5
import Derived.Test.YtngdmpkoedpgdaaGreatDoorV3
import Derived.Test.YtngdmpkoedpgdaaGreatDoorRc
import Derived.Test.YtngdmpkoedpgdaaGreatDoorQ7
namespace Go.Ap
open Go Go.RowKit
/-- the places that the law wants after i names -/
def wantN (ps : List (Str × Int)) (s : Str × Int) : Option Value := if s.1 ≠ [] ∧ s ∈ ps then some (.bool true) else none
theorem wantN_snoc {ps : List (Str × Int)} {i : Nat} {p : Str × Int} (h : ps[i]? = some p) : wantN (ps.take (i + 1)) = if p.1 = [] then wantN (ps.take i) else updV (wantN (ps.take i)) p (.bool true) := by
  funext s
  rw [take_snoc h]
  unfold wantN
  by_cases hw : p.1 = []
  · rw [if_pos hw]
    by_cases hs : s = p
    · subst hs
      simp [hw]
    · simp [hs]
  · rw [if_neg hw]
    unfold updV
    by_cases hs : s = p
    · subst hs
      simp [hw]
    · rw [if_neg hs]
      simp [hs]
def wantNK (ps : List (Str × Int)) : List (Str × Int) := onceL (ps.filter fun p => decide (p.1 ≠ []))
theorem wantNK_mem {ps : List (Str × Int)} {s : Str × Int} : wantN ps s ≠ none ↔ s ∈ wantNK ps := by
  unfold wantN wantNK
  rw [onceL_mem, List.mem_filter]
  by_cases h : s.1 ≠ [] ∧ s ∈ ps
  · rw [if_pos h]
    simp [h.1, h.2]
  · rw [if_neg h]
    constructor
    · intro e; exact absurd rfl e
    · rintro ⟨h1, h2⟩
      exact absurd ⟨of_decide_eq_true h2, h1⟩ h
theorem wantNK_count (sec : Str) (ps : List (Str × Int)) : countL (idxM mkB (namesEs sec ps)) = (wantNK ps).length := by
  rw [count_idx (ks := (wantNK ps).map fun s => ((s.1, sec), s.2)), List.length_map]
  · rw [List.Nodup, List.pairwise_map]
    exact (onceL_nodup _).imp fun hne e => hne (by
      have e1 := (Prod.mk.inj (Prod.mk.inj e).1).1
      have e2 := (Prod.mk.inj e).2
      exact Prod.ext e1 e2)
  · intro x
    rw [namesEs_mem, List.mem_map]
    unfold wantNK
    constructor
    · rintro ⟨s, hs, rfl⟩
      rw [onceL_mem, List.mem_filter] at hs
      exact ⟨s, hs.1, of_decide_eq_true hs.2, rfl⟩
    · rintro ⟨p, hp, hw, rfl⟩
      exact ⟨p, by rw [onceL_mem, List.mem_filter]; exact ⟨hp, decide_eq_true hw⟩, rfl⟩
def badN (s : Str) : Bool := decide (s ≠ []) && !nameB s
theorem scanN_ok : ∀ {ps : List (Str × Int)}, (∀ p ∈ ps, lineOk p.2 = true) → scanN ps = if (ps.any fun p => badN p.1) = true then 14 else 0
  | [], _ => rfl
  | p :: r, h => by
    have ih := scanN_ok fun q hq => h q (List.mem_cons_of_mem _ hq)
    have hp := h p (List.mem_cons_self ..)
    unfold scanN
    rw [List.any_cons]
    by_cases hb : p.1 ≠ [] ∧ nameB p.1 = false
    · rw [if_pos hb]
      have : badN p.1 = true := by unfold badN; simp [hb.1, hb.2]
      rw [this]
      rfl
    · rw [if_neg hb, hp]
      have : badN p.1 = false := by
        unfold badN
        by_cases h0 : p.1 = []
        · simp [h0]
        · have : nameB p.1 = true := by
            cases hn : nameB p.1
            · exact absurd ⟨h0, hn⟩ hb
            · rfl
          simp [this]
      rw [this, if_neg (by simp), Bool.false_or]
      exact ih
theorem any_zip {q : Str → Bool} : ∀ {ns : List Str} {ls : List Int}, ns.length = ls.length → (ns.zip ls).any (fun p => q p.1) = ns.any q
  | [], _, _ => by simp
  | n :: ns, [], h => by simp at h
  | n :: ns, l :: ls, h => by
    rw [List.zip_cons_cons, List.any_cons, List.any_cons, any_zip (by simpa using h)]
end Go.Ap
namespace Go.Proofs.YtngdmpkoedpgdaaGreatDoor
open Go.RowKit Go.Ap Go.Shelf Go.Proofs

attribute [local go_sem] Oper.semAt_some bs_toList empty_toList bs_size bs_extract
theorem nlong40 (t : Wrd) (w : World) (hs : t.name.length ≤ 281474976710656) : Calls Tryz.prog 40 #[.agg (wrdC t)] w fun e w' => e = .returned (.bool (decide (70 < t.name.length))) ∧ Below w.heap.size w w' := by
  unfold wrdC
  obtain ⟨nm, hnm⟩ : ∃ nm, t.name = nm := ⟨_, rfl⟩
  rw [hnm] at hs ⊢
  by_cases h : 70 < nm.length
  · have d1 : decide ((70 : Int) < (nm.length : Int)) = true := by rw [decide_eq_true_eq]; omega
    rw [decide_eq_true h]
    clear h
    go_enter Tryz.func40, Tryz.ntmps40
    go_wp2_with (fail)
    go_ret
    exact ⟨rfl, balloc _ _⟩
  · have d1 : decide ((70 : Int) < (nm.length : Int)) = false := by rw [decide_eq_false_iff_not]; omega
    rw [decide_eq_false h]
    clear h
    go_enter Tryz.func40, Tryz.ntmps40
    go_wp2_with (fail)
    go_ret
    exact ⟨rfl, balloc _ _⟩
theorem nbad42 (t : Wrd) (w : World) (hs : t.name.length ≤ 281474976710656) : Calls Tryz.prog 42 #[.agg (wrdC t)] w fun e w' => e = .returned (.bool (badN t.name)) ∧ Below w.heap.size w w' := by
  unfold wrdC
  obtain ⟨nm, hnm⟩ : ∃ nm, t.name = nm := ⟨_, rfl⟩
  rw [hnm] at hs ⊢
  unfold badN
  have HN := Lib.hid (fun W => nameR nm W (by omega))
  by_cases h : nm = []
  · subst h
    clear HN
    go_enter Tryz.func42, Tryz.ntmps42
    go_wp2_with (fail)
    go_ret
    exact ⟨rfl, balloc _ _⟩
  · have n1 : (nm == []) = false := by rw [beq_eq_false_iff_ne]; exact h
    have n2 : nm.isEmpty = false := by simpa using h
    have n3 : (nm != []) = true := by rw [bne_iff_ne]; exact h
    have e1 : (decide (nm ≠ []) && !nameB nm) = !nameB nm := by simp [h]
    rw [e1]
    generalize nameB nm = v at *
    have HB := Lib.hid (balloc w (.cells #[.string (bs t.text), .int .i64 t.col, .int .i64 t.unit, .int .i64 t.dec, .bool t.joined, .bool t.verse, .string (bs nm)] 74))
    clear h e1
    go_enter Tryz.func42, Tryz.ntmps42
    go_wp2_with (fail)
    refine (HN.out _).mono ?_
    rintro e w1 ⟨rfl, hb⟩
    go_wp2_with (fail)
    go_ret
    exact ⟨by simp, bstep HB.out hb⟩
set_option maxRecDepth 100000 in
set_option maxHeartbeats 4000000 in
theorem law8 (x : Coll) (ax : Option Addr) (nx cx : Nat) (ay : Option Addr) (ny cy : Nat) (az : Option Addr) (nz cz : Nat) (a1 : Option Addr) (n1 c1 : Nat) (bsl : List Wrd) (a2 : Option Addr) (n2 c2 : Nat) (us : List Int) (w : World) (hx : CollM w ax ay az nx ny nz x) (hcx : nx ≤ cx)
    (h1 : Wrds w a1 n1 bsl) (h2 : Sl U8R w a2 n2 us) (ht : ET w) (hev : EV w) :
    Calls Tryz.prog 8 #[collV x.sec ax nx cx ay ny cy az nz cz, .slice a1 n1 c1, .slice a2 n2 c2] w fun e w' => e = .returned (.bool true) ∧ Below w.heap.size w w' := by
  obtain ⟨i0, hi, hz0, hz1, hz2⟩ := info_parts infoInt5
  have HA := Lib.hid (fun W (hb : Below w.heap.size w W) => awake13 W (ht.mono (Nat.le_refl _) hb))
  have HGR := Lib.hid (fun W (hb : Below w.heap.size w W) => greatR x ax nx cx ay ny cy az nz cz W (hx.mono (Nat.le_refl _) hb))
  have HCR := Lib.hid (fun W (hb : Below w.heap.size w W) => collR x ax nx cx ay ny cy az nz cz W (hx.mono (Nat.le_refl _) hb))
  have HLO := Lib.hid (fun W (hb : Below w.heap.size w W) => contWrd (fun t => decide (70 < t.name.length)) a1 n1 c1 bsl 40 #[] W (h1.mono (Nat.le_refl _) hb) (enters_of Tryz.func40 (by kernel_rfl) rfl) (fun t _ W' hs _ => nlong40 t W' hs))
  have HBD := Lib.hid (fun W (hb : Below w.heap.size w W) => contWrd (fun t => badN t.name) a1 n1 c1 bsl 42 #[] W (h1.mono (Nat.le_refl _) hb) (enters_of Tryz.func42 (by kernel_rfl) rfl) (fun t _ W' hs _ => nbad42 t W' hs))
  have HNM := Lib.hid (fun (ls : List Int) a n c W (hb : Below w.heap.size w W) (hl : Ints W a n ls) => namesP x ax nx cx ay ny cy az nz cz bsl ls a1 n1 c1 a n c W (hx.mono (Nat.le_refl _) hb) hcx (hev.mono (Nat.le_refl _) hb) (h1.mono (Nat.le_refl _) hb) hl)
  have HX1 := Lib.hid h1
  have HX2 := Lib.hid h2
  have HSX := Lib.hid hx.sec
  clear hx hcx hev
  unfold collV at *
  obtain ⟨sec, hsc⟩ : ∃ s, x.sec = s := ⟨_, rfl⟩
  obtain ⟨vc, hvc⟩ : ∃ v, collC x = v := ⟨_, rfl⟩
  rw [hsc] at HGR HCR HNM HSX ⊢
  rw [hvc] at HCR HNM
  have HB0 := Lib.hid (balloc w (.cells #[.string (bs sec), .slice ax nx cx, .slice ay ny cy, .slice az nz cz] 68))
  have HK0 := Lib.hid (BlkK.new w #[.string (bs sec), .slice ax nx cx, .slice ay ny cy, .slice az nz cz] 68)
  have q0 := HK0.out.cell (i := 0) (u := .string (bs sec)) rfl
  have q1 := HK0.out.cell (i := 1) (u := .slice ax nx cx) rfl
  have q2 := HK0.out.cell (i := 2) (u := .slice ay ny cy) rfl
  have q3 := HK0.out.cell (i := 3) (u := .slice az nz cz) rfl
  have hl1 := h1.len
  have hl2 := h2.len
  have hs1 := h1.small
  have hs2 := h2.small
  have HL1 := Lib.hid hl1
  have HL2 := Lib.hid hl2
  have HU := Lib.hid (show ∀ u ∈ us, 0 ≤ u ∧ u ≤ 255 from fun u hu => by
    obtain ⟨k, hk⟩ := List.getElem?_of_mem hu
    obtain ⟨_, _, _, _, _, hr⟩ := h2.cells k u hk
    exact hr.2)
  clear h1 h2 hsc hvc ht
  go_enter Tryz.func8, Tryz.ntmps8
  go_wp2_with (fail)
  refine (HGR.out _ HB0.out).mono ?_
  rintro e W1 ⟨⟨gb, rfl, hgb⟩, hb1⟩
  have HBY := Lib.hid hb1
  have HBX := Lib.hid (bstep HB0.out hb1)
  clear hb1
  cases gb
  rotate_left
  · clear q0 q1 q2 q3
    go_wp2_with (fail)
    refine (HA.out _ HBX.out).mono ?_
    rintro e W9 ⟨rfl, hb9⟩
    have HBX := Lib.hid (bstep HBX.out hb9)
    clear hb9
    go_wp2_with (fail)
    go_ret
    exact ⟨rfl, HBX.out⟩
  have HK1 := Lib.hid (HK0.out.below (show Below (w.alloc (.cells #[.string (bs sec), .slice ax nx cx, .slice ay ny cy, .slice az nz cz] 68)).heap.size (w.alloc (.cells #[.string (bs sec), .slice ax nx cx, .slice ay ny cy, .slice az nz cz] 68)) W1 from HBY.out))
  have r0 := HK1.out.cell (i := 0) (u := .string (bs sec)) rfl
  have r1 := HK1.out.cell (i := 1) (u := .slice ax nx cx) rfl
  have r2 := HK1.out.cell (i := 2) (u := .slice ay ny cy) rfl
  have r3 := HK1.out.cell (i := 3) (u := .slice az nz cz) rfl
  clear q0 q1 q2 q3
  go_wp2_with (fail)
  refine (HCR.out _ HBX.out).mono ?_
  rintro e W2 ⟨rfl, hb2⟩
  have HBX := Lib.hid (bstep HBX.out hb2)
  have HK2 := Lib.hid (HK1.out.below hb2)
  clear hb2 r0 r1 r2 r3
  by_cases hv : vc = 0
  rotate_left
  · have d0 : (vc != 0) = true := by rw [bne_iff_ne]; exact hv
    clear hv
    go_wp2_with (fail)
    refine (HA.out _ HBX.out).mono ?_
    rintro e W9 ⟨rfl, hb9⟩
    have HBX := Lib.hid (bstep HBX.out hb9)
    clear hb9
    go_wp2_with (fail)
    go_ret
    exact ⟨rfl, HBX.out⟩
  subst hv
  by_cases g1 : 12 < n1
  · have d1 : decide ((12 : Int) < (n1 : Int)) = true := by rw [decide_eq_true_eq]; omega
    clear g1
    go_wp2_with (fail)
    refine (HA.out _ HBX.out).mono ?_
    rintro e W9 ⟨rfl, hb9⟩
    have HBX := Lib.hid (bstep HBX.out hb9)
    clear hb9
    go_wp2_with (fail)
    go_ret
    exact ⟨rfl, HBX.out⟩
  have d1 : decide ((12 : Int) < (n1 : Int)) = false := by rw [decide_eq_false_iff_not]; omega
  by_cases g2 : n2 = n1
  rotate_left
  · have d2 : ((n1 : Int) != (n2 : Int)) = true := by rw [bne_iff_ne]; omega
    clear g1 g2
    go_wp2_with (fail)
    refine (HA.out _ HBX.out).mono ?_
    rintro e W9 ⟨rfl, hb9⟩
    have HBX := Lib.hid (bstep HBX.out hb9)
    clear hb9
    go_wp2_with (fail)
    go_ret
    exact ⟨rfl, HBX.out⟩
  subst g2
  have d2 : ((n2 : Int) != (n2 : Int)) = false := by simp
  have hn12 : n2 ≤ 12 := by omega
  have M1 := Lib.hid hn12
  clear g1 hl1 hl2
  go_wp2_with (fail)
  refine (HLO.out _ HBX.out).mono ?_
  rintro e W3 ⟨rfl, hb3⟩
  have HBX := Lib.hid (bstep HBX.out hb3)
  have HK3 := Lib.hid (HK2.out.below hb3)
  clear hb3
  cases hlg : bsl.any fun t => decide (70 < t.name.length)
  rotate_left
  · clear hlg
    go_wp2_with (fail)
    refine (HA.out _ HBX.out).mono ?_
    rintro e W9 ⟨rfl, hb9⟩
    have HBX := Lib.hid (bstep HBX.out hb9)
    clear hb9
    go_wp2_with (fail)
    go_ret
    exact ⟨rfl, HBX.out⟩
  clear hlg
  go_wp2_with (fail)
  go_loopw [42, 7] (fun iv ov wr => ∃ i : Nat, i ≤ n2 ∧ iv = .int .i64 i ∧ OwnI 3 wr w.heap.size ov (atL (us.take i)) ∧ Below w.heap.size w wr ∧ BlkK wr w.heap.size #[.string (bs sec), .slice ax nx cx, .slice ay ny cy, .slice az nz cz] 68) (fun iv _ _ => n2 - (intOf iv).toNat)
  case atStart => exact ⟨0, Nat.zero_le _, rfl, OwnI.nil _ _ _, HBX.out, HK3.out⟩
  case round =>
    obtain ⟨wi, rfl⟩ : ∃ wi : World, wi = wr := ⟨_, rfl⟩
    obtain ⟨i, hile, rfl, ho, hb, hk⟩ := hrel
    have HO := Lib.hid ho
    have HB := Lib.hid hb
    have HKI := Lib.hid hk
    have HSZ := Lib.hid (show w.heap.size ≤ wi.heap.size from hb.size)
    by_cases hin : i < n2
    · obtain ⟨z, b, off, v, hz, rfl, hcv, ⟨rfl, hx0, hx1⟩⟩ := Sl.at HX2.out hin
      replace hcv := cell_keep hb hcv
      have HSN := Lib.hid (show atL (us.take (i + 1)) = atL (us.take i) ++ [1 + z] by unfold atL; rw [take_snoc hz, List.map_append]; rfl)
      have HLN := Lib.hid (show (atL (us.take i)).length ≤ 12 by unfold atL; rw [List.length_map, List.length_take]; have := M1.out; omega)
      have hw1 : IntKind.i64.wrap (1 + z) = 1 + z := IntWalk.i64_in _ (by omega)
      have hw2 : wrap64 (1 + z) = 1 + z := IntWalk.wrap64_in _ (by omega)
      have HI := Lib.hid (show I64 (1 + z) from ⟨by omega, by omega⟩)
      have i1 : (i : Int) < (n2 : Int) := by omega
      have HNW := Lib.hid (show ∀ (j : Nat) (u : Value), [.int .i64 (1 + z)][j]? = some u → (wi.alloc (.cells #[.int .i64 (1 + z)] 3)).cell? ((⟨wi.heap.size, 0, none⟩ : Addr).add j) = some u from World.news_of_block (cs := #[.int .i64 (1 + z)]) (heap_fresh rfl))
      clear hz ho hb hk
      go_wp2_with (at_builtin; refine wpList_append_own _ rfl _ _ 26 rfl w.heap.size 3 i0 (.int .i64 0) 1 8 Tryz.underlying26 hi hz0 hz1 hz2 rfl (by decide) _ _ _ rfl (HO.out.1.alloc _) ⟨wi.heap.size, 0, none⟩ 1 1 [.int .i64 (1 + z)] rfl rfl HNW.out (by simp [Value.oneCell']) (by have := HLN.out; unfold maxLen; omega) (by have := HLN.out; omega) (by have := HSZ.out; simp; omega) ?_)
      intro v' w9 hown' hgr' _
      have HO9 := Lib.hid (show OwnI 3 w9 w.heap.size v' (atL (us.take (i + 1))) by rw [HSN.out]; exact HO.out.push1 HI.out hown')
      have HB9 := Lib.hid ((HB.out.alloc HSZ.out (.cells #[.int .i64 (1 + z)] 3)).grown hgr' (by have := HSZ.out; simp; omega) (fun k hk => (HO.out.1.lt k hk).1))
      have HK9 := Lib.hid ((HKI.out.allocK (.cells #[.int .i64 (1 + z)] 3)).keptE hgr' ((HKI.out.apart HO.out.1 (by decide))))
      clear hown' hgr' hw1 hw2
      go_wp2_with (fail)
      go_roundw
      case rel => exact ⟨i + 1, by omega, by simp, HO9.out, HB9.out, HK9.out⟩
      case measure => simp [intOf]; omega
    · obtain rfl : n2 = i := by omega
      rw [List.take_of_length_le (Nat.le_of_eq HL2.out)] at ho
      have hal : (atL us).length = n2 := by unfold atL; rw [List.length_map]; exact HL2.out
      obtain ⟨a5, c5, rfl, hi5⟩ := ho.ints (by omega)
      rw [hal] at hi5 ⊢
      have HI5 := Lib.hid hi5
      obtain ⟨ps, hps⟩ : ∃ ps, (bsl.map Wrd.name).zip (atL us) = ps := ⟨_, rfl⟩
      have HPS := Lib.hid hps
      have HPL := Lib.hid (show ps.length = n2 by rw [← hps, List.length_zip, List.length_map, HL1.out, hal, Nat.min_self])
      have HNX := Lib.hid (HNM.out (atL us) a5 n2 c5 wi hb hi5)
      rw [hps] at HNX
      have HLS := Lib.hid (show ∀ p ∈ ps, lineOk p.2 = true from fun p hp => by
        rw [← hps] at hp
        obtain ⟨u, hu, he⟩ := List.mem_map.1 (List.of_mem_zip hp).2
        have := HU.out u hu
        unfold lineOk
        rw [← he]
        simp
        omega)
      have HAN := Lib.hid (show (bsl.any fun t => badN t.name) = ps.any fun p => badN p.1 by
        rw [← hps, any_zip (by rw [List.length_map, HL1.out, hal]), List.any_map]
        rfl)
      have hnc : namesC 0 n2 n2 ps = if (bsl.any fun t => badN t.name) = true then 14 else 0 := by
        unfold namesC
        rw [if_neg (by simp), if_neg (by omega), if_neg (by simp), scanN_ok HLS.out, HAN.out]
      rw [hnc] at HNX
      have HBDX := Lib.hid HBD.out
      have k0 := hk.cell (i := 0) (u := .string (bs sec)) rfl
      have k1 := hk.cell (i := 1) (u := .slice ax nx cx) rfl
      have k2 := hk.cell (i := 2) (u := .slice ay ny cy) rfl
      have k3 := hk.cell (i := 3) (u := .slice az nz cz) rfl
      cases hbad : bsl.any fun t => badN t.name
      rotate_left
      · rw [hbad] at HBDX
        rw [hbad, if_pos rfl] at HNX
        clear ho hi5 hnc hal HO hps hbad hb hk
        go_wp2_with (fail)
        clear k0 k1 k2 k3
        refine HNX.out.mono ?_
        rintro e W5 ⟨u, rfl, _, hu, hb5⟩
        obtain rfl := hu (by decide)
        have HB5 := Lib.hid (bstep HB.out hb5)
        clear hb5
        go_wp2_with (fail)
        refine (HBDX.out W5 HB5.out).mono ?_
        rintro e W6 ⟨rfl, hb6⟩
        have HBX := Lib.hid (bstep HB5.out hb6)
        clear hb6
        go_wp2_with (fail)
        refine (HA.out _ HBX.out).mono ?_
        rintro e W9 ⟨rfl, hb9⟩
        have HBX := Lib.hid (bstep HBX.out hb9)
        clear hb9
        go_wp2_with (fail)
        go_ret
        exact ⟨rfl, HBX.out⟩
      rw [hbad] at HBDX
      rw [hbad] at HNX
      simp only [Bool.false_eq_true, if_false] at HNX
      clear ho hi5 hnc hal HO hps hbad hb hk
      go_wp2_with (fail)
      clear k0 k1 k2 k3
      refine HNX.out.mono ?_
      rintro e W5 ⟨u, rfl, hg, _, hb5⟩
      obtain ⟨a6, c6, rfl, hpo, _⟩ := hg rfl
      have HB5 := Lib.hid (bstep HB.out hb5)
      have HI55 := Lib.hid (HI5.out.mono (Nat.le_refl _) hb5)
      have HK5 := Lib.hid (HKI.out.below hb5)
      have HPO := Lib.hid hpo
      clear hg hpo hb5 HNX
      obtain ⟨m, hm⟩ : ∃ m, (idxM mkB (namesEs sec ps)).length = m := ⟨_, rfl⟩
      rw [hm] at HPO
      simp only [hm]
      have HML := Lib.hid hm
      clear hm
      go_wp2_with (fail)
      refine (HBDX.out W5 HB5.out).mono ?_
      rintro e W6 ⟨rfl, hb6⟩
      have HB6 := Lib.hid (bstep HB5.out hb6)
      have HI6 := Lib.hid (HI55.out.mono (Nat.le_refl _) hb6)
      have HK6 := Lib.hid (HK5.out.below hb6)
      have HPO6 := Lib.hid (HPO.out.mono (Nat.le_refl _) hb6)
      have HX6 := Lib.hid (HX1.out.mono (Nat.le_refl _) HB6.out)
      obtain ⟨bm, hbm⟩ : ∃ b, W6.heap.size = b := ⟨_, rfl⟩
      have HBM := Lib.hid hbm
      have HG0 := Lib.hid (show MapH tPm (W6.alloc (.map #[] 0)) bm 0 (wantN (ps.take 0)) by
        rw [← hbm]
        exact (MapH.made W6).ext fun s => by simp [wantN])
      have HB60 := Lib.hid (show Below bm W6 (W6.alloc (.map #[] 0)) by rw [← hbm]; exact balloc _ _)
      have hmm := @run_makeMap Tryz.prog
      clear hb6 hbm
      go_wp2_with (fail)
      rw [HBM.out]
      clear hmm
      go_loopw [80] (fun iv wr => ∃ i : Nat, i ≤ n2 ∧ iv = .int .i64 i ∧ MapH tPm wr bm i (wantN (ps.take i)) ∧ Below bm W6 wr) (fun iv _ => n2 - (intOf iv).toNat)
      case atStart => exact ⟨0, Nat.zero_le _, rfl, HG0.out, HB60.out⟩
      case round =>
        obtain ⟨wj, rfl⟩ : ∃ wj : World, wj = wr := ⟨_, rfl⟩
        obtain ⟨i, hile, rfl, hG, hb⟩ := hrel
        have HBJ := Lib.hid hb
        have HG := Lib.hid hG
        have HZ := Lib.hid (show bm ≤ wj.heap.size by have := hb.size; have := HBM.out; omega)
        by_cases hin : i < n2
        · obtain ⟨t, b, off, hT, rfl, hwm⟩ := HX6.out.at hin
          obtain ⟨y, b2, off2, v2, hy, rfl, hcy, rfl, hiy⟩ := Sl.at HI6.out hin
          have HCY := Lib.hid hcy
          obtain ⟨e0, e1, e2, e3, e4, e5, e6, hshort⟩ := hwm.mono (Nat.le_of_eq HBM.out) hb
          obtain ⟨tx, cl, un, dc, jn, vs, nm⟩ := t
          simp only at e0 e1 e2 e3 e4 e5 e6 hshort
          have hpi : ps[i]? = some (nm, y) := by rw [← HPS.out]; exact zipn_at hT hy
          have HSN := Lib.hid (wantN_snoc hpi)
          simp only at HSN
          have HXL := Lib.hid (show nm.length ≤ maxLen from Nat.le_trans hshort (by decide))
          have HIY := Lib.hid hiy
          have HIN := Lib.hid (List.mem_of_getElem? hpi)
          have i1 : (i : Int) < (n2 : Int) := by omega
          obtain ⟨X, hX⟩ : ∃ X, wj.heap.size = X := ⟨_, rfl⟩
          have hb3 := balloc wj (.cells #[.string (bs tx), .int .i64 cl, .int .i64 un, .int .i64 dc, .bool jn, .bool vs, .string (bs nm)] 74)
          have HKX := Lib.hid (show BlkK (wj.alloc (.cells #[.string (bs tx), .int .i64 cl, .int .i64 un, .int .i64 dc, .bool jn, .bool vs, .string (bs nm)] 74)) X #[.string (bs tx), .int .i64 cl, .int .i64 un, .int .i64 dc, .bool jn, .bool vs, .string (bs nm)] 74 by rw [← hX]; exact BlkK.new _ _ _)
          obtain ⟨W3', hW3⟩ : ∃ W, wj.alloc (.cells #[.string (bs tx), .int .i64 cl, .int .i64 un, .int .i64 dc, .bool jn, .bool vs, .string (bs nm)] 74) = W := ⟨_, rfl⟩
          rw [hW3] at hb3 HKX
          have x6 := HKX.out.cell (i := 6) (u := .string (bs nm)) rfl
          have HB3 := Lib.hid (hb.trans (hb3.mono HZ.out))
          have HG3 := Lib.hid (hG.below hb3)
          have HZ3 := Lib.hid (show bm ≤ W3'.heap.size by have := hb3.size; have := HZ.out; omega)
          have HXB := Lib.hid (show some X ≠ some bm by have := hG.lt; intro e; cases e; omega)
          clear hT hy hcy hiy hpi hb hG hb3 hwm
          by_cases hx0 : nm = []
          · have HS2 := Lib.hid (show wantN (ps.take (i + 1)) = wantN (ps.take i) by rw [HSN.out, if_pos hx0])
            have n1 : (nm == []) = true := by rw [beq_iff_eq]; exact hx0
            have n2' : nm.isEmpty = true := by rw [hx0]; rfl
            have n3 : (nm != []) = false := by rw [hx0]; rfl
            clear hx0
            go_wp2_with (fail)
            exact ⟨⟨i + 1, by omega, by simp, by rw [HS2.out]; exact HG3.out.mono (Nat.le_succ i), HB3.out⟩, by simp [intOf]; omega⟩
          · have HS2 := Lib.hid (show wantN (ps.take (i + 1)) = updV (wantN (ps.take i)) (nm, y) (.bool true) by rw [HSN.out, if_neg hx0])
            have HHB := Lib.hid (show hasB (idxM mkB (namesEs sec ps)) nm sec y = true from hasB_idx (namesEs_mem.2 ⟨_, HIN.out, hx0, rfl⟩))
            have n1 : (nm == []) = false := by rw [beq_eq_false_iff_ne]; exact hx0
            have n2' : nm.isEmpty = false := by simpa using hx0
            have n3 : (nm != []) = true := by rw [bne_iff_ne]; exact hx0
            have hiB : (i : Int) ≤ 4611686018427387903 := by omega
            have HHS := Lib.hid (fun W (hw : Below bm W6 W) => by
              have := has17 (idxM mkB (namesEs sec ps)) a6 m c6 nm sec y W (HPO6.out.mono (Nat.le_of_eq HBM.out) hw)
              rwa [HHB.out] at this)
            clear hx0
            go_wp2_with (fail)
            clear n1 n2' n3 x6
            refine (wpIn_wide (n := 20)).1 ?_
            refine wpIn_region_planN (fun W' => W'.cell? ⟨X, 6, none⟩ = some (.string (bs nm)) ∧ W'.cell? ⟨b2, off2 + i, none⟩ = some (.int .i64 y)) (.take 0 <| .take 1 <| .take 2 <| .take 3 <| .take 4 <| .take 5 <| .take 6 <| .take 7 <| .one 8 .fin) (fun _ => trivial) (by kernel_rfl) (by kernel_rfl) ⟨HKX.out.cell (i := 6) rfl, Go.Ap.cell_kept (Nat.le_of_eq HBM.out) (below_drew HB3.out) HCY.out⟩ ?_
            obtain ⟨WB, hWB⟩ : ∃ W, W3'.drew = W := ⟨_, rfl⟩
            have HBB := Lib.hid (show Below bm W6 WB by rw [← hWB]; exact below_drew HB3.out)
            have HKB := Lib.hid (show BlkK WB X #[.string (bs tx), .int .i64 cl, .int .i64 un, .int .i64 dc, .bool jn, .bool vs, .string (bs nm)] 74 by rw [← hWB]; exact HKX.out)
            have HGB := Lib.hid (show MapH tPm WB bm i (wantN (ps.take i)) by rw [← hWB]; exact HG3.out.below (bdrewN _ 1))
            have HZB := Lib.hid (show bm ≤ WB.heap.size by rw [← hWB]; exact HZ3.out)
            rw [hWB]
            clear hWB
            obtain ⟨W7, hu7, hm7, hg7⟩ := MapH.store (T := tPm) (s := (nm, y)) HGB.out (by unfold maxLen; omega) ⟨HXL.out, HIY.out⟩ (.bool true)
            replace hu7 : (Instr.mapUpdate 77 (.map (some bm)) (.agg #[.string (bs nm), .int .i64 y]) (.bool true)).run Tryz.prog WB = .ok () W7 := hu7
            have HM7 := Lib.hid (show MapH tPm W7 bm (i + 1) (wantN (ps.take (i + 1))) by rw [HS2.out]; exact hm7)
            have HB7 := Lib.hid (HBB.out.grown hg7 HZB.out fun k hk => by cases hk; exact Nat.le_refl _)
            have HK7 := Lib.hid (HKB.out.keptE hg7 HXB.out)
            have HU7 := Lib.hid hu7
            clear hm7 hg7 hu7
            apply plan_take rfl rfl (by rfl)
            case hy =>
              rintro W' hb'
              clear hb'
              go_simp
              first | done | with_reducible rfl
            simp only [List.setIfInBounds_toArray, List.set_cons_zero, List.set_cons_succ]
            apply plan_take rfl rfl (by rfl)
            case hy =>
              rintro W' hb'
              clear hb'
              go_simp
              first | done | with_reducible rfl
            simp only [List.setIfInBounds_toArray, List.set_cons_zero, List.set_cons_succ]
            apply plan_take rfl rfl (by rfl)
            case hy =>
              rintro W' hb'
              have f0 := hb'.1
              have f1 := hb'.2
              clear hb'
              go_simp
              first | done | with_reducible rfl
            simp only [List.setIfInBounds_toArray, List.set_cons_zero, List.set_cons_succ]
            apply plan_take rfl rfl (by rfl)
            case hy =>
              rintro W' hb'
              clear hb'
              go_simp
              first | done | with_reducible rfl
            simp only [List.setIfInBounds_toArray, List.set_cons_zero, List.set_cons_succ]
            apply plan_take rfl rfl (by rfl)
            case hy =>
              rintro W' hb'
              clear hb'
              go_simp
              first | done | with_reducible rfl
            simp only [List.setIfInBounds_toArray, List.set_cons_zero, List.set_cons_succ]
            apply plan_take rfl rfl (by rfl)
            case hy =>
              rintro W' hb'
              clear hb'
              go_simp
              first | done | with_reducible rfl
            simp only [List.setIfInBounds_toArray, List.set_cons_zero, List.set_cons_succ]
            apply plan_take rfl rfl (by rfl)
            case hy =>
              rintro W' hb'
              have f0 := hb'.1
              have f1 := hb'.2
              clear hb'
              go_simp
              first | done | with_reducible rfl
            simp only [List.setIfInBounds_toArray, List.set_cons_zero, List.set_cons_succ]
            apply plan_take rfl rfl (by rfl)
            case hy =>
              rintro W' hb'
              clear hb'
              go_simp
              first | done | with_reducible rfl
            simp only [List.setIfInBounds_toArray, List.set_cons_zero, List.set_cons_succ]
            refine plan_one rfl ?_
            have hu7 := HU7.out
            gi_wp2_with (fail)
            clear hu7
            refine ⟨⟨HK7.out.cell (i := 6) rfl, Go.Ap.cell_kept (Nat.le_of_eq HBM.out) HB7.out HCY.out⟩, ?_⟩
            refine plan_fin ?_
            gi_wp2_with (fail)
            go_wp2_with (fail)
            have HZ7 := Lib.hid (show bm ≤ W7.heap.size by have := HB7.out.size; have := HBM.out; omega)
            refine (wpIn_wide (n := 20)).1 ?_
            refine wpIn_region_planN (fun W' => W'.cell? ⟨X, 6, none⟩ = some (.string (bs nm)) ∧ W'.cell? ⟨b2, off2 + i, none⟩ = some (.int .i64 y) ∧ W'.cell? ⟨w.heap.size, 0, none⟩ = some (.string (bs sec))) (.take 0 <| .take 1 <| .take 2 <| .take 3 <| .take 4 <| .take 5 <| .take 6 <| .take 7 <| .take 8 <| .one 9 <| .take 10 .fin) (fun _ => trivial) (by kernel_rfl) (by kernel_rfl) ⟨HK7.out.cell (i := 6) rfl, Go.Ap.cell_kept (Nat.le_of_eq HBM.out) (below_drew HB7.out) HCY.out, Go.Ap.cell_kept (Nat.le_of_eq HBM.out) (below_drew HB7.out) (HK6.out.cell (i := 0) rfl)⟩ ?_
            have HB8 := Lib.hid (show Below bm W6 W7.drew from below_drew HB7.out)
            apply plan_take rfl rfl (by rfl)
            case hy =>
              rintro W' hb'
              clear hb'
              go_simp
              first | done | with_reducible rfl
            simp only [List.setIfInBounds_toArray, List.set_cons_zero, List.set_cons_succ]
            apply plan_take rfl rfl (by rfl)
            case hy =>
              rintro W' hb'
              clear hb'
              go_simp
              first | done | with_reducible rfl
            simp only [List.setIfInBounds_toArray, List.set_cons_zero, List.set_cons_succ]
            apply plan_take rfl rfl (by rfl)
            case hy =>
              rintro W' hb'
              have f0 := hb'.1
              have f1 := hb'.2.1
              have f2 := hb'.2.2
              clear hb'
              go_simp
              first | done | with_reducible rfl
            simp only [List.setIfInBounds_toArray, List.set_cons_zero, List.set_cons_succ]
            apply plan_take rfl rfl (by rfl)
            case hy =>
              rintro W' hb'
              clear hb'
              go_simp
              first | done | with_reducible rfl
            simp only [List.setIfInBounds_toArray, List.set_cons_zero, List.set_cons_succ]
            apply plan_take rfl rfl (by rfl)
            case hy =>
              rintro W' hb'
              have f0 := hb'.1
              have f1 := hb'.2.1
              have f2 := hb'.2.2
              clear hb'
              go_simp
              first | done | with_reducible rfl
            simp only [List.setIfInBounds_toArray, List.set_cons_zero, List.set_cons_succ]
            apply plan_take rfl rfl (by rfl)
            case hy =>
              rintro W' hb'
              clear hb'
              go_simp
              first | done | with_reducible rfl
            simp only [List.setIfInBounds_toArray, List.set_cons_zero, List.set_cons_succ]
            apply plan_take rfl rfl (by rfl)
            case hy =>
              rintro W' hb'
              clear hb'
              go_simp
              first | done | with_reducible rfl
            simp only [List.setIfInBounds_toArray, List.set_cons_zero, List.set_cons_succ]
            apply plan_take rfl rfl (by rfl)
            case hy =>
              rintro W' hb'
              clear hb'
              go_simp
              first | done | with_reducible rfl
            simp only [List.setIfInBounds_toArray, List.set_cons_zero, List.set_cons_succ]
            apply plan_take rfl rfl (by rfl)
            case hy =>
              rintro W' hb'
              have f0 := hb'.1
              have f1 := hb'.2.1
              have f2 := hb'.2.2
              clear hb'
              go_simp
              first | done | with_reducible rfl
            simp only [List.setIfInBounds_toArray, List.set_cons_zero, List.set_cons_succ]
            refine plan_one rfl ?_
            gi_wp2_with (fail)
            refine ⟨trivial, (callsIn_wide.2 (HHS.out _ HB8.out)).mono ?_⟩
            rintro e W9 ⟨rfl, hb9⟩
            have HB9 := Lib.hid (HB8.out.trans (hb9.mono HZ7.out))
            have HM9 := Lib.hid ((HM7.out.below (bdrewN _ 1)).below hb9)
            have HK9 := Lib.hid (HK7.out.below (bstep (bdrewN W7 1) hb9))
            clear hb9
            gi_wp2_with (fail)
            refine ⟨⟨HK9.out.cell (i := 6) rfl, Go.Ap.cell_kept (Nat.le_of_eq HBM.out) HB9.out HCY.out, Go.Ap.cell_kept (Nat.le_of_eq HBM.out) HB9.out (HK6.out.cell (i := 0) rfl)⟩, ?_⟩
            apply plan_take rfl rfl (by rfl)
            case hy =>
              rintro W' hb'
              clear hb'
              go_simp
              first | done | with_reducible rfl
            simp only [List.setIfInBounds_toArray, List.set_cons_zero, List.set_cons_succ]
            refine plan_fin ?_
            gi_wp2_with (fail)
            go_wp2_with (fail)
            go_roundw
            case rel => exact ⟨i + 1, by omega, by simp, HM9.out, HB9.out⟩
            case measure => simp [intOf]; omega
        · obtain rfl : n2 = i := by omega
          rw [List.take_of_length_le (Nat.le_of_eq HPL.out)] at hG
          have HMW := Lib.hid hG
          have HMC := Lib.hid (show ∀ (ty : TypeId) (W : World), Below wj.heap.size wj W → (Builtin.len_ #[77] ty #[.map (some bm)]).run Tryz.prog W = .ok (.int .i64 ((wantNK ps).length : Nat)) W from fun ty W hb => MapH.count (HMW.out.below hb) (onceL_nodup _) (fun s _ => wantNK_mem) (fun s hs => by
            rw [onceL_mem, List.mem_filter] at hs
            have hz := hs.1
            rw [← HPS.out] at hz
            obtain ⟨q1, q2⟩ := List.of_mem_zip hz
            obtain ⟨u, hu, he⟩ := List.mem_map.1 q2
            obtain ⟨tt, htt, he2⟩ := List.mem_map.1 q1
            have := HU.out u hu
            obtain ⟨kk, hkk⟩ := List.getElem?_of_mem htt
            obtain ⟨_, _, _, hr⟩ := HX1.out.cells kk tt hkk
            exact ⟨by rw [← he2]; exact Nat.le_trans hr.short (by decide), by rw [← he]; exact ⟨by omega, by omega⟩⟩) ty)
          have HPOj := Lib.hid (HPO6.out.mono (Nat.le_of_eq HBM.out) hb)
          have HBW := Lib.hid (HB6.out.trans (hb.mono (by rw [← HBM.out]; exact HB6.out.size)))
          have HZW := Lib.hid (show w.heap.size ≤ wj.heap.size from HBW.out.size)
          have HCO := Lib.hid (count20 (idxM mkB (namesEs sec ps)) a6 m c6 wj HPOj.out (by
            have c1 := countL_idx (namesEs sec ps)
            have c2 := namesEs_len sec ps
            have := HPL.out
            omega))
          rw [wantNK_count] at HCO
          obtain ⟨K, hK⟩ : ∃ K, (wantNK ps).length = K := ⟨_, rfl⟩
          rw [hK] at HCO HMC
          clear hb hG HG hK
          go_wp2_with (fail)
          refine HCO.out.mono ?_
          rintro e W8 ⟨rfl, hb8⟩
          have hlen := fun ty => HMC.out ty W8 hb8
          have HBX := Lib.hid (bstep HBW.out hb8)
          clear hb8
          go_wp2_with (fail)
          refine (HA.out _ HBX.out).mono ?_
          rintro e W9 ⟨rfl, hb9⟩
          have HBX := Lib.hid (bstep HBX.out hb9)
          clear hb9
          go_wp2_with (fail)
          go_ret
          exact ⟨rfl, HBX.out⟩
end Go.Proofs.YtngdmpkoedpgdaaGreatDoor
