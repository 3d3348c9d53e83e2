/-
  Undo of the program.
-/
import Derived.Test.YtbahddjbncinbaaGreatDoorUd
namespace Go.Ap
open Go Go.RowKit
section
variable {e : TypeId} {w : World} {base : Nat} {v : Value} {xs : List Int}
/-- a store into a row of ints -/
theorem OwnI.set {b c : Nat} {m : Nat} (h : OwnI e w base (.slice (some ⟨b, 0, none⟩) m c) xs) {j : Nat} {z : Int} (hz : I64 z) : OwnI e (w.setCell ⟨b, j, none⟩ (.int .i64 z)) base (.slice (some ⟨b, 0, none⟩) m c) (xs.set j z) := by
  obtain ⟨⟨h1, h2⟩, h3⟩ := h
  refine ⟨⟨by simp, ?_⟩, fun x hx => ?_⟩
  · rcases h2 with ⟨h0, _⟩ | ⟨g, cap, cur, he, hbb, hg, r1, r2, r3, r4⟩
    · cases h0
    · simp only [Value.slice.injEq, Option.some.injEq, Addr.mk.injEq, and_true] at he
      obtain ⟨rfl, rfl, rfl⟩ := he
      refine .inr ⟨b, c, cur.setIfInBounds j (.int .i64 z), by simp, hbb, ?_, by simpa using r1, r2, by simpa using r3, ?_⟩
      · simp [World.setCell, Array.getElem?_modify, hg]
      · rw [List.length_set, Array.toList_setIfInBounds, List.take_set, r4, List.map_set]
  · rcases List.mem_or_eq_of_mem_set hx with h | rfl
    · exact h3 x h
    · exact hz
theorem OwnI.cell {b c m : Nat} (h : OwnI e w base (.slice (some ⟨b, 0, none⟩) m c) xs) {j : Nat} (hj : j < xs.length) : w.cell? ⟨b, j, none⟩ = some (.int .i64 (nth xs j)) ∧ w.frozen? ⟨b, j, none⟩ = false ∧ base ≤ b := by
  rcases h.1.2 with ⟨h0, _⟩ | ⟨g, cap, cur, he, hbb, hg, r1, r2, r3, r4⟩
  · cases h0
  · simp only [Value.slice.injEq, Option.some.injEq, Addr.mk.injEq, and_true] at he
    obtain ⟨rfl, rfl, rfl⟩ := he
    have hc := h.1.cells (g := b) rfl j (.int .i64 (nth xs j)) (by simp [hj, nth_eq hj])
    have hadd : (⟨b, 0, none⟩ : Addr).add j = ⟨b, j, none⟩ := by unfold Addr.add; split <;> simp_all
    rw [hadd] at hc
    exact ⟨hc, by simp [World.frozen?, hg], hbb⟩
theorem OwnI.addr (h : OwnI e w base v xs) (hn : 0 < xs.length) : ∃ b c, v = .slice (some ⟨b, 0, none⟩) xs.length c := by
  rcases h.1.2 with ⟨_, h0⟩ | ⟨g, cap, _, rfl, _⟩
  · omega
  · exact ⟨g, cap, rfl⟩
end
theorem undoS_len (ks : List Nat) (n j : Nat) : (undoS ks n j).length = n := by simp [undoS]
end Go.Ap
namespace Go.Proofs.YtbahddjbncinbaaGreatDoor
open Go.RowKit Go.Ap Go.Shelf Go.Proofs

attribute [local go_sem] Oper.semAt_some bs_toList empty_toList bs_size bs_extract
set_option maxRecDepth 100000 in
set_option maxHeartbeats 8000000 in
theorem UndoP (xs ys : List Tok) (a1 : Option Addr) (n1 c1 : Nat) (a2 : Option Addr) (n2 c2 : Nat) (w : World) (h1 : Toks w a1 n1 xs) (h2 : Toks w a2 n2 ys) (hv : EV w) :
    Calls Tryz.prog 18 #[.slice a1 n1 c1, .slice a2 n2 c2] w (GivesI w (castL (undE xs ys)) (chkT xs ys)) := by
  obtain ⟨i9, hi9, hy0, hy1, hy2⟩ := info_parts infoInt
  have HC := Lib.hid (checkP xs ys a1 n1 c1 a2 n2 c2 w h1 h2 hv)
  by_cases hk : chkT xs ys = 0
  · obtain ⟨g1, g2, g3, g4⟩ := chkT_zero hk
    have HP := Lib.hid (fun W (hb : Below w.heap.size w W) => pairsP xs ys a1 n1 c1 a2 n2 c2 W (Toks.mono h1 (Nat.le_refl _) hb) (Toks.mono h2 (Nat.le_refl _) hb) (fun t ht => tok_flags (g3 t ht)) (fun t ht => tok_flags (g4 t ht)) (by have := h1.len; omega) (by have := h2.len; omega))
    have HE := Lib.hid (show prsE xs ys = pairsL (keysT xs) (keysT ys) by unfold prsE; rw [if_pos hk])
    have hpl := @prsE_len xs ys
    have hnd : (ksL (prsE xs ys)).Nodup := by rw [HE.out]; exact ks_nodup _ _
    have hlt : ∀ k ∈ ksL (prsE xs ys), k < ys.length := by rw [HE.out]; intro k hk; have := ks_lt hk; rwa [keysT_len] at this
    have hyl : ys.length = n2 := h2.len
    have HCE := Lib.hid (show undE xs ys = undoF (ksL (prsE xs ys)) ys.length by unfold undE; rw [if_pos hk])
    rw [hyl] at hlt HCE
    have hn2 : n2 ≤ 1024 := by omega
    obtain ⟨l, hll⟩ : ∃ l, prsE xs ys = l := ⟨_, rfl⟩
    rw [hll] at HE hpl HCE hnd hlt
    rw [← HE.out] at HP
    rw [hk] at HC ⊢
    rw [HCE.out]
    have HND := Lib.hid hnd
    have HLT := Lib.hid hlt
    clear h1 h2 hv hk g1 g2 g3 g4 hll hnd hlt hyl
    unfold GivesI
    go_enter Tryz.func18, Tryz.ntmps18
    go_wp2_with (fail)
    refine HC.out.mono ?_
    rintro e wa ⟨rfl, hba⟩
    have HBA := Lib.hid hba
    clear hba
    go_wp2_with (fail)
    refine (HP.out _ HBA.out).mono ?_
    rintro e wb ⟨v, rfl, ho, hb⟩
    obtain ⟨ap, kp, rfl, hr⟩ := ho.rows (by rw [rowsP_len]; omega) rows_two
    rw [rowsP_len] at hr ⊢
    have HB := Lib.hid (bstep HBA.out hb)
    obtain ⟨n, hn⟩ : ∃ n, l.length = n := ⟨_, rfl⟩
    rw [hn] at hr hpl ⊢
    have HN := Lib.hid hn
    have HSC := Lib.hid (secondsP l ap n kp wb hr (by omega))
    clear ho hb hr hn
    go_wp2_with (fail)
    refine HSC.out.mono ?_
    rintro e wc ⟨v, rfl, ho, hb⟩
    obtain ⟨as1, ks1, rfl, hs1⟩ := ho.ints (by rw [secs_len]; have := HN.out; omega)
    rw [secs_len, HN.out] at hs1 ⊢
    have HS1 := Lib.hid hs1
    have HBC := Lib.hid (bstep HB.out hb)
    have HSO := Lib.hid (sortedP as1 n ks1 (secsL l) wc hs1 (by omega))
    clear ho hb hs1
    go_wp2_with (fail)
    refine (valuesP as1 n ks1 wc).mono ?_
    rintro e wd ⟨rfl, hwd⟩
    obtain rfl := hwd
    go_wp2_with (fail)
    refine HSO.out.mono ?_
    rintro e we ⟨v, rfl, ho, hb⟩
    rw [secs_ks, sortI_cast] at ho
    obtain ⟨ap2, kp2, rfl, hpl2⟩ := ho.ints (by simp only [List.length_map]; rw [(sortN_perm _).length_eq, ksL_len, HN.out]; omega)
    rw [List.length_map, (sortN_perm _).length_eq, ksL_len, HN.out] at hpl2 ⊢
    have HPL := Lib.hid hpl2
    have HBD := Lib.hid hb
    have HBE := Lib.hid (bstep HBC.out hb)
    clear ho hb hpl2
    go_wp2_with (fail)
    go_loopw [9, 28] (fun ov iv wr => ∃ i : Nat, i ≤ n2 ∧ iv = .int .i64 i ∧ OwnI 3 wr we.heap.size ov (castL (List.range i)) ∧ Below we.heap.size we wr) (fun _ iv _ => n2 - (intOf iv).toNat)
    case atStart => exact ⟨0, Nat.zero_le _, rfl, by simpa [castL] using OwnI.nil 3 _ _, Below.refl _ _⟩
    case round =>
      obtain ⟨wi, rfl⟩ : ∃ wi : World, wi = wr := ⟨_, rfl⟩
      obtain ⟨i, hi, rfl, ho, hb⟩ := hrel
      have HO := Lib.hid ho
      have HBI := Lib.hid hb
      have hsz := hb.size
      by_cases hin : i < n2
      · have hql : (castL (List.range i)).length = i := by rw [castL_len, List.length_range]
        have HOW := Lib.hid (show wi.ownsRow we.heap.size 3 1 _ i ((castL (List.range i)).map (Value.int .i64)) by have := HO.out.1; rwa [hql] at this)
        have HQL := Lib.hid hql
        have i1 : (i : Int) < (n2 : Int) := by omega
        have HUT := Lib.hid (show castL (List.range (i + 1)) = castL (List.range i) ++ [(i : Int)] by rw [List.range_succ]; simp [castL])
        have HW := Lib.hid (show I64 (i : Int) from ⟨by omega, by omega⟩)
        clear hql hb ho
        go_wp2_with (at_builtin; refine wpList_append_own _ rfl _ _ 29 rfl we.heap.size 3 i9 (.int .i64 0) 1 8 Tryz.underlying29 hi9 hy0 hy1 hy2 rfl (by decide) _ _ _ rfl (HOW.out.alloc _) ⟨wi.heap.size, 0, none⟩ 1 1 [.int .i64 (i : Int)] rfl rfl (cell_one_new _ _ _) (by simp [Value.oneCell']) (by unfold maxLen; omega) (by omega) (by simp; omega) ?_; intro v1 w4 hown1 hgrow1 _; have HO3 := Lib.hid hown1; have HG := Lib.hid hgrow1; clear hown1 hgrow1)
        obtain ⟨j1, j2⟩ := OwnI.pushed (x := (i : Int)) HO.out HW.out hsz (by rw [HQL.out]; exact HO3.out) HG.out
        go_roundw
        case rel => exact ⟨i + 1, by omega, by simp, by rw [HUT.out]; exact j1, HBI.out.trans j2⟩
        case measure => simp [intOf]; omega
      · obtain rfl : n2 = i := by omega
        rw [← undoS_zero (ksL l)] at HO
        clear hb ho
        go_wp2_with (fail)
        go_loopw [38] (fun jv wr => ∃ j : Nat, j ≤ n ∧ jv = .int .i64 j ∧ OwnI 3 wr we.heap.size u9 (castL (undoS (ksL l) n2 j)) ∧ Below we.heap.size we wr) (fun jv _ => n - (intOf jv).toNat)
        case atStart => exact ⟨0, Nat.zero_le _, rfl, HO.out, HBI.out⟩
        case round =>
          obtain ⟨wj, rfl⟩ : ∃ wj : World, wj = wr := ⟨_, rfl⟩
          obtain ⟨j, hj, rfl, ho, hb⟩ := hrel
          have HOJ := Lib.hid ho
          have HBJ := Lib.hid hb
          by_cases hjn : j < n
          · obtain ⟨z, b1, o1, v1, hz, rfl, hc1, rfl, hw1⟩ := Sl.at HS1.out hjn
            obtain ⟨y, b2, o2, v2, hy, rfl, hc2, rfl, hw2⟩ := Sl.at HPL.out hjn
            rw [secs_ks, List.getElem?_map] at hz
            obtain ⟨x, hx, rfl⟩ := Option.map_eq_some_iff.1 hz
            rw [List.getElem?_map] at hy
            obtain ⟨p, hp, rfl⟩ := Option.map_eq_some_iff.1 hy
            have hpn : p < n2 := HLT.out _ ((sortN_perm _).mem_iff.1 (List.mem_of_getElem? hp))
            have HUS := Lib.hid (show (castL (undoS (ksL l) n2 j)).set p (x : Int) = castL (undoS (ksL l) n2 (j + 1)) by rw [← undoS_succ HND.out hp hx]; simp [castL, List.map_set])
            have hll : (castL (undoS (ksL l) n2 j)).length = n2 := by rw [castL_len, undoS_len]
            obtain ⟨bo, co, hov⟩ := ho.addr (by omega)
            rw [hll] at hov
            rw [hov] at HOJ ho
            obtain ⟨oc, of, ob⟩ := ho.cell (j := p) (by omega)
            have HOS := Lib.hid (HOJ.out.set (j := p) hw1)
            have HBS := Lib.hid (show Below we.heap.size we (wj.setCell ⟨bo, p, none⟩ (.int .i64 (x : Int))) from hb.setCell (p := ⟨bo, p, none⟩) ob _)
            have k1 := cell_keep (bstep (show Below wc.heap.size wc we from HBD.out) hb) hc1
            have k2 := cell_keep hb hc2
            have i1 : (j : Int) < (n : Int) := by omega
            have i2 : (p : Int) < (n2 : Int) := by omega
            have HOV := Lib.hid hov
            subst hov
            clear hz hy hx hp hc1 hc2 ho hb hll
            go_wp2_with (fail)
            go_roundw
            case rel => exact ⟨j + 1, by omega, by simp, by rw [← HUS.out]; exact HOS.out, HBS.out⟩
            case measure => simp [intOf]; omega
          · obtain rfl : n = j := by omega
            have HALL := Lib.hid (show undoS (ksL l) n2 n = undoF (ksL l) n2 by rw [← HN.out, ← ksL_len]; exact undoS_end _ _)
            clear ho hb
            go_wp2_with (fail)
            go_ret2
            exact ⟨_, rfl, by have := HOJ.out; rw [HALL.out] at this; exact this.mono HBE.out.size, bstep HBE.out HBJ.out⟩
  · have HE := Lib.hid (show castL (undE xs ys) = [] by unfold undE; rw [if_neg hk]; rfl)
    have dn : (chkT xs ys != 0) = true := by simpa using hk
    obtain ⟨k, hk2⟩ : ∃ k, chkT xs ys = k := ⟨_, rfl⟩
    rw [hk2] at HC dn ⊢
    rw [HE.out]
    clear h1 h2 hv hk hk2
    unfold GivesI
    go_enter Tryz.func18, Tryz.ntmps18
    go_wp2_with (fail)
    refine HC.out.mono ?_
    rintro e wa ⟨rfl, hba⟩
    have HBA := Lib.hid hba
    clear hba
    go_wp2_with (fail)
    go_ret2
    exact ⟨_, rfl, OwnI.nil _ _ _, HBA.out⟩
end Go.Proofs.YtbahddjbncinbaaGreatDoor
