/-
  Pairs of both sides; two tables are the same; the second indices.
-/
import Derived.Test.YtbahddjbncinbaaGreatDoorTq
namespace Go.Ap
open Go Go.RowKit
/-- what Pairs answers -/
def prsE (xs ys : List Tok) : List (Nat × Nat) := if chkT xs ys = 0 then pairsL (keysT xs) (keysT ys) else []
def GivesTb (w : World) (rows : List (List Int)) (er : Int) (e : Ending) (w' : World) : Prop := ∃ v, e = .returned (.tuple #[v, .int .i64 er]) ∧ OwnTb w' w.heap.size v rows ∧ Below w.heap.size w w'
theorem tok_flags {t : Tok} (h : tokC t = 0) : 0 ≤ t.flags ∧ t.flags ≤ 31 := by
  unfold tokC at h
  split at h
  · omega
  · rename_i h1
    omega
theorem OwnTb.nil (w : World) (base : Nat) : OwnTb w base (.slice none 0 0) [] := ⟨[], World.ownsRow_nil _ _ _ _, fun k x hx => by simp at hx, .nil⟩
end Go.Ap
namespace Go.Proofs.YtbahddjbncinbaaGreatDoor
open Go.RowKit Go.Ap Go.Shelf Go.Proofs

attribute [local go_sem] Oper.semAt_some bs_toList empty_toList bs_size bs_extract
set_option maxHeartbeats 4000000 in
theorem PairsP (xs ys : List Tok) (a1 : Option Addr) (n1 c1 : Nat) (a2 : Option Addr) (n2 c2 : Nat) (w : World) (h1 : Toks w a1 n1 xs) (h2 : Toks w a2 n2 ys) (hv : EV w) :
    Calls Tryz.prog 14 #[.slice a1 n1 c1, .slice a2 n2 c2] w (GivesTb w (rowsP (prsE xs ys)) (chkT xs ys)) := by
  have HC := Lib.hid (checkP xs ys a1 n1 c1 a2 n2 c2 w h1 h2 hv)
  by_cases hk : chkT xs ys = 0
  · obtain ⟨g1, g2, g3, g4⟩ := chkT_zero hk
    have HP := Lib.hid (fun W (hb : Below w.heap.size w W) => pairsP xs ys a1 n1 c1 a2 n2 c2 W (Toks.mono h1 (Nat.le_refl _) hb) (Toks.mono h2 (Nat.le_refl _) hb) (fun t ht => tok_flags (g3 t ht)) (fun t ht => tok_flags (g4 t ht)) (by have := h1.len; omega) (by have := h2.len; omega))
    have HE := Lib.hid (show prsE xs ys = pairsL (keysT xs) (keysT ys) by unfold prsE; rw [if_pos hk])
    rw [hk] at HC ⊢
    clear h1 h2 hv hk g1 g2 g3 g4
    unfold GivesTb
    go_enter Tryz.func14, Tryz.ntmps14
    go_wp2_with (fail)
    refine HC.out.mono ?_
    rintro e wa ⟨rfl, hba⟩
    have HBA := Lib.hid hba
    clear hba
    go_wp2_with (fail)
    refine (HP.out _ HBA.out).mono ?_
    rintro e wb ⟨v, rfl, ho, hb⟩
    have HO := Lib.hid (ho.mono HBA.out.size)
    have HB := Lib.hid (bstep HBA.out hb)
    clear ho hb
    go_wp2_with (fail)
    go_ret2
    exact ⟨_, rfl, by rw [HE.out]; exact HO.out, HB.out⟩
  · have HE := Lib.hid (show prsE xs ys = [] by unfold prsE; rw [if_neg hk])
    have dn : (chkT xs ys != 0) = true := by simpa using hk
    obtain ⟨k, hk2⟩ : ∃ k, chkT xs ys = k := ⟨_, rfl⟩
    rw [hk2] at HC dn ⊢
    clear h1 h2 hv hk hk2
    unfold GivesTb
    go_enter Tryz.func14, Tryz.ntmps14
    go_wp2_with (fail)
    refine HC.out.mono ?_
    rintro e wa ⟨rfl, hba⟩
    have HBA := Lib.hid hba
    clear hba
    go_wp2_with (fail)
    go_ret2
    exact ⟨_, rfl, by rw [HE.out]; exact OwnTb.nil _ _, HBA.out⟩
set_option maxHeartbeats 4000000 in
theorem PairsR (xs ys : List Tok) (a1 : Option Addr) (n1 c1 : Nat) (a2 : Option Addr) (n2 c2 : Nat) (w : World) (h1 : Toks w a1 n1 xs) (h2 : Toks w a2 n2 ys) :
    Calls Tryz.prog 15 #[.slice a1 n1 c1, .slice a2 n2 c2] w (GivesTb w (rowsP (prsE xs ys)) (chkT xs ys)) := by
  have HC := Lib.hid (checkR xs ys a1 n1 c1 a2 n2 c2 w h1 h2)
  by_cases hk : chkT xs ys = 0
  · obtain ⟨g1, g2, g3, g4⟩ := chkT_zero hk
    have HP := Lib.hid (fun W (hb : Below w.heap.size w W) => pairsR xs ys a1 n1 c1 a2 n2 c2 W (Toks.mono h1 (Nat.le_refl _) hb) (Toks.mono h2 (Nat.le_refl _) hb) (fun t ht => (tok_flags (g3 t ht)).1) (fun t ht => (tok_flags (g4 t ht)).1) (by have := h1.len; omega) (by have := h2.len; omega))
    have HE := Lib.hid (show prsE xs ys = pairsL (keysT xs) (keysT ys) by unfold prsE; rw [if_pos hk])
    rw [hk] at HC ⊢
    clear h1 h2 hk g1 g2 g3 g4
    unfold GivesTb
    go_enter Tryz.func15, Tryz.ntmps15
    go_wp2_with (fail)
    refine HC.out.mono ?_
    rintro e wa ⟨rfl, hba⟩
    have HBA := Lib.hid hba
    clear hba
    go_wp2_with (fail)
    refine (HP.out _ HBA.out).mono ?_
    rintro e wb ⟨v, rfl, ho, hb⟩
    have HO := Lib.hid (ho.mono HBA.out.size)
    have HB := Lib.hid (bstep HBA.out hb)
    clear ho hb
    go_wp2_with (fail)
    go_ret2
    exact ⟨_, rfl, by rw [HE.out]; exact HO.out, HB.out⟩
  · have HE := Lib.hid (show prsE xs ys = [] by unfold prsE; rw [if_neg hk])
    have dn : (chkT xs ys != 0) = true := by simpa using hk
    obtain ⟨k, hk2⟩ : ∃ k, chkT xs ys = k := ⟨_, rfl⟩
    rw [hk2] at HC dn ⊢
    clear h1 h2 hk hk2
    unfold GivesTb
    go_enter Tryz.func15, Tryz.ntmps15
    go_wp2_with (fail)
    refine HC.out.mono ?_
    rintro e wa ⟨rfl, hba⟩
    have HBA := Lib.hid hba
    clear hba
    go_wp2_with (fail)
    go_ret2
    exact ⟨_, rfl, by rw [HE.out]; exact OwnTb.nil _ _, HBA.out⟩
set_option maxRecDepth 100000 in
set_option maxHeartbeats 4000000 in
theorem sameCols (xs ys : List (List Int)) (a1 : Option Addr) (n1 c1 : Nat) (a2 : Option Addr) (n2 c2 : Nat) (w : World) (h1 : Rows2 w a1 n1 xs) (h2 : Rows2 w a2 n2 ys) (he : xs = ys) :
    Calls Tryz.prog 20 #[.slice a1 n1 c1, .slice a2 n2 c2] w fun e w' => e = .returned (.bool true) ∧ Below w.heap.size w w' := by
  subst he
  have hl := h1.len
  obtain rfl : n1 = n2 := by rw [← h1.len, ← h2.len]
  have hs := h1.small
  have HX := Lib.hid h1
  have HY := Lib.hid h2
  clear h1 h2 hl
  go_enter Tryz.func20, Tryz.ntmps20
  go_wp2_with (fail)
  go_loopw [5] (fun iv wr => ∃ i : Nat, i ≤ n1 ∧ iv = .int .i64 i ∧ Below w.heap.size w wr) (fun iv _ => n1 - (intOf iv).toNat)
  case atStart => exact ⟨0, Nat.zero_le _, rfl, Below.refl _ _⟩
  case round =>
    obtain ⟨wi, rfl⟩ : ∃ wi : World, wi = wr := ⟨_, rfl⟩
    obtain ⟨i, hi, rfl, hb⟩ := hrel
    have HB := Lib.hid hb
    by_cases hin : i < n1
    · obtain ⟨l, b1, o1, v1, hx, rfl, hc1, ar, nr, kr, rfl, hr⟩ := HX.out.at hin
      obtain ⟨l', b2, o2, v2, hy, rfl, hc2, as', ns, ks, rfl, hs'⟩ := HY.out.at hin
      rw [hx] at hy
      cases hy
      obtain rfl : nr = ns := by rw [← hr.len, ← hs'.len]
      have HR := Lib.hid hr
      have HS := Lib.hid hs'
      have hrs := hr.small
      have v1 := cell_keep hb hc1
      have v2 := cell_keep hb hc2
      have HC1 := Lib.hid hc1
      have HC2 := Lib.hid hc2
      have i1 : (i : Int) < (n1 : Int) := by omega
      have d1 : ((nr : Int) != (nr : Int)) = false := by simp
      clear hx hc1 hc2 hr hs' hb
      go_wp2_with (fail)
      go_quiet (fail)
      go_wp2_with (fail)
      have HBQ := Lib.hid (bstep HB.out (bdrewN wi nq))
      generalize wi.drewN nq = wq at *
      clear v1 v2
      go_loopw [6] (fun jv wr => ∃ j : Nat, j ≤ nr ∧ jv = .int .i64 j ∧ Below w.heap.size w wr) (fun jv _ => nr - (intOf jv).toNat)
      case atStart => exact ⟨0, Nat.zero_le _, rfl, HBQ.out⟩
      case round =>
        obtain ⟨wj, rfl⟩ : ∃ wj : World, wj = wr := ⟨_, rfl⟩
        obtain ⟨j, hj, rfl, hb⟩ := hrel
        have HB := Lib.hid hb
        have v1 := cell_keep hb HC1.out
        have v2 := cell_keep hb HC2.out
        by_cases hjn : j < nr
        · obtain ⟨z, b3, o3, z1, hz, rfl, hz1, rfl, _⟩ := Sl.at HR.out hjn
          obtain ⟨z', b4, o4, z2, hz', rfl, hz2, rfl, _⟩ := Sl.at HS.out hjn
          rw [hz] at hz'
          cases hz'
          have y1 := cell_keep hb hz1
          have y2 := cell_keep hb hz2
          have j1 : (j : Int) < (nr : Int) := by omega
          have d2 : (z != z) = false := by simp
          clear hb hz hz1 hz2
          go_wp2_with (fail)
          go_quiet (fail)
          go_wp2_with (fail)
          go_roundw
          case rel => exact ⟨j + 1, by omega, by simp, bstep HB.out (bdrewN _ _)⟩
          case measure => simp [intOf]; omega
        · obtain rfl : nr = j := by omega
          clear hb
          go_wp2_with (fail)
          go_roundw
          case rel => exact ⟨i + 1, by omega, by simp, HB.out⟩
          case measure => simp [intOf]; omega
    · obtain rfl : n1 = i := by omega
      clear hb
      go_wp2_with (fail)
      go_ret
      exact ⟨rfl, HB.out⟩
set_option maxRecDepth 100000 in
set_option maxHeartbeats 4000000 in
theorem secondsP (l : List (Nat × Nat)) (a : Option Addr) (n c : Nat) (w : World) (h : Rows2 w a n (rowsP l)) (hn : n ≤ 1048576) :
    Calls Tryz.prog 56 #[.slice a n c] w fun e w' => ∃ v, e = .returned v ∧ OwnI 3 w' w.heap.size v (secsL l) ∧ Below w.heap.size w w' := by
  obtain ⟨i9, hi9, hy0, hy1, hy2⟩ := info_parts infoInt
  have hl := h.len
  rw [rowsP_len] at hl
  have HX := Lib.hid h
  have HL := Lib.hid hl
  clear h hl
  go_enter Tryz.func56, Tryz.ntmps56
  go_wp2_with (fail)
  go_loopw [3, 8] (fun ov iv wr => ∃ i : Nat, i ≤ n ∧ iv = .int .i64 i ∧ OwnI 3 wr w.heap.size ov (secsL (l.take i)) ∧ Below w.heap.size w wr) (fun _ iv _ => n - (intOf iv).toNat)
  case atStart => exact ⟨0, Nat.zero_le _, rfl, ⟨World.ownsRow_nil _ _ _ _, by simp [secsL]⟩, Below.refl _ _⟩
  case round =>
    obtain ⟨wi, rfl⟩ : ∃ wi : World, wi = wr := ⟨_, rfl⟩
    obtain ⟨i, hi, rfl, ho, hb⟩ := hrel
    have HB := Lib.hid hb
    have HO := Lib.hid ho
    have hsz := hb.size
    clear ho
    by_cases hin : i < n
    · obtain ⟨row, b1, o1, v1, hx, rfl, hc1, ar, nr, kr, rfl, hr⟩ := HX.out.at hin
      obtain ⟨p, hp, rfl⟩ : ∃ p, l[i]? = some p ∧ rowP p = row := by
        unfold rowsP at hx
        rw [List.getElem?_map] at hx
        exact Option.map_eq_some_iff.1 hx
      obtain rfl : 2 = nr := hr.len
      obtain ⟨z, b3, o3, z1, hz, rfl, hz1, rfl, hi64⟩ := Sl.at hr (show 1 < 2 by omega)
      have hz2 : z = (p.2 : Int) := by simp [rowP] at hz; exact hz.symm
      subst hz2
      have HS := Lib.hid (show secsL (l.take (i + 1)) = secsL (l.take i) ++ [(p.2 : Int)] by rw [List.take_add_one, hp]; simp [secsL])
      have HW := Lib.hid hi64
      have v1 := cell_keep hb hc1
      have v2 := cell_keep hb hz1
      have i1 : (i : Int) < (n : Int) := by omega
      have hql : (secsL (l.take i)).length = i := by rw [secs_len, List.length_take, HL.out]; omega
      have HQL := Lib.hid hql
      have HOW := Lib.hid (show wi.ownsRow w.heap.size 3 1 _ i ((secsL (l.take i)).map (Value.int .i64)) by have := HO.out.1; rwa [hql] at this)
      clear hx hp hr hz hz1 hc1 hql hb hi64
      go_wp2_with (at_builtin; refine wpList_append_own _ rfl _ _ 29 rfl w.heap.size 3 i9 (.int .i64 0) 1 8 Tryz.underlying29 hi9 hy0 hy1 hy2 rfl (by decide) _ _ _ rfl (HOW.out.alloc _) ⟨wi.heap.size, 0, none⟩ 1 1 [.int .i64 (p.2 : Int)] rfl rfl (cell_one_new _ _ _) (by simp [Value.oneCell']) (by unfold maxLen; omega) (by omega) (by simp; omega) ?_; intro v1 w4 hown1 hgrow1 _; have HO3 := Lib.hid hown1; have HG := Lib.hid hgrow1; clear hown1 hgrow1)
      obtain ⟨j1, j2⟩ := OwnI.pushed (x := (p.2 : Int)) HO.out HW.out hsz (by rw [HQL.out]; exact HO3.out) HG.out
      go_roundw
      case rel => exact ⟨i + 1, by omega, by simp, by rw [HS.out]; exact j1, HB.out.trans j2⟩
      case measure => simp [intOf]; omega
    · obtain rfl : n = i := by omega
      have HALL := Lib.hid (show l.take n = l from List.take_of_length_le (by rw [HL.out]; exact Nat.le_refl _))
      clear hb
      go_wp2_with (fail)
      go_ret
      exact ⟨_, rfl, by have := HO.out; rw [HALL.out] at this; exact this, HB.out⟩
end Go.Proofs.YtbahddjbncinbaaGreatDoor
