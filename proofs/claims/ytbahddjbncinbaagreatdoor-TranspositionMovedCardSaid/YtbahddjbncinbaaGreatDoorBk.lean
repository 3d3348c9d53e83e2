/-
  The iterator over blocks.
-/
import Derived.Test.YtbahddjbncinbaaGreatDoorUe
import Derived.Test.YtbahddjbncinbaaGreatDoorNa
import Derived.Test.YtbahddjbncinbaaGreatDoorGd
import Derived.Sort.QuietIn
namespace Go.Ap
open Go Go.RowKit
def blkV (c : Blk) : Value := .agg #[.int .i64 c.fst, .int .i64 c.snd, .int .i64 c.len]
theorem drop_at {α : Type} {l : List α} {k : Nat} {p : α} (h : l[k]? = some p) : l.drop k = p :: l.drop (k + 1) := by
  obtain ⟨hk, rfl⟩ := List.getElem?_eq_some_iff.1 h
  exact List.drop_eq_getElem_cons hk
theorem blkF_stop {l : List (Nat × Nat)} {t : Nat} {c : Blk} (h : ∀ q, l[t]? = some q → ¬ ((q.1 : Int) = c.fst + c.len ∧ (q.2 : Int) = c.snd + c.len)) : blkG c (l.drop t) = c :: blkF (l.drop t) := by
  cases hq : l[t]? with
  | none =>
    rw [List.drop_eq_nil_of_le (List.getElem?_eq_none_iff.1 hq)]
    rfl
  | some q => rw [drop_at hq, blkG, if_neg (h q hq), blkF]
theorem blkF_go {l : List (Nat × Nat)} {t : Nat} {c : Blk} {q : Nat × Nat} (hq : l[t]? = some q) (h : (q.1 : Int) = c.fst + c.len ∧ (q.2 : Int) = c.snd + c.len) : blkG c (l.drop t) = blkG ⟨c.fst, c.snd, c.len + 1⟩ (l.drop (t + 1)) := by
  rw [drop_at hq, blkG, if_pos h]
end Go.Ap
namespace Go.Proofs.YtbahddjbncinbaaGreatDoor
open Go.RowKit Go.Ap Go.Shelf Go.Proofs

attribute [local go_sem] Oper.semAt_some bs_toList empty_toList bs_size bs_extract
theorem infoBk : (Tryz.prog.info? 54).map (fun i => (i.zero, i.size, i.bytes)) = some (some (.agg #[.int .i64 0, .int .i64 0, .int .i64 0]), 3, 24) := by kernel_rfl
/-- the two cells of a pair -/
theorem rowAt {W : World} {a : Option Addr} {n k : Nat} {l : List (Nat × Nat)} (h : Rows2 W a n (rowsP l)) (hk : k < n) : ∃ p b o ab ao kr, l[k]? = some p ∧ a = some ⟨b, o, none⟩ ∧ W.cell? ⟨b, o + k, none⟩ = some (.slice (some ⟨ab, ao, none⟩) 2 kr) ∧ W.cell? ⟨ab, ao, none⟩ = some (.int .i64 (p.1 : Int)) ∧ W.cell? ⟨ab, ao + 1, none⟩ = some (.int .i64 (p.2 : Int)) := by
  obtain ⟨row, b1, o1, v1, hx, rfl, hc1, ar, nr, kr, rfl, hr⟩ := h.at hk
  obtain ⟨p, hp, rfl⟩ : ∃ p, l[k]? = some p ∧ rowP p = row := by
    unfold rowsP at hx
    rw [List.getElem?_map] at hx
    exact Option.map_eq_some_iff.1 hx
  obtain rfl : 2 = nr := hr.len
  obtain ⟨z, b3, o3, z1, hz, rfl, hz1, rfl, _⟩ := Sl.at hr (show 1 < 2 by omega)
  obtain ⟨y, b4, o4, y1, hy, he, hy1, rfl, _⟩ := Sl.at hr (show 0 < 2 by omega)
  cases he
  have hz2 : z = (p.2 : Int) := by simp [rowP] at hz; exact hz.symm
  have hy2 : y = (p.1 : Int) := by simp [rowP] at hy; exact hy.symm
  subst hz2 hy2
  exact ⟨p, b1, o1, b3, o3, kr, hp, rfl, hc1, hy1, hz1⟩
set_option maxRecDepth 100000 in
set_option maxHeartbeats 8000000 in
theorem blocks_it (F : Fence) (hF : F = Fence.wide) (m : Nat) (hm : 1 ≤ m) (lp Bx e : Nat) (l : List (Nat × Nat)) (a : Option Addr) (n c : Nat) (J Jx : List Blk → World → Prop) (hn : n ≤ 1024) (hsm : ∀ p ∈ l, p.1 ≤ 1024 ∧ p.2 ≤ 1024)
    (hY : ∀ pre (r : Blk) W, J pre W → pre.length < (blkF l).length → YieldAt F (m - 1) Tryz.prog lp #[blkV r] W fun en W' =>
      (en = .returned (.bool true) ∧ J (pre ++ [r]) W' ∧ KeepR e Bx Bx W W') ∨ (en = .returned (.bool false) ∧ Jx (pre ++ [r]) W'))
    (W w0 : World) (he : w0.heap.size = e) (heW : e ≤ W.heap.size) (hBx : Bx < W.heap.size) (hwW : Below e w0 W) (hx : Rows2 w0 a n (rowsP l)) (hJ : AbidesFrom W.heap.size J)
    (hbx : W.cell? ⟨Bx, 0, none⟩ = some (.slice a n c)) (h0 : J [] W) :
    CallsIn F m Tryz.prog 89 #[.func (.yield lp) #[] #[], .pointer (some ⟨Bx, 0, none⟩)] W fun en W' => (∃ v, en = .returned v) ∧
      ((∃ zs, zs = blkF l ∧ J zs W') ∨ (∃ pre, pre <+: blkF l ∧ Jx pre W')) := by
  subst hF
  have hl : l.length = n := by have := hx.len; rwa [rowsP_len] at this
  have HL := Lib.hid hl
  have HX := Lib.hid hx
  have HJ := Lib.hid hJ
  have HBX := Lib.hid hbx
  have HSM := Lib.hid hsm
  have HE := Lib.hid he
  have HWW := Lib.hid hwW
  have HY := Lib.hid (show ∀ pre (r : Blk) W, J pre W → pre.length < (blkF l).length → YieldAt Fence.wide (m - 1) Tryz.prog lp #[blkV r] W fun en W' => ∃ b, en = .returned (.bool b) ∧ AnsC J Jx e Bx Bx pre r W b W' from fun pre x W h1 h2 => (hY pre x W h1 h2).mono fun en W' h => by
    rcases h with ⟨h, h3⟩ | ⟨h, h3⟩
    · exact ⟨true, h, .inl ⟨rfl, h3⟩⟩
    · exact ⟨false, h, .inr ⟨rfl, h3⟩⟩)
  clear hY hx hJ hbx hsm hl he hwW
  refine callsIn_of_wp Tryz.func89 rfl trivial ?_ rfl
  simp only [Tryz.ntmps89, List.size_toArray, List.length_cons, List.length_nil, Nat.reduceAdd, Nat.reduceSub, Array.replicate_succ, Array.replicate_zero, List.push_toArray, List.append_toArray, List.nil_append, List.cons_append]
  gi_wp2
  gi_loopw [3] (fun fv wr => ∃ (k : Nat) (pre : List Blk), k ≤ n ∧ fv = .int .i64 k ∧ pre ++ blkF (l.drop k) = blkF l ∧ J pre wr ∧ KeepR e Bx Bx W wr)
    (fun fv _ => n - (intOf fv).toNat)
  case atStart => exact ⟨0, [], Nat.zero_le _, rfl, by simp, h0, KeepR.refl _ _ _ _⟩
  case round =>
    obtain ⟨wo, rfl⟩ : ∃ wo : World, wo = wr := ⟨_, rfl⟩
    obtain ⟨k, pre, hk, rfl, hpre, hJp, hkr⟩ := hrel
    have HPRE := Lib.hid hpre
    have HJP := Lib.hid hJp
    have HKR := Lib.hid hkr
    have hszo := hkr.size
    have c0 := (hkr.cell (o := 0) (.inr (.inl rfl))).trans HBX.out
    have HC0 := Lib.hid c0
    by_cases hkn : k < n
    · obtain ⟨p, b, o, ab, ao, kr, hp, rfl, q1, q2, q3⟩ := rowAt HX.out hkn
      have hb0 := HWW.out.trans hkr.below
      rw [← HE.out] at hb0
      have HQ1 := Lib.hid (cell_keep hb0 q1)
      have HQ2 := Lib.hid (cell_keep hb0 q2)
      have HQ3 := Lib.hid (cell_keep hb0 q3)
      have HB0 := Lib.hid hb0
      have HP := Lib.hid hp
      have i1 : (k : Int) < (n : Int) := by omega
      clear hpre hJp hkr hb0 hp q1 q2 q3
      gi_wp2_with (fail)
      refine wpIn_region_heldN (fun W' => Below wo.heap.size wo W') 15 [0, 1, 2, 3, 4, 5, 6, 7, 8, 9, 10, 11, 12] [13, 14] (fun _ => trivial) (by kernel_rfl) (by kernel_rfl) (show Below wo.heap.size wo wo.drew from bdrewN wo 1) ?_
      iterate 13
        apply wpTakes_consD rfl rfl (by rfl)
        case hy =>
          rintro W' hb'
          have e0 := cell_keep hb' HC0.out
          have e1 := cell_keep hb' HQ1.out
          have e2 := cell_keep hb' HQ2.out
          have e3 := cell_keep hb' HQ3.out
          clear hb'
          go_simp
          first | done | with_reducible rfl
        simp only [List.setIfInBounds_toArray, List.set_cons_zero, List.set_cons_succ]
      apply wpTakes_nil
      refine wpSeqR_cons rfl ?_
      gi_wp2_with (fail)
      refine ⟨fun _ => (by first | exact bstep (balloc _ _) (bdrewN _ 1) | exact bstep (bdrewN _ 1) (balloc _ _)), ?_⟩
      refine wpSeqR_cons rfl ?_
      gi_wp2_with (fail)
      refine ⟨fun _ => bstep (balloc _ _) (bdrewN _ 1), ?_⟩
      apply wpSeqR_nilN
      obtain ⟨f, hf⟩ : ∃ f, p.1 = f := ⟨_, rfl⟩
      obtain ⟨s, hs⟩ : ∃ s, p.2 = s := ⟨_, rfl⟩
      have hsm := HSM.out p (List.mem_of_getElem? HP.out)
      rw [hf, hs] at hsm ⊢
      have HG0 := Lib.hid (show blkF (l.drop k) = blkG ⟨(f : Int), (s : Int), ((1 : Nat) : Int)⟩ (l.drop (k + 1)) by rw [drop_at HP.out, blkF, hf, hs]; rfl)
      have HBW := Lib.hid (show Below wo.heap.size wo ((wo.alloc (.cells #[.int .i64 (f : Int), .int .i64 (s : Int), .int .i64 1] 54)).drew) from bstep (balloc _ _) (bdrewN _ 1))
      have HKW := Lib.hid (show BlkK ((wo.alloc (.cells #[.int .i64 (f : Int), .int .i64 (s : Int), .int .i64 1] 54)).drew) wo.heap.size #[.int .i64 (f : Int), .int .i64 (s : Int), .int .i64 ((1 : Nat) : Int)] 54 from (BlkK.new wo _ _).below (bdrewN _ 1))
      clear hf hs c0
      gi_wp2_with (fail)
      gi_loopw [3] (fun tv wk => ∃ t d : Nat, 1 ≤ d ∧ t = k + d ∧ t ≤ n ∧ tv = .int .i64 (t : Int) ∧ blkF (l.drop k) = blkG ⟨(f : Int), (s : Int), (d : Int)⟩ (l.drop t) ∧ BlkK wk wo.heap.size #[.int .i64 (f : Int), .int .i64 (s : Int), .int .i64 (d : Int)] 54 ∧ Below wo.heap.size wo wk)
        (fun tv _ => n - (intOf tv).toNat)
      case atStart => exact ⟨k + 1, 1, Nat.le_refl _, rfl, by omega, by simp, HG0.out, HKW.out, HBW.out⟩
      case round =>
        obtain ⟨t, d, hd1, htd, htn, rfl, hg, hkb, hb⟩ := hrel
        have HTD := Lib.hid htd
        have hdb : d ≤ 1024 := by omega
        have hkt : k < t := by omega
        have HGG := Lib.hid hg
        have HKB := Lib.hid hkb
        have HBB := Lib.hid hb
        have HC2 := Lib.hid (cell_keep hb HC0.out)
        have HK0 := Lib.hid (hkb.cell (i := 0) rfl)
        have HK1 := Lib.hid (hkb.cell (i := 1) rfl)
        have HK2 := Lib.hid (hkb.cell (i := 2) rfl)
        have HBD := Lib.hid (show Below wo.heap.size wo wr.drew from bstep hb (bdrewN wr 1))
        have HJ1 := Lib.hid (HJ.out _ _ _ none HJP.out (show wo.grownBy wr.drew none from ⟨HBD.out.os, HBD.out.tape, HBD.out.output, HBD.out.size, fun k hk _ => HBD.out.block k hk⟩) (by simp))
        have HKR1 := Lib.hid (HKR.out.trans (KeepR.of_below HBD.out (Nat.le_trans heW hszo) (Nat.lt_of_lt_of_le hBx hszo) (Nat.lt_of_lt_of_le hBx hszo)))
        clear hg hkb hb htd
        by_cases hlt : t < n
        · obtain ⟨q, b', o', ab', ao', kr', hq, he', r1, r2, r3⟩ := rowAt HX.out hlt
          cases he'
          have hb0 : Below w0.heap.size w0 wr := bstep HB0.out HBB.out
          have HT1 := Lib.hid (cell_keep hb0 r1)
          have HT2 := Lib.hid (cell_keep hb0 r2)
          have HT3 := Lib.hid (cell_keep hb0 r3)
          have HQ := Lib.hid hq
          have hsq := HSM.out q (List.mem_of_getElem? hq)
          clear hb0 r1 r2 r3 hq
          have i2 : (t : Int) < (n : Int) := by omega
          by_cases hA : q.1 = f + d
          · by_cases hB : q.2 = s + d
            · have HGO := Lib.hid (show blkF (l.drop k) = blkG ⟨(f : Int), (s : Int), ((d + 1 : Nat) : Int)⟩ (l.drop (t + 1)) by rw [HGG.out, blkF_go HQ.out (by constructor <;> simp <;> omega)]; rfl)
              have w1 : IntKind.i64.wrap ((f : Int) + (d : Int)) = (f : Int) + (d : Int) := IntWalk.i64_in _ (by omega)
              have w2 : IntKind.i64.wrap ((s : Int) + (d : Int)) = (s : Int) + (d : Int) := IntWalk.i64_in _ (by omega)
              have d1 : ((q.1 : Int) == (f : Int) + (d : Int)) = true := by rw [beq_iff_eq]; omega
              have d2 : ((q.2 : Int) == (s : Int) + (d : Int)) = true := by rw [beq_iff_eq]; omega
              gi_wp2_with (fail)
              refine wpIn_region_heldN (fun W' => Below wr.heap.size wr W') 32 [0, 1, 2, 3, 4, 5, 6, 7, 8, 9, 10, 11, 12, 13, 14, 15, 16, 17, 18, 19, 20, 21, 22, 23, 24, 25, 26, 27, 28, 29, 30, 31] [] (fun _ => trivial) (by kernel_rfl) (by kernel_rfl) (show Below wr.heap.size wr wr.drew from bdrewN wr 1) ?_
              iterate 5
                apply wpTakes_consD rfl rfl (by rfl)
                case hy =>
                  rintro W' hb'
                  have e0 := cell_keep hb' HC2.out
                  have e1 := cell_keep hb' HK0.out
                  have e2 := cell_keep hb' HK1.out
                  have e3 := cell_keep hb' HK2.out
                  clear hb'
                  go_simp
                  first | done | with_reducible rfl
                simp only [List.setIfInBounds_toArray, List.set_cons_zero, List.set_cons_succ]
              iterate 12
                apply wpTakes_gdD (j := 4) (t := 28) (b := true) (c := true) rfl rfl rfl rfl rfl (by simp) rfl
                case hy =>
                  rintro W' hb'
                  have e0 := cell_keep hb' HC2.out
                  have e1 := cell_keep hb' HK0.out
                  have e2 := cell_keep hb' HK1.out
                  have e3 := cell_keep hb' HK2.out
                  have e4 := cell_keep hb' HT1.out
                  have e5 := cell_keep hb' HT2.out
                  have e6 := cell_keep hb' HT3.out
                  clear hb'
                  go_simp
                  first | done | with_reducible rfl
                simp only [List.setIfInBounds_toArray, List.set_cons_zero, List.set_cons_succ]
              iterate 2
                apply wpTakes_consD rfl rfl (by rfl)
                case hy =>
                  rintro W' hb'
                  have e0 := cell_keep hb' HC2.out
                  have e1 := cell_keep hb' HK0.out
                  have e2 := cell_keep hb' HK1.out
                  have e3 := cell_keep hb' HK2.out
                  have e4 := cell_keep hb' HT1.out
                  have e5 := cell_keep hb' HT2.out
                  have e6 := cell_keep hb' HT3.out
                  clear hb'
                  go_simp
                  first | done | with_reducible rfl
                simp only [List.setIfInBounds_toArray, List.set_cons_zero, List.set_cons_succ]
              iterate 12
                apply wpTakes_gdD (j := 18) (t := 42) (b := true) (c := true) rfl rfl rfl rfl rfl (by simp) rfl
                case hy =>
                  rintro W' hb'
                  have e0 := cell_keep hb' HC2.out
                  have e1 := cell_keep hb' HK0.out
                  have e2 := cell_keep hb' HK1.out
                  have e3 := cell_keep hb' HK2.out
                  have e4 := cell_keep hb' HT1.out
                  have e5 := cell_keep hb' HT2.out
                  have e6 := cell_keep hb' HT3.out
                  clear hb'
                  go_simp
                  first | done | with_reducible rfl
                simp only [List.setIfInBounds_toArray, List.set_cons_zero, List.set_cons_succ]
              iterate 1
                apply wpTakes_consD rfl rfl (by rfl)
                case hy =>
                  rintro W' hb'
                  have e0 := cell_keep hb' HC2.out
                  have e1 := cell_keep hb' HK0.out
                  have e2 := cell_keep hb' HK1.out
                  have e3 := cell_keep hb' HK2.out
                  have e4 := cell_keep hb' HT1.out
                  have e5 := cell_keep hb' HT2.out
                  have e6 := cell_keep hb' HT3.out
                  clear hb'
                  go_simp
                  first | done | with_reducible rfl
                simp only [List.setIfInBounds_toArray, List.set_cons_zero, List.set_cons_succ]
              apply wpTakes_nil
              apply wpSeqR_nilN
              clear w1 w2
              have k2 : wr.drew.cell? ⟨wo.heap.size, 2, none⟩ = some (.int .i64 (d : Int)) := cell_keep (bdrewN wr 1) HK2.out
              have kf : wr.drew.frozen? ⟨wo.heap.size, 2, none⟩ = false := (HKB.out.below (bdrewN wr 1)).hard (i := 2)
              have HK3 := Lib.hid (show BlkK ((wr.setCell ⟨wo.heap.size, 2, none⟩ (.int .i64 ((d + 1 : Nat) : Int))).drew) wo.heap.size #[.int .i64 (f : Int), .int .i64 (s : Int), .int .i64 ((d + 1 : Nat) : Int)] 54 from (HKB.out.put (i := 2)).below (bdrewN _ 1))
              have HB3 := Lib.hid (show Below wo.heap.size wo ((wr.setCell ⟨wo.heap.size, 2, none⟩ (.int .i64 ((d + 1 : Nat) : Int))).drew) from bstep (HBB.out.setCell (p := ⟨wo.heap.size, 2, none⟩) (Nat.le_refl _) _) (bdrewN _ 1))
              gi_wp2_with (fail)
              go_roundw
              case rel => exact ⟨t + 1, d + 1, by omega, by have := HTD.out; omega, by omega, by simp, HGO.out, by simpa using HK3.out, by simpa using HB3.out⟩
              case measure => simp [intOf]; omega
            · have HSTOP := Lib.hid (show blkF (l.drop k) = ⟨(f : Int), (s : Int), (d : Int)⟩ :: blkF (l.drop t) by rw [HGG.out]; exact blkF_stop fun q' hq' h => by rw [HQ.out] at hq'; cases hq'; have := h.2; simp only at this; omega)
              have w1 : IntKind.i64.wrap ((f : Int) + (d : Int)) = (f : Int) + (d : Int) := IntWalk.i64_in _ (by omega)
              have w2 : IntKind.i64.wrap ((s : Int) + (d : Int)) = (s : Int) + (d : Int) := IntWalk.i64_in _ (by omega)
              have d1 : ((q.1 : Int) == (f : Int) + (d : Int)) = true := by rw [beq_iff_eq]; omega
              have d2 : ((q.2 : Int) == (s : Int) + (d : Int)) = false := by rw [beq_eq_false_iff_ne]; omega
              gi_wp2_with (fail)
              refine wpIn_region_heldN (fun W' => Below wr.heap.size wr W') 32 [0, 1, 2, 3, 4, 5, 6, 7, 8, 9, 10, 11, 12, 13, 14, 15, 16, 17, 18, 19, 20, 21, 22, 23, 24, 25, 26, 27, 28, 29, 30, 31] [] (fun _ => trivial) (by kernel_rfl) (by kernel_rfl) (show Below wr.heap.size wr wr.drew from bdrewN wr 1) ?_
              iterate 5
                apply wpTakes_consD rfl rfl (by rfl)
                case hy =>
                  rintro W' hb'
                  have e0 := cell_keep hb' HC2.out
                  have e1 := cell_keep hb' HK0.out
                  have e2 := cell_keep hb' HK1.out
                  have e3 := cell_keep hb' HK2.out
                  clear hb'
                  go_simp
                  first | done | with_reducible rfl
                simp only [List.setIfInBounds_toArray, List.set_cons_zero, List.set_cons_succ]
              iterate 12
                apply wpTakes_gdD (j := 4) (t := 28) (b := true) (c := true) rfl rfl rfl rfl rfl (by simp) rfl
                case hy =>
                  rintro W' hb'
                  have e0 := cell_keep hb' HC2.out
                  have e1 := cell_keep hb' HK0.out
                  have e2 := cell_keep hb' HK1.out
                  have e3 := cell_keep hb' HK2.out
                  have e4 := cell_keep hb' HT1.out
                  have e5 := cell_keep hb' HT2.out
                  have e6 := cell_keep hb' HT3.out
                  clear hb'
                  go_simp
                  first | done | with_reducible rfl
                simp only [List.setIfInBounds_toArray, List.set_cons_zero, List.set_cons_succ]
              iterate 2
                apply wpTakes_consD rfl rfl (by rfl)
                case hy =>
                  rintro W' hb'
                  have e0 := cell_keep hb' HC2.out
                  have e1 := cell_keep hb' HK0.out
                  have e2 := cell_keep hb' HK1.out
                  have e3 := cell_keep hb' HK2.out
                  have e4 := cell_keep hb' HT1.out
                  have e5 := cell_keep hb' HT2.out
                  have e6 := cell_keep hb' HT3.out
                  clear hb'
                  go_simp
                  first | done | with_reducible rfl
                simp only [List.setIfInBounds_toArray, List.set_cons_zero, List.set_cons_succ]
              iterate 12
                apply wpTakes_gdD (j := 18) (t := 42) (b := true) (c := true) rfl rfl rfl rfl rfl (by simp) rfl
                case hy =>
                  rintro W' hb'
                  have e0 := cell_keep hb' HC2.out
                  have e1 := cell_keep hb' HK0.out
                  have e2 := cell_keep hb' HK1.out
                  have e3 := cell_keep hb' HK2.out
                  have e4 := cell_keep hb' HT1.out
                  have e5 := cell_keep hb' HT2.out
                  have e6 := cell_keep hb' HT3.out
                  clear hb'
                  go_simp
                  first | done | with_reducible rfl
                simp only [List.setIfInBounds_toArray, List.set_cons_zero, List.set_cons_succ]
              iterate 1
                apply wpTakes_consD rfl rfl (by rfl)
                case hy =>
                  rintro W' hb'
                  have e0 := cell_keep hb' HC2.out
                  have e1 := cell_keep hb' HK0.out
                  have e2 := cell_keep hb' HK1.out
                  have e3 := cell_keep hb' HK2.out
                  have e4 := cell_keep hb' HT1.out
                  have e5 := cell_keep hb' HT2.out
                  have e6 := cell_keep hb' HT3.out
                  clear hb'
                  go_simp
                  first | done | with_reducible rfl
                simp only [List.setIfInBounds_toArray, List.set_cons_zero, List.set_cons_succ]
              clear w1 w2
              apply wpTakes_nil
              apply wpSeqR_nilN
              obtain ⟨fn, tmps, assign, body, hy, hR⟩ := HY.out pre ⟨(f : Int), (s : Int), (d : Int)⟩ wr.drew HJ1.out (by rw [← HPRE.out, HSTOP.out]; simp)
              unfold blkV at hy
              have k0 : wr.drew.cell? ⟨wo.heap.size, 0, none⟩ = some (.int .i64 (f : Int)) := cell_keep (bdrewN wr 1) HK0.out
              have k1 : wr.drew.cell? ⟨wo.heap.size, 1, none⟩ = some (.int .i64 (s : Int)) := cell_keep (bdrewN wr 1) HK1.out
              have k2 : wr.drew.cell? ⟨wo.heap.size, 2, none⟩ = some (.int .i64 (d : Int)) := cell_keep (bdrewN wr 1) HK2.out
              gi_wp2_with (refine hR.mono ?_; rintro en W5 ⟨ans, rfl, hans⟩)
              all_goals clear hy hR
              all_goals have HANS := Lib.hid hans
              all_goals clear hans
              all_goals rcases HANS.out with ⟨rfl, hJ3, hk3⟩ | ⟨rfl, hJx3⟩
              all_goals clear HANS
              all_goals first
                | (exfalso; simp_all; done)
                | exact ⟨⟨t, pre ++ [⟨(f : Int), (s : Int), (d : Int)⟩], by omega, by simp, by rw [← HPRE.out, HSTOP.out]; simp, hJ3, HKR1.out.trans hk3⟩, by simp [intOf]; omega⟩
                | exact bodyPost_ret (results_none rfl _ _ _) rfl ⟨⟨_, rfl⟩, .inr ⟨_, by rw [← HPRE.out, HSTOP.out]; exact ⟨blkF (l.drop t), by simp⟩, hJx3⟩⟩
          · have HSTOP := Lib.hid (show blkF (l.drop k) = ⟨(f : Int), (s : Int), (d : Int)⟩ :: blkF (l.drop t) by rw [HGG.out]; exact blkF_stop fun q' hq' h => by rw [HQ.out] at hq'; cases hq'; have := h.1; simp only at this; omega)
            have w1 : IntKind.i64.wrap ((f : Int) + (d : Int)) = (f : Int) + (d : Int) := IntWalk.i64_in _ (by omega)
            have d1 : ((q.1 : Int) == (f : Int) + (d : Int)) = false := by rw [beq_eq_false_iff_ne]; omega
            gi_wp2_with (fail)
            refine wpIn_region_heldN (fun W' => Below wr.heap.size wr W') 32 [0, 1, 2, 3, 4, 5, 6, 7, 8, 9, 10, 11, 12, 13, 14, 15, 16, 17, 18, 19, 20, 21, 22, 23, 24, 25, 26, 27, 28, 29, 30, 31] [] (fun _ => trivial) (by kernel_rfl) (by kernel_rfl) (show Below wr.heap.size wr wr.drew from bdrewN wr 1) ?_
            iterate 5
              apply wpTakes_consD rfl rfl (by rfl)
              case hy =>
                rintro W' hb'
                have e0 := cell_keep hb' HC2.out
                have e1 := cell_keep hb' HK0.out
                have e2 := cell_keep hb' HK1.out
                have e3 := cell_keep hb' HK2.out
                clear hb'
                go_simp
                first | done | with_reducible rfl
              simp only [List.setIfInBounds_toArray, List.set_cons_zero, List.set_cons_succ]
            iterate 12
              apply wpTakes_gdD (j := 4) (t := 28) (b := true) (c := true) rfl rfl rfl rfl rfl (by simp) rfl
              case hy =>
                rintro W' hb'
                have e0 := cell_keep hb' HC2.out
                have e1 := cell_keep hb' HK0.out
                have e2 := cell_keep hb' HK1.out
                have e3 := cell_keep hb' HK2.out
                have e4 := cell_keep hb' HT1.out
                have e5 := cell_keep hb' HT2.out
                have e6 := cell_keep hb' HT3.out
                clear hb'
                go_simp
                first | done | with_reducible rfl
              simp only [List.setIfInBounds_toArray, List.set_cons_zero, List.set_cons_succ]
            iterate 2
              apply wpTakes_consD rfl rfl (by rfl)
              case hy =>
                rintro W' hb'
                have e0 := cell_keep hb' HC2.out
                have e1 := cell_keep hb' HK0.out
                have e2 := cell_keep hb' HK1.out
                have e3 := cell_keep hb' HK2.out
                have e4 := cell_keep hb' HT1.out
                have e5 := cell_keep hb' HT2.out
                have e6 := cell_keep hb' HT3.out
                clear hb'
                go_simp
                first | done | with_reducible rfl
              simp only [List.setIfInBounds_toArray, List.set_cons_zero, List.set_cons_succ]
            iterate 12
              apply wpTakes_noD (j := 18) (t := 42) (b := false) (c := true) rfl rfl rfl rfl rfl (by simp) rfl
              simp only [List.setIfInBounds_toArray, List.set_cons_zero, List.set_cons_succ]
            iterate 1
              apply wpTakes_consD rfl rfl (by rfl)
              case hy =>
                rintro W' hb'
                have e0 := cell_keep hb' HC2.out
                have e1 := cell_keep hb' HK0.out
                have e2 := cell_keep hb' HK1.out
                have e3 := cell_keep hb' HK2.out
                have e4 := cell_keep hb' HT1.out
                have e5 := cell_keep hb' HT2.out
                have e6 := cell_keep hb' HT3.out
                clear hb'
                go_simp
                first | done | with_reducible rfl
              simp only [List.setIfInBounds_toArray, List.set_cons_zero, List.set_cons_succ]
            clear w1
            apply wpTakes_nil
            apply wpSeqR_nilN
            obtain ⟨fn, tmps, assign, body, hy, hR⟩ := HY.out pre ⟨(f : Int), (s : Int), (d : Int)⟩ wr.drew HJ1.out (by rw [← HPRE.out, HSTOP.out]; simp)
            unfold blkV at hy
            have k0 : wr.drew.cell? ⟨wo.heap.size, 0, none⟩ = some (.int .i64 (f : Int)) := cell_keep (bdrewN wr 1) HK0.out
            have k1 : wr.drew.cell? ⟨wo.heap.size, 1, none⟩ = some (.int .i64 (s : Int)) := cell_keep (bdrewN wr 1) HK1.out
            have k2 : wr.drew.cell? ⟨wo.heap.size, 2, none⟩ = some (.int .i64 (d : Int)) := cell_keep (bdrewN wr 1) HK2.out
            gi_wp2_with (refine hR.mono ?_; rintro en W5 ⟨ans, rfl, hans⟩)
            all_goals clear hy hR
            all_goals have HANS := Lib.hid hans
            all_goals clear hans
            all_goals rcases HANS.out with ⟨rfl, hJ3, hk3⟩ | ⟨rfl, hJx3⟩
            all_goals clear HANS
            all_goals first
              | (exfalso; simp_all; done)
              | exact ⟨⟨t, pre ++ [⟨(f : Int), (s : Int), (d : Int)⟩], by omega, by simp, by rw [← HPRE.out, HSTOP.out]; simp, hJ3, HKR1.out.trans hk3⟩, by simp [intOf]; omega⟩
              | exact bodyPost_ret (results_none rfl _ _ _) rfl ⟨⟨_, rfl⟩, .inr ⟨_, by rw [← HPRE.out, HSTOP.out]; exact ⟨blkF (l.drop t), by simp⟩, hJx3⟩⟩
        · obtain rfl : n = t := by omega
          have HSTOP := Lib.hid (show blkF (l.drop k) = ⟨(f : Int), (s : Int), (d : Int)⟩ :: blkF (l.drop n) by rw [HGG.out]; exact blkF_stop fun q' hq' h => by have := (List.getElem?_eq_some_iff.1 hq').1; have := HL.out; omega)
          gi_wp2_with (fail)
          refine wpIn_region_heldN (fun W' => Below wr.heap.size wr W') 32 [0, 1, 2, 3, 4, 5, 6, 7, 8, 9, 10, 11, 12, 13, 14, 15, 16, 17, 18, 19, 20, 21, 22, 23, 24, 25, 26, 27, 28, 29, 30, 31] [] (fun _ => trivial) (by kernel_rfl) (by kernel_rfl) (show Below wr.heap.size wr wr.drew from bdrewN wr 1) ?_
          iterate 5
            apply wpTakes_consD rfl rfl (by rfl)
            case hy =>
              rintro W' hb'
              have e0 := cell_keep hb' HC2.out
              have e1 := cell_keep hb' HK0.out
              have e2 := cell_keep hb' HK1.out
              have e3 := cell_keep hb' HK2.out
              clear hb'
              go_simp
              first | done | with_reducible rfl
            simp only [List.setIfInBounds_toArray, List.set_cons_zero, List.set_cons_succ]
          iterate 12
            apply wpTakes_noD (j := 4) (t := 28) (b := false) (c := true) rfl rfl rfl rfl rfl (by simp) rfl
            simp only [List.setIfInBounds_toArray, List.set_cons_zero, List.set_cons_succ]
          iterate 2
            apply wpTakes_consD rfl rfl (by rfl)
            case hy =>
              rintro W' hb'
              have e0 := cell_keep hb' HC2.out
              have e1 := cell_keep hb' HK0.out
              have e2 := cell_keep hb' HK1.out
              have e3 := cell_keep hb' HK2.out
              clear hb'
              go_simp
              first | done | with_reducible rfl
            simp only [List.setIfInBounds_toArray, List.set_cons_zero, List.set_cons_succ]
          iterate 12
            apply wpTakes_noD (j := 18) (t := 42) (b := false) (c := true) rfl rfl rfl rfl rfl (by simp) rfl
            simp only [List.setIfInBounds_toArray, List.set_cons_zero, List.set_cons_succ]
          iterate 1
            apply wpTakes_consD rfl rfl (by rfl)
            case hy =>
              rintro W' hb'
              have e0 := cell_keep hb' HC2.out
              have e1 := cell_keep hb' HK0.out
              have e2 := cell_keep hb' HK1.out
              have e3 := cell_keep hb' HK2.out
              clear hb'
              go_simp
              first | done | with_reducible rfl
            simp only [List.setIfInBounds_toArray, List.set_cons_zero, List.set_cons_succ]
          apply wpTakes_nil
          apply wpSeqR_nilN
          obtain ⟨fn, tmps, assign, body, hy, hR⟩ := HY.out pre ⟨(f : Int), (s : Int), (d : Int)⟩ wr.drew HJ1.out (by rw [← HPRE.out, HSTOP.out]; simp)
          unfold blkV at hy
          have k0 : wr.drew.cell? ⟨wo.heap.size, 0, none⟩ = some (.int .i64 (f : Int)) := cell_keep (bdrewN wr 1) HK0.out
          have k1 : wr.drew.cell? ⟨wo.heap.size, 1, none⟩ = some (.int .i64 (s : Int)) := cell_keep (bdrewN wr 1) HK1.out
          have k2 : wr.drew.cell? ⟨wo.heap.size, 2, none⟩ = some (.int .i64 (d : Int)) := cell_keep (bdrewN wr 1) HK2.out
          gi_wp2_with (refine hR.mono ?_; rintro en W5 ⟨ans, rfl, hans⟩)
          all_goals clear hy hR
          all_goals have HANS := Lib.hid hans
          all_goals clear hans
          all_goals rcases HANS.out with ⟨rfl, hJ3, hk3⟩ | ⟨rfl, hJx3⟩
          all_goals clear HANS
          all_goals first
            | (exfalso; simp_all; done)
            | exact ⟨⟨n, pre ++ [⟨(f : Int), (s : Int), (d : Int)⟩], by omega, by simp, by rw [← HPRE.out, HSTOP.out]; simp, hJ3, HKR1.out.trans hk3⟩, by simp [intOf]; omega⟩
            | exact bodyPost_ret (results_none rfl _ _ _) rfl ⟨⟨_, rfl⟩, .inr ⟨_, by rw [← HPRE.out, HSTOP.out]; exact ⟨blkF (l.drop n), by simp⟩, hJx3⟩⟩
    · have HZ := Lib.hid (show pre = blkF l by rw [← HPRE.out, List.drop_eq_nil_of_le (by rw [HL.out]; omega)]; simp [blkF])
      clear hpre hJp hkr
      gi_wp2_with (fail)
      go_end0
      exact ⟨⟨_, rfl⟩, .inl ⟨_, rfl, by rw [← HZ.out]; exact HJP.out⟩⟩
end Go.Proofs.YtbahddjbncinbaaGreatDoor
