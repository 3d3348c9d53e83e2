/-
  The places of a collation: the program's way.
-/
import Derived.Test.YthfppkcefnmdoaaGreatDoorNf
import Derived.Test.YthfppkcefnmdoaaGreatDoorRu
import Derived.Test.YthfppkcefnmdoaaGreatDoorRegR
import Derived.Test.YthfppkcefnmdoaaGreatDoorNg
namespace Go.Ap
theorem BlkK.coll {W : Go.World} {b : Nat} {sec : Str} {a1 : Option Go.Addr} {n1 c1 : Nat} {a2 : Option Go.Addr} {n2 c2 : Nat} {a3 : Option Go.Addr} {n3 c3 : Nat}
    (h : BlkK W b #[.string (bs sec), .slice a1 n1 c1, .slice a2 n2 c2, .slice a3 n3 c3] 26) : Go.Proofs.YthfppkcefnmdoaaGreatDoor.BoxC W b sec a1 n1 c1 a2 n2 c2 a3 n3 c3 :=
  ⟨h.cell rfl, h.cell rfl, h.cell rfl, h.cell rfl⟩
end Go.Ap
namespace Go.Proofs.YthfppkcefnmdoaaGreatDoor
open Go.RowKit Go.Ap Go.Shelf Go.Proofs

attribute [local go_sem] Oper.semAt_some bs_toList empty_toList bs_size bs_extract
theorem infoPl : (Tryz.prog.info? 36).map (fun i => (i.zero, i.size, i.bytes)) = some (some (.agg #[.int .i64 0, .int .i64 0, .slice none 0 0]), 3, 40) := by kernel_rfl

theorem runsP' (x : Coll) (a1 : Option Addr) (n1 c1 : Nat) (a2 : Option Addr) (n2 c2 : Nat) (a3 : Option Addr) (n3 c3 : Nat) (w : World) :
    Calls Tryz.prog 53 #[collV x.sec a1 n1 c1 a2 n2 c2 a3 n3 c3] w fun e w' => e = .returned (.func (.func 81) #[] #[.pointer (some ⟨w.heap.size, 0, none⟩)]) ∧
      BlkK w' w.heap.size #[.string (bs x.sec), .slice a1 n1 c1, .slice a2 n2 c2, .slice a3 n3 c3] 26 ∧ Below w.heap.size w w' := by
  unfold collV
  go_enter Tryz.func53, Tryz.ntmps53
  go_wp2_with (fail)
  go_ret
  exact ⟨rfl, BlkK.new _ _ _, balloc _ _⟩
/-- the place of a run -/
def plcR (x : Coll) (r : Nat × Nat) : Plc := ⟨r.1, r.2, rdsL x r.1 r.2⟩
def plcS (x : Coll) (n : Nat) (r : {r : Nat × Nat // r ∈ runsF (comB x) n 0}) : Plc := plcR x r.1
/-- the box of the places found so far -/
structure UnI (w : World) (x : Coll) (cs : Array Value) (B4 Bx : Nat) (us : List Plc) (W : World) : Prop where
  row : ∃ v, Boxed W B4 31 v ∧ OwnPl w W v us
  own : BlkK W w.heap.size cs 26
  it : BlkK W Bx cs 26
  bel : Below w.heap.size w W
theorem UnI.keptN {w W W' : World} {x : Coll} {cs : Array Value} {B4 Bx : Nat} {us : List Plc} {row : Option Nat} (h : UnI w x cs B4 Bx us W) (hg : W.grownBy W' row) (hr : NoCells W row) (hr2 : ∀ r, row = some r → w.heap.size ≤ r) : UnI w x cs B4 Bx us W' := by
  obtain ⟨⟨v, h1, h2⟩, h3, h4, h5⟩ := h
  refine ⟨⟨v, ?_, h2.keptN hg hr.off⟩, h3.keptN hg hr, h4.keptN hg hr, h5.grown hg h5.size fun r he => hr2 r he⟩
  exact BlkK.keptN h1 hg hr

/-- one more place -/
theorem UnI.push {w W2 w4 : World} {x : Coll} {cs : Array Value} {B4 Bx : Nat} {us : List Plc} {v v1 : Value} {n m : Nat} {xs ys : List Value} {tmp : Obj} (hv1 : Boxed W2 B4 31 v) (h3 : BlkK W2 w.heap.size cs 26) (h4 : BlkK W2 Bx cs 26)
    (h5 : Below w.heap.size w W2) (hB : w.heap.size < B4) (hx : Bx ≠ B4) (hrow : W2.ownsRow w.heap.size 36 3 v n xs) (hown : OwnPl w w4 v1 us) (hrow1 : w4.ownsRow w.heap.size 36 3 v1 m ys) (hg : (W2.alloc tmp).grownBy w4 v.ownBlock) :
    UnI w x cs B4 Bx us (w4.setCell ⟨B4, 0, none⟩ v1) ∧ KeepR w.heap.size Bx Bx W2 (w4.setCell ⟨B4, 0, none⟩ v1) ∧ KeepsOthers W2 (w4.setCell ⟨B4, 0, none⟩ v1) := by
  obtain ⟨b1, b2, b3, b4, b5⟩ := hv1.appended (by decide) hrow h5.size (Nat.le_of_lt hB) hrow1 hg
  have gs := grownBy_setCell' w4 B4 v1
  have kk : ∀ b, b ≠ B4 → BlkK W2 b cs 26 → BlkK (w4.setCell ⟨B4, 0, none⟩ v1) b cs 26 := fun b hb h =>
    ((h.below (balloc W2 tmp)).keptE hg (BlkK.apart h hrow (by decide))).keptE gs (by simpa using hb)
  have k4 := kk _ hx h4
  exact ⟨⟨⟨v1, b2, hown.keptN gs (BlkK.off (cs := #[v]) b1 (by decide))⟩, kk _ (by omega) h3, k4, h5.trans b5⟩,
    ⟨b5.os, b5.tape, b5.output, b5.size, fun k hk => by
      rcases hk with hk | hk
      · exact b5.block k hk
      · have : k = Bx := by omega
        subst this
        exact k4.trans h4.symm⟩, b4⟩

set_option maxRecDepth 100000 in
set_option maxHeartbeats 8000000 in
theorem unitsP (x : Coll) (a1 : Option Addr) (n1 c1 : Nat) (a2 : Option Addr) (n2 c2 : Nat) (a3 : Option Addr) (n3 c3 : Nat) (w : World) (h : CollM w a1 a2 a3 n1 n2 n3 x) (hc1 : n1 ≤ c1) (hev : EV w) (h32 : x.columns.length ≤ 1048576) (hok : collC x = 0) :
    CallsIn Fence.wide 10 Tryz.prog 14 #[collV x.sec a1 n1 c1 a2 n2 c2 a3 n3 c3] w fun e w' => ∃ v, e = .returned (.tuple #[v, .int .i64 0]) ∧ OwnPl w w' v (unitsL x) ∧ Below w.heap.size w w' := by
  obtain ⟨i0, hi0, hz0, hz1, hz2⟩ := info_parts infoPl
  have hv := val_of hok
  have hl3 := h.columns.len
  have HC := Lib.hid (fun W (hb : Below w.heap.size w W) => collP x a1 n1 c1 a2 n2 c2 a3 n3 c3 W (h.mono (Nat.le_refl _) hb) hc1 (hev.mono (Nat.le_refl _) hb))
  rw [hok] at HC
  have HRS := Lib.hid (fun lo hi (hlh : lo ≤ hi) (hh : hi ≤ n3) W (hb : Below w.heap.size w W) => readingsP x a1 n1 c1 a2 n2 c2 a3 n3 c3 W (h.mono (Nat.le_refl _) hb) hv lo hi hlh (by omega) h32)
  have HRU := Lib.hid (fun W => runsP' x a1 n1 c1 a2 n2 c2 a3 n3 c3 W)
  have HST := Lib.hid (fun (W : World) (Bx : Nat) (hb0 : Below w.heap.size w W) (hBx : Bx < W.heap.size) (hbx : BoxC W Bx x.sec a1 n1 c1 a2 n2 c2 a3 n3 c3) m hm => runs_stops x a1 n1 c1 a2 n2 c2 a3 n3 c3 W w h hv Bx hb0 hBx hbx m hm)
  have hle := hv.le
  have HSM := Lib.hid (fun lo hi (hh : hi - lo ≤ 1048576) => rdsL_small (x := x) (lo := lo) (hi := hi) hle hh)
  have HUL := Lib.hid (show unitsL x = (runsF (comB x) n3 0).map (plcR x) by unfold unitsL; rw [hl3]; rfl)
  have eg := enters_of Tryz.func81 (by kernel_rfl) rfl
  have hF52 : Fence.wide.fn 52 := trivial
  have hF54 : Fence.wide.fn 54 := trivial
  have hF53 : Fence.wide.fn 53 := trivial
  clear h hok hv hev
  unfold collV at HC HRS HRU ⊢
  refine callsIn_of_wp_marks Tryz.func14 rfl trivial ?_ rfl
  simp only [Tryz.ntmps14, List.size_toArray, List.length_cons, List.length_nil, Nat.reduceAdd, Nat.reduceSub, Array.replicate_succ, Array.replicate_zero, List.push_toArray, List.append_toArray, List.nil_append, List.cons_append]
  gi_wp2_with (fail)
  refine (callsIn_wide.2 (HC.out _ (balloc _ _))).mono ?_
  rintro e w1 ⟨rfl, hb1⟩
  have HB1 := Lib.hid (bstep (balloc _ _) hb1)
  have HK1 := Lib.hid ((BlkK.new w #[.string (bs x.sec), .slice a1 n1 c1, .slice a2 n2 c2, .slice a3 n3 c3] 26).below hb1)
  have kb := balloc w1 (.cells #[.slice none 0 0] 31)
  have HK2 := Lib.hid (HK1.out.below kb)
  have k0 := HK2.out.coll.k0
  have k1 := HK2.out.coll.k1
  have k2 := HK2.out.coll.k2
  have k3 := HK2.out.coll.k3
  have HB2 := Lib.hid (bstep HB1.out kb)
  have BX := Lib.hid (show Boxed (w1.alloc (.cells #[.slice none 0 0] 31)) w1.heap.size 31 (.slice none 0 0) from Boxed.new _ _ _)
  clear hb1 kb
  gi_wp2_with (fail)
  refine (callsIn_wide.2 (HRU.out _)).mono ?_
  rintro e w2 ⟨rfl, hbx, hb2⟩
  have hsz1 := HB1.out.size
  have hsz2 := hb2.size
  have hsz0 := World.block_lt_of_cell? w1 _ (HK1.out.coll.k0)
  simp only [World.size_alloc] at hbx hsz2 hsz0 ⊢
  have HB3 := Lib.hid (bstep HB2.out hb2)
  have hbl := hbx.lt
  have HI := Lib.hid (show UnI w x #[.string (bs x.sec), .slice a1 n1 c1, .slice a2 n2 c2, .slice a3 n3 c3] w1.heap.size (w1.heap.size + 1) [] w2 from ⟨⟨_, boxed_below BX.out hb2, OwnPl.nil _ _⟩, HK2.out.below hb2, hbx, HB3.out⟩)
  have HS := Lib.hid (HST.out w2 (w1.heap.size + 1) HB3.out hbx.lt hbx.coll)
  clear hb2 hbx k0 k1 k2 k3 BX
  gi_wp2_with (fail)
  refine wpIn_rangeFunc_ownG (F := Fence.wide) rfl (by omega) (gf := 81) rfl trivial eg
    (HS.out _ (by omega)) KeepR.trans (keepR_b (w := w2) (by omega) (by omega) (by omega)) (Below.refl _ _) (fun _ => rfl)
    (fun (pre : List {r : Nat × Nat // r ∈ runsF (comB x) n3 0}) W => UnI w x #[.string (bs x.sec), .slice a1 n1 c1, .slice a2 n2 c2, .slice a3 n3 c3] w1.heap.size (w1.heap.size + 1) (pre.map (plcS x n3)) W)
    (fun _ _ _ => False)
    (fun _ _ _ _ hI hg hr => UnI.keptN hI hg (fun r he => (hr r he).2) (fun r he => by have := (hr r he).1; omega))
    (fun _ _ _ _ _ hs _ _ => hs)
    HI.out
    (fun r => { tmps := #[.agg #[.string (bs x.sec), .slice a1 n1 c1, .slice a2 n2 c2, .slice a3 n3 c3], .pointer (some ⟨w.heap.size, 0, none⟩), .slice none 0 0, .int .i64 0, .pointer (some ⟨w1.heap.size, 0, none⟩), .int .i64 (r.1.1 : Int), .int .i64 (r.1.2 : Int), .agg #[.string (bs x.sec), .slice a1 n1 c1, .slice a2 n2 c2, .slice a3 n3 c3], .int .i64 0, .bool false, .agg #[.string (bs x.sec), .slice a1 n1 c1, .slice a2 n2 c2, .slice a3 n3 c3], .func (.func 81) #[] #[.pointer (some ⟨w1.heap.size + 1, 0, none⟩)], .int .i64 (r.1.1 : Int), .int .i64 (r.1.2 : Int), undef, undef, undef, undef, undef, undef, undef, undef, undef, undef, undef], defers := [] }) ?assign ?body ?done ?stop
  case assign =>
    intro l r W K hK
    gi_wp2
    exact hK
  case body =>
    rintro l pre ⟨⟨lo, hi⟩, hr⟩ W hI hlt
    obtain ⟨⟨v, hv1, hv2⟩, h3, h4, h5⟩ := hI
    obtain ⟨_, g2, g3, _, _⟩ := runsF_mem (comB x) n3 n3 0 (by omega) lo hi hr
    have HV1 := Lib.hid hv1
    have HV2 := Lib.hid hv2
    have H3 := Lib.hid h3
    have H4 := Lib.hid h4
    have H5 := Lib.hid h5
    have hszW := h5.size
    simp only at hlt ⊢
    clear hv1 hv2 h3 h4 h5
    gi_wp2_with (fail)
    refine wpIn_region_heldR (fun W' => BlkK W' w1.heap.size #[v] 31 ∧ BlkK W' w.heap.size #[.string (bs x.sec), .slice a1 n1 c1, .slice a2 n2 c2, .slice a3 n3 c3] 26) 10 [0, 1, 2, 3, 4, 5] [6, 7, 8, 9, 10] (fun _ => trivial) (by kernel_rfl) (by kernel_rfl) (fun _ _ _ _ _ h => h) ⟨HV1.out, H3.out⟩ ?_
    iterate 6
      apply wpTakes_cons rfl (by rfl)
      case hy =>
        rintro W' ⟨e1, e2⟩
        have c0 := e1.cell (i := 0) rfl
        obtain ⟨d0, d1, d2, d3⟩ := e2.coll
        go_simp
        first | done | with_reducible rfl
      simp only [Act.put, List.setIfInBounds_toArray]
    refine wpSeqR_cons rfl ?_
    gi_wp2_with (fail)
    refine (CallsIn.inRound _ (callsIn_wide.2 (HRS.out lo hi (by omega) (by omega) _ H5.out.drew))).mono ?_
    rintro e W2 ⟨z, rfl, hz, hb2⟩
    have hbd : Below W.heap.size W W2 := bstep (bdrewN W 1) hb2
    have HBD := Lib.hid hbd
    have HV2' := Lib.hid (HV2.out.below hbd)
    have HV1' := Lib.hid (boxed_below HV1.out hbd)
    have H3' := Lib.hid (H3.out.below hbd)
    have H4' := Lib.hid (H4.out.below hbd)
    have HG2 := Lib.hid (grown_of_below hbd)
    have hsz2' := hbd.size
    obtain ⟨a9, k9, rfl, hr9⟩ := hz.rdgs (HSM.out lo hi (by omega))
    obtain ⟨n9, hn9⟩ : ∃ n9, (rdsL x lo hi).length = n9 := ⟨_, rfl⟩
    rw [hn9] at hz ⊢
    obtain ⟨vs, hrow, hnx⟩ := OwnPl.ready (u := plcR x (lo, hi)) (z := .slice a9 n9 k9) HV2'.out (by omega) ⟨by simp only [plcR]; omega, by simp only [plcR]; omega⟩ ⟨by simp only [plcR]; omega, by simp only [plcR]; omega⟩ (.inl (hz.mono (by simpa using hszW)))
    obtain ⟨nu, hnu⟩ : ∃ nu, (pre.map (plcS x n3)).length = nu := ⟨_, rfl⟩
    rw [hnu] at hrow hnx
    have HROW := Lib.hid hrow
    have HNX := Lib.hid hnx
    have hnub : nu ≤ n3 := by rw [← hnu, List.length_map]; have := runsF_count (comB x) n3; omega
    have HNW := Lib.hid (show ∀ (j : Nat) (u : Value), [.int .i64 (lo : Int), .int .i64 (hi : Int), .slice a9 n9 k9][j]? = some u → (W2.alloc (.cells #[.int .i64 (lo : Int), .int .i64 (hi : Int), .slice a9 n9 k9] 36)).cell? ((⟨W2.heap.size, 0, none⟩ : Addr).add j) = some u from World.news_of_block (cs := #[.int .i64 (lo : Int), .int .i64 (hi : Int), .slice a9 n9 k9]) (heap_fresh rfl))
    clear hb2 hbd hz hr9 hn9 hrow hnx hnu
    gi_wp2_with (fail)
    refine ⟨fun _ => ⟨HV1'.out, H3'.out⟩, ?_⟩
    refine wpSeqR_cons rfl ?_
    gi_wp2_with (fail)
    refine ⟨fun _ => ⟨HV1'.out, H3'.out⟩, ?_⟩
    refine wpSeqR_cons rfl ?_
    gi_wp2_with (fail)
    refine ⟨fun _ => ⟨HV1'.out.alloc _, H3'.out.below (balloc _ _)⟩, ?_⟩
    refine wpSeqR_cons rfl ?_
    refine wpListIn_append_own _ rfl _ _ 31 rfl w.heap.size 36 i0 (.agg #[.int .i64 0, .int .i64 0, .slice none 0 0]) 3 40 Tryz.underlying31 hi0 hz0 hz1 hz2 rfl (by decide) _ _ _ rfl (HROW.out.alloc _) ⟨W2.heap.size, 0, none⟩ 1 1 [.int .i64 (lo : Int), .int .i64 (hi : Int), .slice a9 n9 k9] rfl rfl HNW.out (by simp [Value.oneCell']) (by unfold maxLen; omega) (by omega) (by simp; omega) ?_
    intro v1 w4 hown1 hgrow1 _
    obtain ⟨g1, cap1, rfl⟩ := ownsRow_succ hown1
    have HW3 := Lib.hid hown1
    have HG := Lib.hid hgrow1
    clear hown1 hgrow1
    gi_wp2_with (fail)
    have hbx1 : Boxed w4 w1.heap.size 31 v := (HV1'.out.alloc _).kept HG.out (BlkK.apart (cs := #[v]) HV1'.out HROW.out (by decide))
    have ku := (HNX.out _ _ _ HW3.out HG.out).1
    obtain ⟨p1, p2, p3⟩ := UnI.push (x := x) HV1'.out H3'.out H4'.out (H5.out.trans (HBD.out.mono hszW)) (by omega) (by omega) HROW.out ku HW3.out HG.out
    have HP1 := Lib.hid p1
    have HP2 := Lib.hid p2
    have HP3 := Lib.hid p3
    have c1 := hbx1.cell
    have f1 := hbx1.frozen
    have HBX1 := Lib.hid hbx1
    have H34 := Lib.hid ((H3'.out.below (balloc W2 (.cells #[.int .i64 (lo : Int), .int .i64 (hi : Int), .slice a9 n9 k9] 36))).keptE HG.out (BlkK.apart H3'.out HROW.out (by decide)))
    clear ku p1 p2 p3 hbx1
    refine ⟨fun _ => ⟨HBX1.out, H34.out⟩, ?_⟩
    refine wpSeqR_cons rfl ?_
    gi_wp2_with (fail)
    refine ⟨fun h => absurd h (by omega), ?_⟩
    unfold wpSeqR
    gi_wp2_with (fail)
    have hbx' := H4.out.lt
    refine ⟨((KeepsOthers.of_grownBy HG2.out (by simp)).trans HP3.out).from _, (KeepR.of_below HBD.out hszW hbx' hbx').trans HP2.out, ?_⟩
    show UnI w x _ _ _ ((pre ++ [(⟨(lo, hi), hr⟩ : {r : Nat × Nat // r ∈ runsF (comB x) n3 0})]).map (plcS x n3)) _
    rw [List.map_append, List.map_singleton]
    exact HP1.out
  case done =>
    rintro D ys W hD hS hI hK
    obtain ⟨⟨v, hv1, hv2⟩, h3, h4, h5⟩ := hI
    have e1 : ys.map (plcS x n3) = (ys.map (·.1)).map (plcR x) := by rw [List.map_map]; rfl
    have HUS := Lib.hid (e1.trans ((congrArg (List.map (plcR x)) (show ys.map (·.1) = runsF (comB x) n3 0 from hS)).trans HUL.out.symm))
    clear e1
    have HV2 := Lib.hid hv2
    have H5 := Lib.hid h5
    have hK2 := hK
    have c0 := hv1.cell
    clear hv1 hv2 h3 h4 h5 hS
    gi_wp2_with (fail)
    refine ⟨by simp, .inl ⟨_, _, rfl, run_takeDeferred hK, ?_⟩⟩
    refine ⟨.tuple #[v, .int .i64 0], by simp [results, Tryz.f14, go_sem], v, rfl, ?_, H5.out.trans (belowK_b (w := w) (Nat.le_refl _) W D _ _ (by omega) hK2 rfl rfl)⟩
    rw [← HUS.out]
    exact HV2.out.keptN (grownBy_putObj' W D _) (NoCells.off fun r hr => by cases hr; exact ⟨_, hK2, rfl⟩)
  case stop =>
    rintro D c pre W _ _ h _
    exact h.elim
end Go.Proofs.YthfppkcefnmdoaaGreatDoor
