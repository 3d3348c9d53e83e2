/-
  The law of merged indexes.
-/
import Derived.Test.YtngdmpkoedpgdaaGreatDoorMp5
import Derived.Test.YtngdmpkoedpgdaaGreatDoorV3
import Derived.Test.YtngdmpkoedpgdaaGreatDoorSm5
namespace Go.Ap
open Go Go.RowKit
theorem strs_owned {w : World} {base : Nat} {e : TypeId} {v : Value} {n : Nat} {xs : List Str} (h : w.ownsRow base e 1 v n (xs.map sv)) (hn : n ≤ 4611686018427387903) : ∃ a c, v = .slice a n c ∧ StrsL w a n xs := by
  have hl : xs.length = n := by have := h.1; simpa using this
  rcases h.2 with ⟨rfl, rfl⟩ | ⟨g, cap, cur, rfl, _⟩
  · obtain rfl : xs = [] := List.eq_nil_of_length_eq_zero hl
    exact ⟨none, 0, rfl, Sl.nil _ _⟩
  · refine ⟨_, cap, rfl, hl, hn, fun k x hk => ⟨g, 0, sv x, rfl, ?_, rfl⟩⟩
    have hkl := (List.getElem?_eq_some_iff.1 hk).1
    rw [Nat.zero_add, h.cellAt k (by omega), List.getElem?_map, hk]
    rfl
theorem lineOk_at {us : List Int} (hu : ∀ u ∈ us, 0 ≤ u ∧ u ≤ 255) : ∀ y ∈ atL us, lineOk y = true := fun y hy => by
  obtain ⟨u, h1, rfl⟩ := List.mem_map.1 hy
  have := hu u h1
  unfold lineOk
  simp
  omega
theorem words_fine {sec : Str} {ws : List Str} {us : List Int} (hs : nameB sec = true) (hn : ws.length ≤ 24) (hl : us.length = ws.length) (hu : ∀ u ∈ us, 0 ≤ u ∧ u ≤ 255) : wordsC sec ws (atL us) = 0 := by
  unfold wordsC
  rw [if_neg (by rw [hs]; simp), if_neg (by omega), if_neg (by unfold atL; rw [List.length_map]; omega), if_neg]
  rw [Bool.not_eq_true, List.any_eq_false]
  intro y hy
  rw [lineOk_at hu y hy]
  simp
/-- a literal of two lists -/
theorem posts2_two {W : World} {B : Nat} {a1 a2 : Option Addr} {n1 c1 n2 c2 : Nat} {l l' : List Post} (h1 : W.cell? ⟨B, 0, none⟩ = some (.slice a1 n1 c1)) (h2 : W.cell? ⟨B, 1, none⟩ = some (.slice a2 n2 c2)) (p1 : Posts W a1 n1 l) (p2 : Posts W a2 n2 l') : Posts2 W (some ⟨B, 0, none⟩) 2 [l, l'] :=
  ⟨rfl, by omega, fun k x hk => by
    match k, hk with
    | 0, hk => cases hk; exact ⟨B, 0, _, rfl, h1, a1, n1, c1, rfl, p1⟩
    | 1, hk => cases hk; exact ⟨B, 0, _, rfl, h2, a2, n2, c2, rfl, p2⟩⟩
theorem countL_flatten (ls : List (List Post)) : countL ls.flatten = (ls.map countL).sum := by
  unfold countL
  induction ls with
  | nil => rfl
  | cons l r ih => rw [List.flatten_cons, List.map_append, List.sum_append, ih]; rfl
end Go.Ap
namespace Go.Proofs.YtngdmpkoedpgdaaGreatDoor
open Go.RowKit Go.Ap Go.Shelf Go.Proofs

attribute [local go_sem] Oper.semAt_some bs_toList empty_toList bs_size bs_extract
theorem max4 (P : Program) (w : World) (ts : Array TypeId) (t : TypeId) : (Builtin.max_ ts t #[.int .i64 0, .int .i64 0, .int .i64 0, .int .i64 0]).run P w = .ok (.int .i64 0) w := by simp [Builtin.max_, Builtin.max2]
attribute [local go_sem] max4
set_option maxRecDepth 100000 in
set_option maxHeartbeats 4000000 in
theorem of24 (us : List Int) (a : Option Addr) (n c : Nat) (w : World) (h : Sl U8R w a n us) (hn : n ≤ 12) :
    Calls Tryz.prog 24 #[.slice a n c] w fun e w' => ∃ a' c', e = .returned (.slice a' n c') ∧ Ints w' a' n (atL us) ∧ Below w.heap.size w w' := by
  obtain ⟨i0, hi, hz0, hz1, hz2⟩ := info_parts infoInt5
  have HX2 := Lib.hid h
  have hsm := h.small
  have HL2 := Lib.hid h.len
  have M1 := Lib.hid hn
  clear h hn
  go_enter Tryz.func24, Tryz.ntmps24
  go_wp2_with (fail)
  go_loopw [8, 3] (fun iv ov wr => ∃ i : Nat, i ≤ n ∧ iv = .int .i64 i ∧ OwnI 3 wr w.heap.size ov (atL (us.take i)) ∧ Below w.heap.size w wr) (fun iv _ _ => n - (intOf iv).toNat)
  case atStart => exact ⟨0, Nat.zero_le _, rfl, OwnI.nil _ _ _, Below.refl _ _⟩
  case round =>
    obtain ⟨wi, rfl⟩ : ∃ wi : World, wi = wr := ⟨_, rfl⟩
    obtain ⟨i, hile, rfl, ho, hb⟩ := hrel
    have HO := Lib.hid ho
    have HB := Lib.hid hb
    have HSZ := Lib.hid (show w.heap.size ≤ wi.heap.size from hb.size)
    by_cases hin : i < n
    · obtain ⟨z, b, off, v, hz, rfl, hcv, ⟨rfl, hx0, hx1⟩⟩ := Sl.at HX2.out hin
      replace hcv := cell_keep hb hcv
      have HSN := Lib.hid (show atL (us.take (i + 1)) = atL (us.take i) ++ [1 + z] by unfold atL; rw [take_snoc hz, List.map_append]; rfl)
      have HLN := Lib.hid (show (atL (us.take i)).length ≤ 12 by unfold atL; rw [List.length_map, List.length_take]; have := M1.out; omega)
      have hw1 : IntKind.i64.wrap (1 + z) = 1 + z := IntWalk.i64_in _ (by omega)
      have hw2 : wrap64 (1 + z) = 1 + z := IntWalk.wrap64_in _ (by omega)
      have HI := Lib.hid (show I64 (1 + z) from ⟨by omega, by omega⟩)
      have i1 : (i : Int) < (n : Int) := by omega
      have HNW := Lib.hid (show ∀ (j : Nat) (u : Value), [.int .i64 (1 + z)][j]? = some u → (wi.alloc (.cells #[.int .i64 (1 + z)] 3)).cell? ((⟨wi.heap.size, 0, none⟩ : Addr).add j) = some u from World.news_of_block (cs := #[.int .i64 (1 + z)]) (heap_fresh rfl))
      clear hz ho hb
      go_wp2_with (at_builtin; refine wpList_append_own _ rfl _ _ 26 rfl w.heap.size 3 i0 (.int .i64 0) 1 8 Tryz.underlying26 hi hz0 hz1 hz2 rfl (by decide) _ _ _ rfl (HO.out.1.alloc _) ⟨wi.heap.size, 0, none⟩ 1 1 [.int .i64 (1 + z)] rfl rfl HNW.out (by simp [Value.oneCell']) (by have := HLN.out; unfold maxLen; omega) (by have := HLN.out; omega) (by have := HSZ.out; simp; omega) ?_)
      intro v' w9 hown' hgr' _
      have HO9 := Lib.hid (show OwnI 3 w9 w.heap.size v' (atL (us.take (i + 1))) by rw [HSN.out]; exact HO.out.push1 HI.out hown')
      have HB9 := Lib.hid ((HB.out.alloc HSZ.out (.cells #[.int .i64 (1 + z)] 3)).grown hgr' (by have := HSZ.out; simp; omega) (fun k hk => (HO.out.1.lt k hk).1))
      clear hown' hgr' hw1 hw2
      go_wp2_with (fail)
      go_roundw
      case rel => exact ⟨i + 1, by omega, by simp, HO9.out, HB9.out⟩
      case measure => simp [intOf]; omega
    · obtain rfl : n = i := by omega
      rw [List.take_of_length_le (Nat.le_of_eq HL2.out)] at ho
      have hal : (atL us).length = n := by unfold atL; rw [List.length_map]; exact HL2.out
      obtain ⟨a5, c5, rfl, hi5⟩ := ho.ints (by omega)
      rw [hal] at hi5 ⊢
      have HI5 := Lib.hid hi5
      clear ho hb hal hi5 HO
      go_wp2_with (fail)
      go_ret
      exact ⟨_, _, rfl, HI5.out, HB.out⟩
theorem wordsFine (sec : Str) (ws : List Str) (us : List Int) (a1 : Option Addr) (n c1 : Nat) (a2 : Option Addr) (c2 : Nat) (W : World) (h1 : StrsL W a1 n ws) (h2 : Ints W a2 n (atL us)) (hs : nameB sec = true) (hn : n ≤ 24) (hw : ∀ s ∈ ws, s.length ≤ 70) (hu : ∀ u ∈ us, 0 ≤ u ∧ u ≤ 255) (l : List Post) (hl : idxM mkB (wordsEs sec (ws.zip (atL us))) = l) :
    Calls Tryz.prog 14 #[.string (bs sec), .slice a1 n c1, .slice a2 n c2] W fun e w' => ∃ a c, e = .returned (.tuple #[.slice a l.length c, .int .i64 0]) ∧ Posts w' a l.length l ∧ Below W.heap.size W w' := by
  subst hl
  have e1 := h1.len
  have e2 := h2.len
  have hul : us.length = n := by unfold atL at e2; rw [List.length_map] at e2; exact e2
  refine (wordsP sec ws (atL us) a1 n c1 a2 n c2 W h1 h2 (by have := nameB_16 hs; omega) (fun s h => by have := hw s h; omega)).mono ?_
  rintro e w' ⟨u, rfl, hg, _, hb⟩
  have hc := words_fine (ws := ws) hs (by omega) (show us.length = ws.length by omega) hu
  obtain ⟨a, c, rfl, hp, _⟩ := hg hc
  rw [hc]
  exact ⟨a, c, rfl, hp, hb⟩
theorem concTwoS (A B : List Str) (X : Nat) (W : World) (a1 : Option Addr) (c1 : Nat) (a2 : Option Addr) (c2 n1 n2 : Nat) (h1 : W.cell? ⟨X, 0, none⟩ = some (.slice a1 n1 c1)) (h2 : W.cell? ⟨X, 1, none⟩ = some (.slice a2 n2 c2)) (p1 : StrsL W a1 n1 A) (p2 : StrsL W a2 n2 B) (m1 : n1 ≤ 12) (m2 : n2 ≤ 12) :
    Calls Tryz.prog 25 #[.slice (some ⟨X, 0, none⟩) 2 2] W fun e w' => ∃ a c, e = .returned (.slice a (n1 + n2) c) ∧ StrsL w' a (n1 + n2) (A ++ B) ∧ Below W.heap.size W w' := by
  refine (concS (some ⟨X, 0, none⟩) 2 2 _ W (rowsV_two h1 h2 (reads_strs p1) (reads_strs p2)) (by simp [sumN]; omega)).mono ?_
  rintro e w' ⟨v, rfl, ho, hb⟩
  have e1 : sumN [(n1, A.map sv), (n2, B.map sv)] = n1 + n2 := by simp [sumN]
  have e2 : flatV [(n1, A.map sv), (n2, B.map sv)] = (A ++ B).map sv := by simp [flatV]
  rw [e1, e2] at ho
  obtain ⟨a, c, rfl, hs⟩ := strs_owned ho (by omega)
  exact ⟨a, c, rfl, hs, hb⟩
theorem concTwoI (A B : List Int) (X : Nat) (W : World) (a1 : Option Addr) (c1 : Nat) (a2 : Option Addr) (c2 n1 n2 : Nat) (h1 : W.cell? ⟨X, 0, none⟩ = some (.slice a1 n1 c1)) (h2 : W.cell? ⟨X, 1, none⟩ = some (.slice a2 n2 c2)) (p1 : Ints W a1 n1 A) (p2 : Ints W a2 n2 B) (m1 : n1 ≤ 12) (m2 : n2 ≤ 12) :
    Calls Tryz.prog 26 #[.slice (some ⟨X, 0, none⟩) 2 2] W fun e w' => ∃ a c, e = .returned (.slice a (n1 + n2) c) ∧ Ints w' a (n1 + n2) (A ++ B) ∧ Below W.heap.size W w' := by
  refine (concI (some ⟨X, 0, none⟩) 2 2 _ W (rowsV_two h1 h2 (reads_ints p1) (reads_ints p2)) (by simp [sumN]; omega)).mono ?_
  rintro e w' ⟨v, rfl, ho, hb⟩
  have e1 : sumN [(n1, A.map (Value.int .i64)), (n2, B.map (Value.int .i64))] = n1 + n2 := by simp [sumN]
  have e2 : flatV [(n1, A.map (Value.int .i64)), (n2, B.map (Value.int .i64))] = (A ++ B).map (Value.int .i64) := by simp [flatV]
  rw [e1, e2] at ho
  obtain ⟨a, c, rfl, hs⟩ := ints_of_owns ho (fun x hx => by
    rcases List.mem_append.1 hx with hx | hx
    · exact ints_i64 p1 x hx
    · exact ints_i64 p2 x hx) (by omega)
  exact ⟨a, c, rfl, hs, hb⟩
theorem mergeTwo (l l' : List Post) (X : Nat) (W : World) (a1 : Option Addr) (c1 : Nat) (a2 : Option Addr) (c2 : Nat) (h1 : W.cell? ⟨X, 0, none⟩ = some (.slice a1 l.length c1)) (h2 : W.cell? ⟨X, 1, none⟩ = some (.slice a2 l'.length c2)) (p1 : Posts W a1 l.length l) (p2 : Posts W a2 l'.length l') (i1 : indexB l = true) (i2 : indexB l' = true) (s1 : l.length ≤ 12 ∧ countL l ≤ 12) (s2 : l'.length ≤ 12 ∧ countL l' ≤ 12) :
    Calls Tryz.prog 27 #[.slice (some ⟨X, 0, none⟩) 2 2] W fun e w' => ∃ a c, e = .returned (.tuple #[.slice a (mergeI [l, l']).length c, .int .i64 0]) ∧ Posts w' a (mergeI [l, l']).length (mergeI [l, l']) ∧ Below W.heap.size W w' := by
  refine (mergeP [l, l'] (some ⟨X, 0, none⟩) 2 2 W (posts2_two h1 h2 p1 p2) (by simp; omega) (by rw [countL_flatten]; simp; omega)).mono ?_
  rintro e w' ⟨u, rfl, hg, _, hb⟩
  have hc : mergeC [l, l'] = 0 := mergeC_ok (by simp) (fun x hx => by
    rcases List.mem_cons.1 hx with rfl | hx
    · exact i1
    · rw [List.mem_singleton] at hx
      rw [hx]
      exact i2)
  obtain ⟨a, c, rfl, hp, _⟩ := hg hc
  rw [hc]
  exact ⟨a, c, rfl, hp, hb⟩
set_option maxRecDepth 100000 in
set_option maxHeartbeats 8000000 in
theorem law5 (a1 : Option Addr) (n1 c1 : Nat) (A : List Str) (a2 : Option Addr) (n2 c2 : Nat) (B : List Str) (a3 : Option Addr) (n3 c3 : Nat) (U : List Int) (a4 : Option Addr) (n4 c4 : Nat) (V : List Int) (w : World)
    (h1 : StrsL w a1 n1 A) (h2 : StrsL w a2 n2 B) (h3 : Sl U8R w a3 n3 U) (h4 : Sl U8R w a4 n4 V) (ht : ET w) :
    Calls Tryz.prog 5 #[.slice a1 n1 c1, .slice a2 n2 c2, .slice a3 n3 c3, .slice a4 n4 c4] w fun e w' => e = .returned (.bool true) ∧ Below w.heap.size w w' := by
  have HA := Lib.hid (fun W (hb : Below w.heap.size w W) => awake13 W (ht.mono (Nat.le_refl _) hb))
  have HM1 := Lib.hid (fun W (hb : Below w.heap.size w W) => many12 A a1 n1 c1 W (h1.mono (Nat.le_refl _) hb))
  have HM2 := Lib.hid (fun W (hb : Below w.heap.size w W) => many12 B a2 n2 c2 W (h2.mono (Nat.le_refl _) hb))
  have HXA := Lib.hid h1
  have HXB := Lib.hid h2
  have HU1 := Lib.hid h3
  have HU2 := Lib.hid h4
  have u8 : ∀ {a : Option Addr} {n : Nat} {us : List Int}, Sl U8R w a n us → ∀ u ∈ us, 0 ≤ u ∧ u ≤ 255 := fun h u hu => by
    obtain ⟨k, hk⟩ := List.getElem?_of_mem hu
    obtain ⟨_, _, _, _, _, hr⟩ := h.cells k u hk
    exact hr.2
  have HQ1 := Lib.hid (u8 h3)
  have HQ2 := Lib.hid (u8 h4)
  have hs1 := h1.small
  have hs2 := h2.small
  have hs3 := h3.small
  have hs4 := h4.small
  clear h1 h2 h3 h4 ht u8
  go_enter Tryz.func5, Tryz.ntmps5
  go_wp2_with (fail)
  refine (HM1.out _ (Below.refl _ _)).mono ?_
  rintro e W1 ⟨rfl, hb1⟩
  have HBX := Lib.hid hb1
  clear hb1
  cases hm1 : manyB A
  rotate_left
  · clear hm1
    go_wp2_with (fail)
    refine (HA.out _ HBX.out).mono ?_
    rintro e W9 ⟨rfl, hb9⟩
    have HBX := Lib.hid (bstep HBX.out hb9)
    clear hb9
    go_wp2_with (fail)
    go_ret
    exact ⟨rfl, HBX.out⟩
  go_wp2_with (fail)
  refine (HM2.out _ HBX.out).mono ?_
  rintro e W2 ⟨rfl, hb2⟩
  have HBX := Lib.hid (bstep HBX.out hb2)
  clear hb2
  cases hm2 : manyB B
  rotate_left
  · clear hm2
    go_wp2_with (fail)
    refine (HA.out _ HBX.out).mono ?_
    rintro e W9 ⟨rfl, hb9⟩
    have HBX := Lib.hid (bstep HBX.out hb9)
    clear hb9
    go_wp2_with (fail)
    go_ret
    exact ⟨rfl, HBX.out⟩
  obtain ⟨m1, m1'⟩ := manyB_no hm1
  obtain ⟨m2, m2'⟩ := manyB_no hm2
  rw [HXA.out.len] at m1
  rw [HXB.out.len] at m2
  clear hm1 hm2
  by_cases g3 : n1 = n3
  rotate_left
  · have d1 : ((n1 : Int) != (n3 : Int)) = true := by rw [bne_iff_ne]; omega
    clear g3
    go_wp2_with (fail)
    refine (HA.out _ HBX.out).mono ?_
    rintro e W9 ⟨rfl, hb9⟩
    have HBX := Lib.hid (bstep HBX.out hb9)
    clear hb9
    go_wp2_with (fail)
    go_ret
    exact ⟨rfl, HBX.out⟩
  subst g3
  have d1 : ((n1 : Int) != (n1 : Int)) = false := by simp
  by_cases g4 : n2 = n4
  rotate_left
  · have d2 : ((n2 : Int) != (n4 : Int)) = true := by rw [bne_iff_ne]; omega
    clear g4
    go_wp2_with (fail)
    refine (HA.out _ HBX.out).mono ?_
    rintro e W9 ⟨rfl, hb9⟩
    have HBX := Lib.hid (bstep HBX.out hb9)
    clear hb9
    go_wp2_with (fail)
    go_ret
    exact ⟨rfl, HBX.out⟩
  subst g4
  have d2 : ((n2 : Int) != (n2 : Int)) = false := by simp
  have M1 := Lib.hid m1
  have M2 := Lib.hid m2
  have HOF1 := Lib.hid (fun W (hb : Below w.heap.size w W) => of24 U a3 n1 c3 W (Sl.mono HU1.out (Nat.le_refl _) hb fun _ _ h => h) m1)
  have HOF2 := Lib.hid (fun W (hb : Below w.heap.size w W) => of24 V a4 n2 c4 W (Sl.mono HU2.out (Nat.le_refl _) hb fun _ _ h => h) m2)
  have hlA := HXA.out.len
  have hlB := HXB.out.len
  have hlU := HU1.out.len
  have hlV := HU2.out.len
  obtain ⟨pa, hpa⟩ : ∃ p, A.zip (atL U) = p := ⟨_, rfl⟩
  obtain ⟨pb, hpb⟩ : ∃ p, B.zip (atL V) = p := ⟨_, rfl⟩
  have hal : A.length = (atL U).length := by unfold atL; rw [List.length_map]; omega
  have hbl : B.length = (atL V).length := by unfold atL; rw [List.length_map]; omega
  have hpt : (A ++ B).zip (atL (U ++ V)) = pa ++ pb := by
    rw [← hpa, ← hpb, ← List.zip_append hal]
    congr 1
    unfold atL
    rw [List.map_append]
  have lenA : pa.length ≤ 12 := by rw [← hpa, List.length_zip]; omega
  have lenB : pb.length ≤ 12 := by rw [← hpb, List.length_zip]; omega
  have okA : ∀ p ∈ pa, lineOk p.2 = true := fun p hp => by rw [← hpa] at hp; exact lineOk_at HQ1.out _ (List.of_mem_zip hp).2
  have okB : ∀ p ∈ pb, lineOk p.2 = true := fun p hp => by rw [← hpb] at hp; exact lineOk_at HQ2.out _ (List.of_mem_zip hp).2
  have one : nameB [111, 110, 101] = true := by decide
  have two : nameB [116, 119, 111] = true := by decide
  obtain ⟨x, hx⟩ : ∃ x, idxM mkB (wordsEs [111, 110, 101] pa) = x := ⟨_, rfl⟩
  obtain ⟨y, hy⟩ : ∃ x, idxM mkB (wordsEs [111, 110, 101] pb) = x := ⟨_, rfl⟩
  obtain ⟨z, hz⟩ : ∃ x, idxM mkB (wordsEs [116, 119, 111] pb) = x := ⟨_, rfl⟩
  obtain ⟨bo, hbo⟩ : ∃ x, idxM mkB (wordsEs [111, 110, 101] (pa ++ pb)) = x := ⟨_, rfl⟩
  have IX := Lib.hid (show indexB x = true by rw [← hx]; exact words_valid (by omega) one okA)
  have IY := Lib.hid (show indexB y = true by rw [← hy]; exact words_valid (by omega) one okB)
  have IZ := Lib.hid (show indexB z = true by rw [← hz]; exact words_valid (by omega) two okB)
  have size : ∀ sec ps, ps.length ≤ 12 → (idxM mkB (wordsEs sec ps)).length ≤ 12 ∧ countL (idxM mkB (wordsEs sec ps)) ≤ 12 := fun sec ps h => by
    have a := idx_count mkB (wordsEs sec ps)
    have b := wordsEs_len sec ps
    have c := countL_idx (wordsEs sec ps)
    omega
  have SX := Lib.hid (show x.length ≤ 12 ∧ countL x ≤ 12 by rw [← hx]; exact size _ _ lenA)
  have SY := Lib.hid (show y.length ≤ 12 ∧ countL y ≤ 12 by rw [← hy]; exact size _ _ lenB)
  have SZ := Lib.hid (show z.length ≤ 12 ∧ countL z ≤ 12 by rw [← hz]; exact size _ _ lenB)
  have EXY := Lib.hid (show mergeI [x, y] = bo by rw [← hx, ← hy, ← hbo, merge_two, wordsEs_app])
  have EYX := Lib.hid (show mergeI [y, x] = bo by rw [← hx, ← hy, ← hbo, merge_swap, wordsEs_app])
  have EXX := Lib.hid (show mergeI [x, x] = x by rw [← hx, merge_self])
  have hap : ∀ h m m', (h, m) ∈ wordsEs [116, 119, 111] pb → (h, m') ∉ wordsEs [111, 110, 101] pa := fun h m m' h1 h2 => by
    obtain ⟨p, _, _, e1⟩ := wordsEs_mem.1 h1
    obtain ⟨q, _, _, e2⟩ := wordsEs_mem.1 h2
    have e3 := congrArg Prod.snd (Prod.mk.inj e1).1
    have e4 := congrArg Prod.snd (Prod.mk.inj e2).1
    rw [e3] at e4
    simp at e4
  have EZL := Lib.hid (show (mergeI [z, x]).length = z.length + x.length by rw [← hz, ← hx, merge_two]; exact (idx_apart hap).1)
  have EZC := Lib.hid (show countL (mergeI [z, x]) = countL z + countL x by rw [← hz, ← hx, merge_two]; exact (idx_apart hap).2)
  have HWA := Lib.hid (fun a c W (hb : Below w.heap.size w W) (hi : Ints W a n1 (atL U)) => wordsFine [111, 110, 101] A U a1 n1 c1 a c W (HXA.out.mono (Nat.le_refl _) hb) hi one (by omega) m1' HQ1.out x (by rw [hpa]; exact hx))
  have HWB := Lib.hid (fun a c W (hb : Below w.heap.size w W) (hi : Ints W a n2 (atL V)) => wordsFine [111, 110, 101] B V a2 n2 c2 a c W (HXB.out.mono (Nat.le_refl _) hb) hi one (by omega) m2' HQ2.out y (by rw [hpb]; exact hy))
  have HWZ := Lib.hid (fun a c W (hb : Below w.heap.size w W) (hi : Ints W a n2 (atL V)) => wordsFine [116, 119, 111] B V a2 n2 c2 a c W (HXB.out.mono (Nat.le_refl _) hb) hi two (by omega) m2' HQ2.out z (by rw [hpb]; exact hz))
  have HWT := Lib.hid (fun a c a' c' W (hb : Below w.heap.size w W) (hs : StrsL W a (n1 + n2) (A ++ B)) (hi : Ints W a' (n1 + n2) (atL U ++ atL V)) => wordsFine [111, 110, 101] (A ++ B) (U ++ V) a (n1 + n2) c a' c' W hs (by unfold atL at hi ⊢; rw [List.map_append]; exact hi) one (by omega) (fun s h => (List.mem_append.1 h).elim (m1' s) (m2' s)) (fun u h => (List.mem_append.1 h).elim (HQ1.out u) (HQ2.out u)) bo (by rw [hpt]; exact hbo))
  clear m1 m1' m2 m2' hlA hlB hlU hlV hpa hpb hal hbl hpt lenA lenB okA okB one two hx hy hz hbo size hap
  go_wp2_with (fail)
  refine (HOF1.out _ HBX.out).mono ?_
  rintro e W9 ⟨a5, c5, rfl, h5, hb9⟩
  have HI1 := Lib.hid h5
  have HBX := Lib.hid (bstep HBX.out hb9)
  clear hb9 h5
  go_wp2_with (fail)
  refine (HWA.out _ _ _ HBX.out HI1.out).mono ?_
  rintro e W9 ⟨ax, cx, rfl, hp, hb9⟩
  have HI1 := Lib.hid (HI1.out.mono (Nat.le_refl _) hb9)
  have HPx := Lib.hid hp
  have HBX := Lib.hid (bstep HBX.out hb9)
  clear hb9 hp
  go_wp2_with (fail)
  refine (HOF2.out _ HBX.out).mono ?_
  rintro e W9 ⟨a6, c6, rfl, h6, hb9⟩
  have HPx := Lib.hid (HPx.out.mono (Nat.le_refl _) hb9)
  have HI2 := Lib.hid h6
  have HBX := Lib.hid (bstep HBX.out hb9)
  clear hb9 h6
  go_wp2_with (fail)
  refine (HWB.out _ _ _ HBX.out HI2.out).mono ?_
  rintro e W9 ⟨ay, cy, rfl, hp, hb9⟩
  have HPx := Lib.hid (HPx.out.mono (Nat.le_refl _) hb9)
  have HI2 := Lib.hid (HI2.out.mono (Nat.le_refl _) hb9)
  have HPy := Lib.hid hp
  have HBX := Lib.hid (bstep HBX.out hb9)
  clear hb9 hp
  go_wp2_with (fail)
  refine (HOF2.out _ HBX.out).mono ?_
  rintro e W9 ⟨a7, c7, rfl, h7, hb9⟩
  have HPx := Lib.hid (HPx.out.mono (Nat.le_refl _) hb9)
  have HPy := Lib.hid (HPy.out.mono (Nat.le_refl _) hb9)
  have HI3 := Lib.hid h7
  have HBX := Lib.hid (bstep HBX.out hb9)
  clear hb9 h7
  go_wp2_with (fail)
  obtain ⟨W0, hW0⟩ : ∃ W0, W9 = W0 := ⟨_, rfl⟩
  subst hW0
  refine (HWZ.out _ _ _ HBX.out HI3.out).mono ?_
  rintro e W9 ⟨az, cz, rfl, hp, hb9⟩
  have HPx := Lib.hid (HPx.out.mono (Nat.le_refl _) hb9)
  have HPy := Lib.hid (HPy.out.mono (Nat.le_refl _) hb9)
  have HI3 := Lib.hid (HI3.out.mono (Nat.le_refl _) hb9)
  have HPz := Lib.hid hp
  have HBX := Lib.hid (bstep HBX.out hb9)
  clear hb9 hp
  have KB := BlkK.new W9 #[.slice a1 n1 c1, .slice a2 n2 c2] 22
  have hbl := balloc W9 (.cells #[.slice a1 n1 c1, .slice a2 n2 c2] 22)
  have HPx := Lib.hid (HPx.out.mono (Nat.le_refl _) hbl)
  have HPy := Lib.hid (HPy.out.mono (Nat.le_refl _) hbl)
  have HPz := Lib.hid (HPz.out.mono (Nat.le_refl _) hbl)
  have HBX := Lib.hid (bstep HBX.out hbl)
  have HCALL := Lib.hid (concTwoS A B W9.heap.size (W9.alloc (.cells #[.slice a1 n1 c1, .slice a2 n2 c2] 22)) a1 c1 a2 c2 n1 n2 (KB.cell (i := 0) rfl) (KB.cell (i := 1) rfl) (HXA.out.mono (Nat.le_refl _) HBX.out) (HXB.out.mono (Nat.le_refl _) HBX.out) M1.out M2.out)
  clear KB hbl
  go_wp2_with (fail)
  refine (HCALL.out).mono ?_
  rintro e W9 ⟨a8, c8, rfl, h8, hb9⟩
  have HPx := Lib.hid (HPx.out.mono (Nat.le_refl _) hb9)
  have HPy := Lib.hid (HPy.out.mono (Nat.le_refl _) hb9)
  have HPz := Lib.hid (HPz.out.mono (Nat.le_refl _) hb9)
  have HSS := Lib.hid h8
  have HBX := Lib.hid (bstep HBX.out hb9)
  clear hb9 h8
  go_wp2_with (fail)
  refine (HOF1.out _ HBX.out).mono ?_
  rintro e W9 ⟨a5, c5, rfl, h5, hb9⟩
  have HPx := Lib.hid (HPx.out.mono (Nat.le_refl _) hb9)
  have HPy := Lib.hid (HPy.out.mono (Nat.le_refl _) hb9)
  have HPz := Lib.hid (HPz.out.mono (Nat.le_refl _) hb9)
  have HSS := Lib.hid (HSS.out.mono (Nat.le_refl _) hb9)
  have HI1 := Lib.hid h5
  have HBX := Lib.hid (bstep HBX.out hb9)
  clear hb9 h5
  go_wp2_with (fail)
  refine (HOF2.out _ HBX.out).mono ?_
  rintro e W9 ⟨a6, c6, rfl, h6, hb9⟩
  have HPx := Lib.hid (HPx.out.mono (Nat.le_refl _) hb9)
  have HPy := Lib.hid (HPy.out.mono (Nat.le_refl _) hb9)
  have HPz := Lib.hid (HPz.out.mono (Nat.le_refl _) hb9)
  have HSS := Lib.hid (HSS.out.mono (Nat.le_refl _) hb9)
  have HI1 := Lib.hid (HI1.out.mono (Nat.le_refl _) hb9)
  have HI2 := Lib.hid h6
  have HBX := Lib.hid (bstep HBX.out hb9)
  clear hb9 h6
  have KB := BlkK.new W9 #[.slice a5 n1 c5, .slice a6 n2 c6] 26
  have hbl := balloc W9 (.cells #[.slice a5 n1 c5, .slice a6 n2 c6] 26)
  have HPx := Lib.hid (HPx.out.mono (Nat.le_refl _) hbl)
  have HPy := Lib.hid (HPy.out.mono (Nat.le_refl _) hbl)
  have HPz := Lib.hid (HPz.out.mono (Nat.le_refl _) hbl)
  have HSS := Lib.hid (HSS.out.mono (Nat.le_refl _) hbl)
  have HI1 := Lib.hid (HI1.out.mono (Nat.le_refl _) hbl)
  have HI2 := Lib.hid (HI2.out.mono (Nat.le_refl _) hbl)
  have HBX := Lib.hid (bstep HBX.out hbl)
  have HCALL := Lib.hid (concTwoI (atL U) (atL V) W9.heap.size (W9.alloc (.cells #[.slice a5 n1 c5, .slice a6 n2 c6] 26)) a5 c5 a6 c6 n1 n2 (KB.cell (i := 0) rfl) (KB.cell (i := 1) rfl) HI1.out HI2.out M1.out M2.out)
  clear KB hbl
  go_wp2_with (fail)
  refine (HCALL.out).mono ?_
  rintro e W9 ⟨a9, c9, rfl, h9, hb9⟩
  have HPx := Lib.hid (HPx.out.mono (Nat.le_refl _) hb9)
  have HPy := Lib.hid (HPy.out.mono (Nat.le_refl _) hb9)
  have HPz := Lib.hid (HPz.out.mono (Nat.le_refl _) hb9)
  have HSS := Lib.hid (HSS.out.mono (Nat.le_refl _) hb9)
  have HI1 := Lib.hid (HI1.out.mono (Nat.le_refl _) hb9)
  have HI2 := Lib.hid (HI2.out.mono (Nat.le_refl _) hb9)
  have HII := Lib.hid h9
  have HBX := Lib.hid (bstep HBX.out hb9)
  clear hb9 h9
  go_wp2_with (fail)
  refine (HWT.out _ _ _ _ _ HBX.out HSS.out HII.out).mono ?_
  rintro e W9 ⟨ab, cb, rfl, hp, hb9⟩
  have HPx := Lib.hid (HPx.out.mono (Nat.le_refl _) hb9)
  have HPy := Lib.hid (HPy.out.mono (Nat.le_refl _) hb9)
  have HPz := Lib.hid (HPz.out.mono (Nat.le_refl _) hb9)
  have HSS := Lib.hid (HSS.out.mono (Nat.le_refl _) hb9)
  have HII := Lib.hid (HII.out.mono (Nat.le_refl _) hb9)
  have HPb := Lib.hid hp
  have HBX := Lib.hid (bstep HBX.out hb9)
  clear hb9 hp
  go_wp2_with (fail)
  have KB := BlkK.new W9 #[.slice ax x.length cx, .slice ay y.length cy] 27
  have hbl := balloc W9 (.cells #[.slice ax x.length cx, .slice ay y.length cy] 27)
  have HPx := Lib.hid (HPx.out.mono (Nat.le_refl _) hbl)
  have HPy := Lib.hid (HPy.out.mono (Nat.le_refl _) hbl)
  have HPz := Lib.hid (HPz.out.mono (Nat.le_refl _) hbl)
  have HPb := Lib.hid (HPb.out.mono (Nat.le_refl _) hbl)
  have HBX := Lib.hid (bstep HBX.out hbl)
  have HCALL := Lib.hid (mergeTwo x y W9.heap.size (W9.alloc (.cells #[.slice ax x.length cx, .slice ay y.length cy] 27)) ax cx ay cy (KB.cell (i := 0) rfl) (KB.cell (i := 1) rfl) HPx.out HPy.out IX.out IY.out SX.out SY.out)
  clear KB hbl
  go_wp2_with (fail)
  refine (HCALL.out).mono ?_
  rintro e W9 ⟨dxy, exy, rfl, hp, hb9⟩
  have HPx := Lib.hid (HPx.out.mono (Nat.le_refl _) hb9)
  have HPy := Lib.hid (HPy.out.mono (Nat.le_refl _) hb9)
  have HPz := Lib.hid (HPz.out.mono (Nat.le_refl _) hb9)
  have HPb := Lib.hid (HPb.out.mono (Nat.le_refl _) hb9)
  have HXY := Lib.hid hp
  have HBX := Lib.hid (bstep HBX.out hb9)
  clear hb9 hp
  rw [EXY.out] at HXY ⊢
  have KB := BlkK.new W9 #[.slice ay y.length cy, .slice ax x.length cx] 27
  have hbl := balloc W9 (.cells #[.slice ay y.length cy, .slice ax x.length cx] 27)
  have HPx := Lib.hid (HPx.out.mono (Nat.le_refl _) hbl)
  have HPy := Lib.hid (HPy.out.mono (Nat.le_refl _) hbl)
  have HPz := Lib.hid (HPz.out.mono (Nat.le_refl _) hbl)
  have HPb := Lib.hid (HPb.out.mono (Nat.le_refl _) hbl)
  have HXY := Lib.hid (HXY.out.mono (Nat.le_refl _) hbl)
  have HBX := Lib.hid (bstep HBX.out hbl)
  have HCALL := Lib.hid (mergeTwo y x W9.heap.size (W9.alloc (.cells #[.slice ay y.length cy, .slice ax x.length cx] 27)) ay cy ax cx (KB.cell (i := 0) rfl) (KB.cell (i := 1) rfl) HPy.out HPx.out IY.out IX.out SY.out SX.out)
  clear KB hbl
  go_wp2_with (fail)
  refine (HCALL.out).mono ?_
  rintro e W9 ⟨dyx, eyx, rfl, hp, hb9⟩
  have HPx := Lib.hid (HPx.out.mono (Nat.le_refl _) hb9)
  have HPy := Lib.hid (HPy.out.mono (Nat.le_refl _) hb9)
  have HPz := Lib.hid (HPz.out.mono (Nat.le_refl _) hb9)
  have HPb := Lib.hid (HPb.out.mono (Nat.le_refl _) hb9)
  have HXY := Lib.hid (HXY.out.mono (Nat.le_refl _) hb9)
  have HYX := Lib.hid hp
  have HBX := Lib.hid (bstep HBX.out hb9)
  clear hb9 hp
  rw [EYX.out] at HYX ⊢
  have KB := BlkK.new W9 #[.slice ax x.length cx, .slice ax x.length cx] 27
  have hbl := balloc W9 (.cells #[.slice ax x.length cx, .slice ax x.length cx] 27)
  have HPx := Lib.hid (HPx.out.mono (Nat.le_refl _) hbl)
  have HPy := Lib.hid (HPy.out.mono (Nat.le_refl _) hbl)
  have HPz := Lib.hid (HPz.out.mono (Nat.le_refl _) hbl)
  have HPb := Lib.hid (HPb.out.mono (Nat.le_refl _) hbl)
  have HXY := Lib.hid (HXY.out.mono (Nat.le_refl _) hbl)
  have HYX := Lib.hid (HYX.out.mono (Nat.le_refl _) hbl)
  have HBX := Lib.hid (bstep HBX.out hbl)
  have HCALL := Lib.hid (mergeTwo x x W9.heap.size (W9.alloc (.cells #[.slice ax x.length cx, .slice ax x.length cx] 27)) ax cx ax cx (KB.cell (i := 0) rfl) (KB.cell (i := 1) rfl) HPx.out HPx.out IX.out IX.out SX.out SX.out)
  clear KB hbl
  go_wp2_with (fail)
  refine (HCALL.out).mono ?_
  rintro e W9 ⟨dxx, exx, rfl, hp, hb9⟩
  have HPx := Lib.hid (HPx.out.mono (Nat.le_refl _) hb9)
  have HPy := Lib.hid (HPy.out.mono (Nat.le_refl _) hb9)
  have HPz := Lib.hid (HPz.out.mono (Nat.le_refl _) hb9)
  have HPb := Lib.hid (HPb.out.mono (Nat.le_refl _) hb9)
  have HXY := Lib.hid (HXY.out.mono (Nat.le_refl _) hb9)
  have HYX := Lib.hid (HYX.out.mono (Nat.le_refl _) hb9)
  have HXX := Lib.hid hp
  have HBX := Lib.hid (bstep HBX.out hb9)
  clear hb9 hp
  rw [EXX.out] at HXX ⊢
  have KB := BlkK.new W9 #[.slice az z.length cz, .slice ax x.length cx] 27
  have hbl := balloc W9 (.cells #[.slice az z.length cz, .slice ax x.length cx] 27)
  have HPx := Lib.hid (HPx.out.mono (Nat.le_refl _) hbl)
  have HPy := Lib.hid (HPy.out.mono (Nat.le_refl _) hbl)
  have HPz := Lib.hid (HPz.out.mono (Nat.le_refl _) hbl)
  have HPb := Lib.hid (HPb.out.mono (Nat.le_refl _) hbl)
  have HXY := Lib.hid (HXY.out.mono (Nat.le_refl _) hbl)
  have HYX := Lib.hid (HYX.out.mono (Nat.le_refl _) hbl)
  have HXX := Lib.hid (HXX.out.mono (Nat.le_refl _) hbl)
  have HBX := Lib.hid (bstep HBX.out hbl)
  have HCALL := Lib.hid (mergeTwo z x W9.heap.size (W9.alloc (.cells #[.slice az z.length cz, .slice ax x.length cx] 27)) az cz ax cx (KB.cell (i := 0) rfl) (KB.cell (i := 1) rfl) HPz.out HPx.out IZ.out IX.out SZ.out SX.out)
  clear KB hbl
  go_wp2_with (fail)
  refine (HCALL.out).mono ?_
  rintro e W9 ⟨dzx, ezx, rfl, hp, hb9⟩
  have HPx := Lib.hid (HPx.out.mono (Nat.le_refl _) hb9)
  have HPy := Lib.hid (HPy.out.mono (Nat.le_refl _) hb9)
  have HPz := Lib.hid (HPz.out.mono (Nat.le_refl _) hb9)
  have HPb := Lib.hid (HPb.out.mono (Nat.le_refl _) hb9)
  have HXY := Lib.hid (HXY.out.mono (Nat.le_refl _) hb9)
  have HYX := Lib.hid (HYX.out.mono (Nat.le_refl _) hb9)
  have HXX := Lib.hid (HXX.out.mono (Nat.le_refl _) hb9)
  have HZX := Lib.hid hp
  have HBX := Lib.hid (bstep HBX.out hb9)
  clear hb9 hp
  obtain ⟨zx, hzx⟩ : ∃ l, mergeI [z, x] = l := ⟨_, rfl⟩
  rw [hzx] at HZX ⊢
  have HL := Lib.hid (show zx.length = z.length + x.length by rw [← hzx]; exact EZL.out)
  have HC := Lib.hid (show countL zx = countL z + countL x by rw [← hzx]; exact EZC.out)
  clear hzx
  have q1 : ((zx.length : Int) == (x.length : Int) + (z.length : Int)) = true := by rw [beq_iff_eq]; have := HL.out; omega
  have sx := SX.out
  have sz := SZ.out
  have hl := HL.out
  have hc := HC.out
  have w1 : IntKind.i64.wrap ((x.length : Int) + (z.length : Int)) = (x.length : Int) + (z.length : Int) := IntWalk.i64_in _ (by omega)
  obtain ⟨kx, hkx⟩ : ∃ k, countL x = k := ⟨_, rfl⟩
  obtain ⟨kz, hkz⟩ : ∃ k, countL z = k := ⟨_, rfl⟩
  obtain ⟨ky, hky⟩ : ∃ k, countL zx = k := ⟨_, rfl⟩
  rw [hkx] at sx hc
  rw [hkz] at sz hc
  rw [hky] at hc
  have w2 : IntKind.i64.wrap ((kx : Int) + (kz : Int)) = (kx : Int) + (kz : Int) := IntWalk.i64_in _ (by omega)
  have q2 : ((ky : Int) == (kx : Int) + (kz : Int)) = true := by rw [beq_iff_eq]; omega
  have HCX := Lib.hid (fun W (hb : Below w.heap.size w W) (hp : Posts W ax x.length x) => count20 x ax x.length cx W hp (by rw [hkx]; omega))
  have HCZ := Lib.hid (fun W (hb : Below w.heap.size w W) (hp : Posts W az z.length z) => count20 z az z.length cz W hp (by rw [hkz]; omega))
  have HCY := Lib.hid (fun W (hb : Below w.heap.size w W) (hp : Posts W dzx zx.length zx) => count20 zx dzx zx.length ezx W hp (by rw [hky]; omega))
  rw [hkx] at HCX
  rw [hkz] at HCZ
  rw [hky] at HCY
  clear sx sz hl hc hkx hkz hky
  go_wp2_with (fail)
  refine (same28 bo dxy exy ab cb bo.length bo.length _ HXY.out HPb.out).mono ?_
  rintro e W9 ⟨rfl, hb9⟩
  have HPx := Lib.hid (HPx.out.mono (Nat.le_refl _) hb9)
  have HPy := Lib.hid (HPy.out.mono (Nat.le_refl _) hb9)
  have HPz := Lib.hid (HPz.out.mono (Nat.le_refl _) hb9)
  have HPb := Lib.hid (HPb.out.mono (Nat.le_refl _) hb9)
  have HXY := Lib.hid (HXY.out.mono (Nat.le_refl _) hb9)
  have HYX := Lib.hid (HYX.out.mono (Nat.le_refl _) hb9)
  have HXX := Lib.hid (HXX.out.mono (Nat.le_refl _) hb9)
  have HZX := Lib.hid (HZX.out.mono (Nat.le_refl _) hb9)
  have HBX := Lib.hid (bstep HBX.out hb9)
  clear hb9
  go_wp2_with (fail)
  refine (same28 bo dyx eyx ab cb bo.length bo.length _ HYX.out HPb.out).mono ?_
  rintro e W9 ⟨rfl, hb9⟩
  have HPx := Lib.hid (HPx.out.mono (Nat.le_refl _) hb9)
  have HPy := Lib.hid (HPy.out.mono (Nat.le_refl _) hb9)
  have HPz := Lib.hid (HPz.out.mono (Nat.le_refl _) hb9)
  have HPb := Lib.hid (HPb.out.mono (Nat.le_refl _) hb9)
  have HYX := Lib.hid (HYX.out.mono (Nat.le_refl _) hb9)
  have HXX := Lib.hid (HXX.out.mono (Nat.le_refl _) hb9)
  have HZX := Lib.hid (HZX.out.mono (Nat.le_refl _) hb9)
  have HBX := Lib.hid (bstep HBX.out hb9)
  clear hb9
  go_wp2_with (fail)
  refine (same28 x dxx exx ax cx x.length x.length _ HXX.out HPx.out).mono ?_
  rintro e W9 ⟨rfl, hb9⟩
  have HPx := Lib.hid (HPx.out.mono (Nat.le_refl _) hb9)
  have HPy := Lib.hid (HPy.out.mono (Nat.le_refl _) hb9)
  have HPz := Lib.hid (HPz.out.mono (Nat.le_refl _) hb9)
  have HXX := Lib.hid (HXX.out.mono (Nat.le_refl _) hb9)
  have HZX := Lib.hid (HZX.out.mono (Nat.le_refl _) hb9)
  have HBX := Lib.hid (bstep HBX.out hb9)
  clear hb9
  go_wp2_with (fail)
  refine (HCY.out _ HBX.out HZX.out).mono ?_
  rintro e W9 ⟨rfl, hb9⟩
  have HPx := Lib.hid (HPx.out.mono (Nat.le_refl _) hb9)
  have HPy := Lib.hid (HPy.out.mono (Nat.le_refl _) hb9)
  have HPz := Lib.hid (HPz.out.mono (Nat.le_refl _) hb9)
  have HZX := Lib.hid (HZX.out.mono (Nat.le_refl _) hb9)
  have HBX := Lib.hid (bstep HBX.out hb9)
  clear hb9
  go_wp2_with (fail)
  refine (HCX.out _ HBX.out HPx.out).mono ?_
  rintro e W9 ⟨rfl, hb9⟩
  have HPx := Lib.hid (HPx.out.mono (Nat.le_refl _) hb9)
  have HPy := Lib.hid (HPy.out.mono (Nat.le_refl _) hb9)
  have HPz := Lib.hid (HPz.out.mono (Nat.le_refl _) hb9)
  have HBX := Lib.hid (bstep HBX.out hb9)
  clear hb9
  go_wp2_with (fail)
  refine (HCZ.out _ HBX.out HPz.out).mono ?_
  rintro e W9 ⟨rfl, hb9⟩
  have HPy := Lib.hid (HPy.out.mono (Nat.le_refl _) hb9)
  have HPz := Lib.hid (HPz.out.mono (Nat.le_refl _) hb9)
  have HBX := Lib.hid (bstep HBX.out hb9)
  clear hb9
  go_wp2_with (fail)
  refine (HA.out _ HBX.out).mono ?_
  rintro e W9 ⟨rfl, hb9⟩
  have HBX := Lib.hid (bstep HBX.out hb9)
  clear hb9
  go_wp2_with (fail)
  go_ret
  exact ⟨rfl, HBX.out⟩
theorem law5r (a1 : Option Addr) (n1 c1 : Nat) (A : List Str) (a2 : Option Addr) (n2 c2 : Nat) (B : List Str) (a3 : Option Addr) (n3 c3 : Nat) (U : List Int) (a4 : Option Addr) (n4 c4 : Nat) (V : List Int) (w : World)
    (h1 : StrsL w a1 n1 A ∧ n1 ≤ c1 ∧ ∀ s ∈ A, s.length ≤ 281474976710656) (h2 : StrsL w a2 n2 B ∧ n2 ≤ c2 ∧ ∀ s ∈ B, s.length ≤ 281474976710656) (h3 : Sl U8R w a3 n3 U) (h4 : Sl U8R w a4 n4 V) (ht : ET w) :
    Calls Tryz.prog 5 #[.slice a1 n1 c1, .slice a2 n2 c2, .slice a3 n3 c3, .slice a4 n4 c4] w fun e w' => e = .returned (.bool true) ∧ Below w.heap.size w w' := law5 a1 n1 c1 A a2 n2 c2 B a3 n3 c3 U a4 n4 c4 V w h1.1 h2.1 h3 h4 ht
end Go.Proofs.YtngdmpkoedpgdaaGreatDoor
