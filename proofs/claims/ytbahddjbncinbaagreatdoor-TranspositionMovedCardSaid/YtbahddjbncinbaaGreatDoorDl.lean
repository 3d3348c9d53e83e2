/-
  slices.Delete of one element of a slice of the call's own: blocks, tokens.
-/
import Derived.Test.YtbahddjbncinbaaGreatDoorGs
import Derived.Test.YtbahddjbncinbaaGreatDoorPn
import Derived.Laws.CopyRow
import Derived.Lib.SliceRun
namespace Go.Ap
open Go Go.RowKit
section
variable {P : Program}
/-- 'clear' of one element of a row -/
theorem run_clear_row (w : World) (t e ty : TypeId) (z : Value) (zs : List Value) (ht : P.underlying t = some (.slice e)) (hv : ∀ w, (zeroValue e).run P w = .ok z w) (hzs : z.cells = zs.toArray) (h1 : ∀ u ∈ zs, u.oneCell' = true) (g o c : Nat) (cur : Array Value)
    (hg : w.heap[g]? = some (.cells cur e (0, 0))) (hfit : o + zs.length ≤ cur.size) :
    (Builtin.clear_ #[t] ty #[.slice (some ⟨g, o, none⟩) 1 c]).run P w = .ok (.tuple #[]) (w.setRow g (cur.toList.take o ++ zs ++ cur.toList.drop (o + zs.length)).toArray) := by
  have hzc : (Builtin.zeroCells z.cells 1).toList = zs := by
    rw [hzs]
    apply List.ext_getElem
    · simp [Builtin.zeroCells]
    · intro i h1 h2
      simp only [Builtin.zeroCells, Nat.one_mul, Array.toList_map, Array.toList_range, List.getElem_map, List.getElem_range, List.size_toArray]
      rw [Nat.mod_eq_of_lt h2, getElem!_pos zs.toArray i (by simpa using h2)]
      rfl
  have hst := run_storeCells_at P g o e zs 0 cur w hg (by simpa using hfit) h1
  simp only [Nat.add_zero] at hst
  simp [Builtin.clear_, run_underlying ht, hv, hzc, hst]
/-- 'append(s, x)' whose run is known, in a fence -/
theorem wpListIn_append_known {F : Fence} {n : Nat} {P : Program} (w : World) {ops : Array Oper} {rest : List Oper} {o : Oper} {a : Act} {Q : Exit → Act → World → Prop}
    (hg : o.guard = none) (s x : Operand) (t : TypeId) (hop : o.op = Op.call { callee := Callee.builtin Builtin.append, args := #[s, x], argTypes := #[t, t] })
    (v u v' : Value) (w' : World) (hs : a.eval s = v) (hx : a.eval x = u) (hrun : (Builtin.append_ #[t, t] o.type #[v, u]).run P w = .ok v' w')
    (hK : wpListIn F n P ops Q rest (a.put o.dst v') w') : wpListIn F n P ops Q (o :: rest) a w := by
  refine wpListIn_plain hg fun K hK' => ?_
  unfold Oper.wpIn
  refine ⟨?_, ?_⟩
  · simp [Oper.about, hop, resolve, Target.leads, Sem.run_pure]
  · rw [Oper.semAt_plain F _ _ (by rw [hop]; intro c hc'; cases hc')]
    simp [execOp, hop, resolve, invoke, builtin, hs, hx, hrun, Result.andThen]
    exact hK' _ _ hK
end
section
variable {w : World} {base g n cap size i : Nat} {e : TypeId} {xs zs : List Value} {cur : Array Value}
/-- the cells behind the copy, and behind the clearing -/
def eraC (size i : Nat) (xs : List Value) (cur : Array Value) : Array Value := (cur.toList.take (i * size) ++ xs.drop ((i + 1) * size) ++ cur.toList.drop (i * size + (xs.drop ((i + 1) * size)).length)).toArray
def eraZ (size n : Nat) (zs : List Value) (cur : Array Value) : Array Value := (cur.toList.take ((n - 1) * size) ++ zs ++ cur.toList.drop ((n - 1) * size + zs.length)).toArray
theorem eraC_size (hnc : n ≤ cap) (hcs : cur.size = cap * size) (hl : xs.length = n * size) (hi : i < n) : (eraC size i xs cur).size = cap * size := by
  have h1 : i * size + size ≤ n * size := by rw [← Nat.succ_mul]; exact Nat.mul_le_mul_right _ (by omega)
  have h2 : n * size ≤ cap * size := Nat.mul_le_mul_right _ hnc
  have h3 : (i + 1) * size = i * size + size := Nat.succ_mul _ _
  simp only [eraC, List.size_toArray, List.length_append, List.length_take, List.length_drop, Array.length_toList, hcs, hl, h3]
  omega
theorem owns_erase (hbg : base ≤ g) (hg : w.heap[g]? = some (.cells cur e (0, 0))) (hnc : n ≤ cap) (hcm : cap ≤ maxLen) (hcs : cur.size = cap * size) (htk : cur.toList.take (n * size) = xs) (hi : i < n) (hz : zs.length = size) (hl : xs.length = n * size) :
    ((w.setRow g (eraC size i xs cur)).setRow g (eraZ size n zs (eraC size i xs cur))).ownsRow base e size (.slice (some ⟨g, 0, none⟩) (n - 1) cap) (n - 1) (xs.take (i * size) ++ xs.drop ((i + 1) * size)) ∧
    w.grownBy ((w.setRow g (eraC size i xs cur)).setRow g (eraZ size n zs (eraC size i xs cur))) (some g) := by
  obtain ⟨m, rfl⟩ : ∃ m, n = m + 1 := ⟨n - 1, by omega⟩
  have h1 : i * size ≤ m * size := Nat.mul_le_mul_right _ (by omega)
  have h2 : (m + 1) * size ≤ cap * size := Nat.mul_le_mul_right _ hnc
  have h3 : (i + 1) * size = i * size + size := Nat.succ_mul _ _
  have h4 : (m + 1) * size = m * size + size := Nat.succ_mul _ _
  have hsz := eraC_size (cur := cur) hnc hcs hl hi
  rw [setRow_setRow]
  refine ⟨⟨?_, .inr ⟨g, cap, _, rfl, hbg, setRow_heap w g cur _ e _ hg, by omega, hcm, ?_, ?_⟩⟩, rfl, rfl, rfl, by simp, fun k _ hk => setRow_other w g k _ fun e => hk (by rw [e])⟩
  · rw [List.length_append, List.length_take, List.length_drop, hl, Nat.add_sub_cancel, h3, h4]
    omega
  · simp only [eraZ, List.size_toArray, List.length_append, List.length_take, List.length_drop, Array.length_toList, hsz, hz, Nat.add_sub_cancel]
    omega
  · have e1 : cur.toList.take (i * size) = xs.take (i * size) := by rw [← htk, List.take_take, Nat.min_eq_left (by omega)]
    have e2 : (xs.take (i * size) ++ xs.drop ((i + 1) * size)).length = m * size := by rw [List.length_append, List.length_take, List.length_drop, hl, h3, h4]; omega
    simp only [eraZ, Nat.add_sub_cancel]
    rw [List.append_assoc, List.take_append_of_le_length (by rw [List.length_take, Array.length_toList, hsz]; omega), List.take_take, Nat.min_self]
    simp only [eraC]
    rw [e1, List.take_append_of_le_length (by rw [e2]; exact Nat.le_refl _), List.take_of_length_le (by rw [e2]; exact Nat.le_refl _)]
end
end Go.Ap
namespace Go.Proofs.YtbahddjbncinbaaGreatDoor
open Go.RowKit Go.Ap Go.Shelf Go.Proofs

attribute [local go_sem] Oper.semAt_some bs_toList empty_toList bs_size bs_extract
set_option maxRecDepth 100000 in
set_option maxHeartbeats 8000000 in
theorem delBk (w : World) (base g n cap i j : Nat) (xs : List Value) (h : w.ownsRow base 54 3 (.slice (some ⟨g, 0, none⟩) n cap) n xs) (hi : i < n) (hj : j = i + 1) (h1 : ∀ u ∈ xs, u.oneCell' = true) :
    Calls Tryz.prog 38 #[.slice (some ⟨g, 0, none⟩) n cap, .int .i64 i, .int .i64 j] w fun e w' => e = .returned (.slice (some ⟨g, 0, none⟩) (n - 1) cap) ∧ w'.ownsRow base 54 3 (.slice (some ⟨g, 0, none⟩) (n - 1) cap) (n - 1) (xs.take (i * 3) ++ xs.drop ((i + 1) * 3)) ∧ Below base w w' := by
  obtain ⟨i0, hi0, hz0, hz1, hz2⟩ := info_parts infoBk
  obtain ⟨hl, ⟨h0, _⟩ | ⟨g', cap', cur, he, hbg, hg, hnc, hcm, hcs, htk⟩⟩ := h
  · cases h0
  simp only [Value.slice.injEq, Option.some.injEq, Addr.mk.injEq, and_true, true_and] at he
  obtain ⟨rfl, rfl⟩ := he
  have hjn : j ≤ n := by omega
  have hic : i ≤ cap := by omega
  have hjc : j ≤ cap := by omega
  have hij : i ≤ j := by omega
  obtain ⟨m, hm⟩ : ∃ m, n - 1 = m := ⟨_, rfl⟩
  have hgd : w.drew.heap[g]? = some (.cells cur 54 (0, 0)) := hg
  have hcell : ∀ t u, cur.toList[t]? = some u → w.drew.cell? ⟨g, t, none⟩ = some u := fun t u hu => blk_cell hgd (by rw [Array.getElem?_toList] at hu; exact hu)
  obtain ⟨A, hA, hsrc⟩ : ∃ A : Addr, (if cap = j then some (⟨g, 0, none⟩ : Addr) else some ⟨g, j * 3, none⟩) = some A ∧ ∀ t u, (xs.drop ((i + 1) * 3))[t]? = some u → w.drew.cell? (A.add t) = some u := by
    by_cases h : cap = j
    · refine ⟨⟨g, 0, none⟩, by simp [h], fun t u hu => ?_⟩
      rw [List.getElem?_drop] at hu
      have := (List.getElem?_eq_some_iff.1 hu).1
      omega
    · refine ⟨⟨g, j * 3, none⟩, by simp [h], fun t u hu => ?_⟩
      rw [List.getElem?_drop, ← htk] at hu
      rw [show (⟨g, j * 3, none⟩ : Addr).add t = ⟨g, j * 3 + t, none⟩ by unfold Addr.add; split <;> simp_all]
      refine hcell _ _ ?_
      rw [List.getElem?_take] at hu
      split at hu
      · rw [hj]; exact hu
      · cases hu
  obtain ⟨W1, hW1⟩ : ∃ W1, w.drew.setRow g (eraC 3 i xs cur) = W1 := ⟨_, rfl⟩
  have hh1 : W1.heap[g]? = some (.cells (eraC 3 i xs cur) 54 (0, 0)) := by rw [← hW1]; exact setRow_heap _ g cur _ _ _ hgd
  have hcs1 := eraC_size (cur := cur) hnc hcs hl hi
  have HAP := Lib.hid (show ∀ ty, (Builtin.append_ #[46, 46] ty #[.slice (some ⟨g, 0, none⟩) i cap, .slice (some A) (n - j) (cap - j)]).run Tryz.prog w.drew = .ok (.slice (some ⟨g, 0, none⟩) m cap) W1 from fun ty => by
    have := run_append_room (P := Tryz.prog) w.drew 46 ty 54 i0 Tryz.underlying46 hi0 g i cap cur hgd A (n - j) (cap - j) (xs.drop ((i + 1) * 3)) (by rw [hz1, List.length_drop, hl, ← Nat.sub_mul, hj]) hsrc (fun u hu => h1 u (List.mem_of_mem_drop hu)) (by omega) (by rw [hz1, List.length_drop, hl, hcs]; have := Nat.mul_le_mul_right 3 hnc; omega)
    rw [this, hz1, show i + (n - j) = m by omega, ← hW1, eraC])
  have HCL := Lib.hid (show ∀ ty c, (Builtin.clear_ #[46] ty #[.slice (some ⟨g, m * 3, none⟩) 1 c]).run Tryz.prog W1 = .ok (.tuple #[]) (W1.setRow g (eraZ 3 n [.int .i64 0, .int .i64 0, .int .i64 0] (eraC 3 i xs cur))) from fun ty c => by
    have := run_clear_row (P := Tryz.prog) W1 46 54 ty _ [.int .i64 0, .int .i64 0, .int .i64 0] Tryz.underlying46 (fun w => Tryz.zeroValue54 w) rfl (List.all_eq_true.1 (rfl : ([.int .i64 0, .int .i64 0, .int .i64 0] : List Value).all Value.oneCell' = true)) g (m * 3) c (eraC 3 i xs cur) hh1 (by rw [hcs1]; have := Nat.mul_le_mul_right 3 hnc; simp only [List.length_cons, List.length_nil]; omega)
    rw [this]
    simp only [eraZ, hm])
  obtain ⟨W2, hW2⟩ : ∃ W2, W1.setRow g (eraZ 3 n [.int .i64 0, .int .i64 0, .int .i64 0] (eraC 3 i xs cur)) = W2 := ⟨_, rfl⟩
  rw [hW2] at HCL
  have HO := Lib.hid (show W2.ownsRow base 54 3 (.slice (some ⟨g, 0, none⟩) m cap) m (xs.take (i * 3) ++ xs.drop ((i + 1) * 3)) ∧ Below base w W2 by
    have := owns_erase (w := w.drew) (zs := [.int .i64 0, .int .i64 0, .int .i64 0]) hbg hgd hnc hcm hcs htk hi rfl hl
    rw [hW1, hW2, hm] at this
    exact ⟨this.1, ((bdrewN w 1).mono (Nat.le_trans hbg (Nat.le_of_lt (Array.getElem?_eq_some_iff.1 hg).1))).grown this.2 (Nat.le_trans hbg (Nat.le_of_lt (Array.getElem?_eq_some_iff.1 hg).1)) fun r hr => by cases hr; exact hbg⟩)
  have dne : ((i : Int) == (j : Int)) = false := by rw [beq_eq_false_iff_ne]; omega
  have hnm : n - m = 1 := by omega
  have hmn : m ≤ n := by omega
  have hmc : m ≤ cap := by omega
  have hcn : n ≤ cap := hnc
  have hcm2 : ¬ cap = m := by omega
  rw [hm]
  clear hl hbg hg hcm hcs htk hgd hcell hsrc hW1 hh1 hcs1 hW2 h1 hj hm
  go_enter Tryz.func38, Tryz.ntmps38
  go_wp2_with (fail)
  refine (wpIn_wide (n := 20)).1 ?_
  refine wpIn_region_planN (fun W' => W' = w.drew ∨ W' = W1) (.take 0 <| .take 1 <| .take 2 <| .take 3 <| .take 4 <| .take 5 <| .one 6 <| .take 7 .fin) (fun _ => trivial) (by kernel_rfl) (by kernel_rfl) (.inl rfl) ?_
  iterate 6
    apply plan_take rfl rfl (by rfl)
    case hy =>
      rintro W' hb'
      clear hb'
      go_simp
      first | done | with_reducible rfl
    simp only [List.setIfInBounds_toArray, List.set_cons_zero, List.set_cons_succ]
  refine plan_one rfl ?_
  refine wpListIn_append_known _ rfl (.tmp 22) (.tmp 25) 46 rfl _ _ _ _ rfl rfl (HAP.out _) ?_
  gi_wp2_with (fail)
  refine ⟨.inr trivial, ?_⟩
  apply plan_take rfl rfl (by rfl)
  case hy =>
    rintro W' hb'
    clear hb'
    go_simp
    first | done | with_reducible rfl
  try simp only [List.setIfInBounds_toArray, List.set_cons_zero, List.set_cons_succ]
  refine plan_fin ?_
  have hcl := HCL.out
  gi_wp2_with (fail)
  go_wp2_with (fail)
  go_ret
  exact ⟨rfl, HO.out.1, HO.out.2⟩
set_option maxRecDepth 100000 in
set_option maxHeartbeats 8000000 in
theorem delTk (w : World) (base g n cap i j : Nat) (xs : List Value) (h : w.ownsRow base 39 6 (.slice (some ⟨g, 0, none⟩) n cap) n xs) (hi : i < n) (hj : j = i + 1) (h1 : ∀ u ∈ xs, u.oneCell' = true) :
    Calls Tryz.prog 40 #[.slice (some ⟨g, 0, none⟩) n cap, .int .i64 i, .int .i64 j] w fun e w' => e = .returned (.slice (some ⟨g, 0, none⟩) (n - 1) cap) ∧ w'.ownsRow base 39 6 (.slice (some ⟨g, 0, none⟩) (n - 1) cap) (n - 1) (xs.take (i * 6) ++ xs.drop ((i + 1) * 6)) ∧ Below base w w' := by
  obtain ⟨i0, hi0, hz0, hz1, hz2⟩ := info_parts infoTok
  obtain ⟨hl, ⟨h0, _⟩ | ⟨g', cap', cur, he, hbg, hg, hnc, hcm, hcs, htk⟩⟩ := h
  · cases h0
  simp only [Value.slice.injEq, Option.some.injEq, Addr.mk.injEq, and_true, true_and] at he
  obtain ⟨rfl, rfl⟩ := he
  have hjn : j ≤ n := by omega
  have hic : i ≤ cap := by omega
  have hjc : j ≤ cap := by omega
  have hij : i ≤ j := by omega
  obtain ⟨m, hm⟩ : ∃ m, n - 1 = m := ⟨_, rfl⟩
  have hgd : w.drew.heap[g]? = some (.cells cur 39 (0, 0)) := hg
  have hcell : ∀ t u, cur.toList[t]? = some u → w.drew.cell? ⟨g, t, none⟩ = some u := fun t u hu => blk_cell hgd (by rw [Array.getElem?_toList] at hu; exact hu)
  obtain ⟨A, hA, hsrc⟩ : ∃ A : Addr, (if cap = j then some (⟨g, 0, none⟩ : Addr) else some ⟨g, j * 6, none⟩) = some A ∧ ∀ t u, (xs.drop ((i + 1) * 6))[t]? = some u → w.drew.cell? (A.add t) = some u := by
    by_cases h : cap = j
    · refine ⟨⟨g, 0, none⟩, by simp [h], fun t u hu => ?_⟩
      rw [List.getElem?_drop] at hu
      have := (List.getElem?_eq_some_iff.1 hu).1
      omega
    · refine ⟨⟨g, j * 6, none⟩, by simp [h], fun t u hu => ?_⟩
      rw [List.getElem?_drop, ← htk] at hu
      rw [show (⟨g, j * 6, none⟩ : Addr).add t = ⟨g, j * 6 + t, none⟩ by unfold Addr.add; split <;> simp_all]
      refine hcell _ _ ?_
      rw [List.getElem?_take] at hu
      split at hu
      · rw [hj]; exact hu
      · cases hu
  obtain ⟨W1, hW1⟩ : ∃ W1, w.drew.setRow g (eraC 6 i xs cur) = W1 := ⟨_, rfl⟩
  have hh1 : W1.heap[g]? = some (.cells (eraC 6 i xs cur) 39 (0, 0)) := by rw [← hW1]; exact setRow_heap _ g cur _ _ _ hgd
  have hcs1 := eraC_size (cur := cur) hnc hcs hl hi
  have HAP := Lib.hid (show ∀ ty, (Builtin.append_ #[22, 22] ty #[.slice (some ⟨g, 0, none⟩) i cap, .slice (some A) (n - j) (cap - j)]).run Tryz.prog w.drew = .ok (.slice (some ⟨g, 0, none⟩) m cap) W1 from fun ty => by
    have := run_append_room (P := Tryz.prog) w.drew 22 ty 39 i0 Tryz.underlying22 hi0 g i cap cur hgd A (n - j) (cap - j) (xs.drop ((i + 1) * 6)) (by rw [hz1, List.length_drop, hl, ← Nat.sub_mul, hj]) hsrc (fun u hu => h1 u (List.mem_of_mem_drop hu)) (by omega) (by rw [hz1, List.length_drop, hl, hcs]; have := Nat.mul_le_mul_right 6 hnc; omega)
    rw [this, hz1, show i + (n - j) = m by omega, ← hW1, eraC])
  have HCL := Lib.hid (show ∀ ty c, (Builtin.clear_ #[22] ty #[.slice (some ⟨g, m * 6, none⟩) 1 c]).run Tryz.prog W1 = .ok (.tuple #[]) (W1.setRow g (eraZ 6 n [.string { data := #[] }, .string { data := #[] }, .string { data := #[] }, .int .i64 0, .int .i64 0, .string { data := #[] }] (eraC 6 i xs cur))) from fun ty c => by
    have := run_clear_row (P := Tryz.prog) W1 22 39 ty _ [.string { data := #[] }, .string { data := #[] }, .string { data := #[] }, .int .i64 0, .int .i64 0, .string { data := #[] }] Tryz.underlying22 (fun w => Tryz.zeroValue39 w) rfl (List.all_eq_true.1 (rfl : ([.string { data := #[] }, .string { data := #[] }, .string { data := #[] }, .int .i64 0, .int .i64 0, .string { data := #[] }] : List Value).all Value.oneCell' = true)) g (m * 6) c (eraC 6 i xs cur) hh1 (by rw [hcs1]; have := Nat.mul_le_mul_right 6 hnc; simp only [List.length_cons, List.length_nil]; omega)
    rw [this]
    simp only [eraZ, hm])
  obtain ⟨W2, hW2⟩ : ∃ W2, W1.setRow g (eraZ 6 n [.string { data := #[] }, .string { data := #[] }, .string { data := #[] }, .int .i64 0, .int .i64 0, .string { data := #[] }] (eraC 6 i xs cur)) = W2 := ⟨_, rfl⟩
  rw [hW2] at HCL
  have HO := Lib.hid (show W2.ownsRow base 39 6 (.slice (some ⟨g, 0, none⟩) m cap) m (xs.take (i * 6) ++ xs.drop ((i + 1) * 6)) ∧ Below base w W2 by
    have := owns_erase (w := w.drew) (zs := [.string { data := #[] }, .string { data := #[] }, .string { data := #[] }, .int .i64 0, .int .i64 0, .string { data := #[] }]) hbg hgd hnc hcm hcs htk hi rfl hl
    rw [hW1, hW2, hm] at this
    exact ⟨this.1, ((bdrewN w 1).mono (Nat.le_trans hbg (Nat.le_of_lt (Array.getElem?_eq_some_iff.1 hg).1))).grown this.2 (Nat.le_trans hbg (Nat.le_of_lt (Array.getElem?_eq_some_iff.1 hg).1)) fun r hr => by cases hr; exact hbg⟩)
  have dne : ((i : Int) == (j : Int)) = false := by rw [beq_eq_false_iff_ne]; omega
  have hnm : n - m = 1 := by omega
  have hmn : m ≤ n := by omega
  have hmc : m ≤ cap := by omega
  have hcn : n ≤ cap := hnc
  have hcm2 : ¬ cap = m := by omega
  rw [hm]
  clear hl hbg hg hcm hcs htk hgd hcell hsrc hW1 hh1 hcs1 hW2 h1 hj hm
  go_enter Tryz.func40, Tryz.ntmps40
  go_wp2_with (fail)
  refine (wpIn_wide (n := 20)).1 ?_
  refine wpIn_region_planN (fun W' => W' = w.drew ∨ W' = W1) (.take 0 <| .take 1 <| .take 2 <| .take 3 <| .take 4 <| .take 5 <| .one 6 <| .take 7 .fin) (fun _ => trivial) (by kernel_rfl) (by kernel_rfl) (.inl rfl) ?_
  iterate 6
    apply plan_take rfl rfl (by rfl)
    case hy =>
      rintro W' hb'
      clear hb'
      go_simp
      first | done | with_reducible rfl
    simp only [List.setIfInBounds_toArray, List.set_cons_zero, List.set_cons_succ]
  refine plan_one rfl ?_
  refine wpListIn_append_known _ rfl (.tmp 22) (.tmp 25) 22 rfl _ _ _ _ rfl rfl (HAP.out _) ?_
  gi_wp2_with (fail)
  refine ⟨.inr trivial, ?_⟩
  apply plan_take rfl rfl (by rfl)
  case hy =>
    rintro W' hb'
    clear hb'
    go_simp
    first | done | with_reducible rfl
  try simp only [List.setIfInBounds_toArray, List.set_cons_zero, List.set_cons_succ]
  refine plan_fin ?_
  have hcl := HCL.out
  gi_wp2_with (fail)
  go_wp2_with (fail)
  go_ret
  exact ⟨rfl, HO.out.1, HO.out.2⟩
end Go.Proofs.YtbahddjbncinbaaGreatDoor
