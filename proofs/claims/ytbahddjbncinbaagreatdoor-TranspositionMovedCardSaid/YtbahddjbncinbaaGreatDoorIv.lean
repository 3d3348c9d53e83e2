/-
  slices.Insert of one token into a slice of the call's own, where there is room.
-/
import Derived.Test.YtbahddjbncinbaaGreatDoorCb
import Derived.Lib.Overlaps
import Derived.Laws.Externs
namespace Go.Ap
open Go Go.RowKit
section
variable {P : Program}
theorem run_copy_rowM (w : World) (dT sT ty elem : TypeId) (i0 : TypeInfo) (hu : P.underlying dT = some (.slice elem)) (hi : P.info? elem = some i0) (g o dLen dCap n : Nat) (a : Addr) (sLen sCap : Nat) (cur : Array Value) (cs : List Value)
    (hg : w.heap[g]? = some (.cells cur elem (0, 0))) (hn : Nat.min sLen dLen = n) (hl : cs.length = n * i0.size) (hsrc : ∀ j v, cs[j]? = some v → w.cell? (a.add j) = some v) (hfit : o + cs.length ≤ cur.size) (h1 : ∀ v ∈ cs, v.oneCell' = true) :
    (Builtin.copy_ #[dT, sT] ty #[.slice (some ⟨g, o, none⟩) dLen dCap, .slice (some a) sLen sCap]).run P w = .ok (goInt n) (w.setRow g (cur.toList.take o ++ cs ++ cur.toList.drop (o + cs.length)).toArray) := by
  have hf := run_firstCells_some (P := P) w i0.size n a sLen sCap cs hl hsrc
  have hst := run_storeCells_at P g o elem cs 0 cur w hg (by simpa using hfit) h1
  simp only [Nat.add_zero] at hst
  simp [Builtin.copy_, run_underlying hu, Builtin.lenOf, sizeOf, typeInfo, hi, hn, hf, hst]
theorem wpListIn_copy_known {F : Fence} {n : Nat} {P : Program} (w : World) {ops : Array Oper} {rest : List Oper} {o : Oper} {a : Act} {Q : Exit → Act → World → Prop}
    (hg : o.guard = none) (s x : Operand) (t t' : TypeId) (hop : o.op = Op.call { callee := Callee.builtin Builtin.copy, args := #[s, x], argTypes := #[t, t'] })
    (v u v' : Value) (w' : World) (hs : a.eval s = v) (hx : a.eval x = u) (hrun : (Builtin.copy_ #[t, t'] o.type #[v, u]).run P w = .ok v' w')
    (hK : wpListIn F n P ops Q rest (a.put o.dst v') w') : wpListIn F n P ops Q (o :: rest) a w := by
  refine wpListIn_plain hg fun K hK' => ?_
  unfold Oper.wpIn
  refine ⟨?_, ?_⟩
  · simp [Oper.about, hop, resolve, Target.leads, Sem.run_pure]
  · rw [Oper.semAt_plain F _ _ (by rw [hop]; intro c hc'; cases hc')]
    simp [execOp, hop, resolve, invoke, builtin, hs, hx, hrun, Result.andThen]
    exact hK' _ _ hK
end
section
variable {w : World} {base g n cap size i : Nat} {e : TypeId} {xs zs : List Value} {cur : Array Value}
/-- the cells behind the move to the right, and behind the new element -/
def insC (size i : Nat) (xs : List Value) (cur : Array Value) : Array Value := (cur.toList.take ((i + 1) * size) ++ xs.drop (i * size) ++ cur.toList.drop ((i + 1) * size + (xs.drop (i * size)).length)).toArray
def insZ (size i : Nat) (zs : List Value) (cur : Array Value) : Array Value := (cur.toList.take (i * size) ++ zs ++ cur.toList.drop (i * size + zs.length)).toArray
theorem insC_size (hnc : n + 1 ≤ cap) (hcs : cur.size = cap * size) (hl : xs.length = n * size) (hi : i < n) : (insC size i xs cur).size = cap * size := by
  have h1 : i * size + size ≤ n * size := by rw [← Nat.succ_mul]; exact Nat.mul_le_mul_right _ (by omega)
  have h2 : n * size + size ≤ cap * size := by rw [← Nat.succ_mul]; exact Nat.mul_le_mul_right _ hnc
  have h3 : (i + 1) * size = i * size + size := Nat.succ_mul _ _
  simp only [insC, List.size_toArray, List.length_append, List.length_take, List.length_drop, Array.length_toList, hcs, hl, h3]
  omega
theorem owns_insert (hbg : base ≤ g) (hg : w.heap[g]? = some (.cells cur e (0, 0))) (hnc : n + 1 ≤ cap) (hcm : cap ≤ maxLen) (hcs : cur.size = cap * size) (htk : cur.toList.take (n * size) = xs) (hi : i < n) (hz : zs.length = size) (hl : xs.length = n * size) :
    ((w.setRow g (insC size i xs cur)).setRow g (insZ size i zs (insC size i xs cur))).ownsRow base e size (.slice (some ⟨g, 0, none⟩) (n + 1) cap) (n + 1) (xs.take (i * size) ++ zs ++ xs.drop (i * size)) ∧
    w.grownBy ((w.setRow g (insC size i xs cur)).setRow g (insZ size i zs (insC size i xs cur))) (some g) := by
  have h1 : i * size + size ≤ n * size := by rw [← Nat.succ_mul]; exact Nat.mul_le_mul_right _ (by omega)
  have h2 : n * size + size ≤ cap * size := by rw [← Nat.succ_mul]; exact Nat.mul_le_mul_right _ hnc
  have h3 : (i + 1) * size = i * size + size := Nat.succ_mul _ _
  have h4 : (n + 1) * size = n * size + size := Nat.succ_mul _ _
  have hsz := insC_size (cur := cur) hnc hcs hl hi
  rw [setRow_setRow]
  refine ⟨⟨?_, .inr ⟨g, cap, _, rfl, hbg, setRow_heap w g cur _ e _ hg, by omega, hcm, ?_, ?_⟩⟩, rfl, rfl, rfl, by simp, fun k _ hk => setRow_other w g k _ fun e => hk (by rw [e])⟩
  · simp only [List.length_append, List.length_take, List.length_drop, hl, hz, h4]
    omega
  · simp only [insZ, List.size_toArray, List.length_append, List.length_take, List.length_drop, Array.length_toList, hsz, hz]
    omega
  · have e1 : cur.toList.take (i * size) = xs.take (i * size) := by rw [← htk, List.take_take, Nat.min_eq_left (by omega)]
    have lt : (cur.toList.take ((i + 1) * size)).length = i * size + size := by rw [List.length_take, Array.length_toList, hcs, h3]; omega
    have e2 : (insC size i xs cur).toList.take (i * size) = xs.take (i * size) := by
      simp only [insC]
      rw [List.append_assoc, List.take_append_of_le_length (by rw [lt]; omega), List.take_take, Nat.min_eq_left (by omega), e1]
    have e3 : (insC size i xs cur).toList.drop (i * size + zs.length) = xs.drop (i * size) ++ cur.toList.drop ((i + 1) * size + (xs.drop (i * size)).length) := by
      simp only [insC]
      rw [List.append_assoc, List.drop_append, lt, hz, Nat.sub_self, List.drop_zero, List.drop_of_length_le (by rw [lt]; exact Nat.le_refl _), List.nil_append]
    have e4 : (xs.take (i * size) ++ zs ++ xs.drop (i * size)).length = (n + 1) * size := by
      simp only [List.length_append, List.length_take, List.length_drop, hl, hz, h4]
      omega
    simp only [insZ]
    rw [e2, e3, ← List.append_assoc, List.take_append_of_le_length (by rw [e4]; exact Nat.le_refl _), List.take_of_length_le (by rw [e4]; exact Nat.le_refl _)]
end
theorem ins_eq {α : Type} {t : α} : ∀ (K : List α) (i : Nat), i ≤ K.length → K.insertIdx i t = K.take i ++ t :: K.drop i
  | K, 0, _ => by simp
  | [], i + 1, h => by simp at h
  | x :: K, i + 1, h => by
    rw [List.insertIdx_succ_cons, ins_eq K i (by simpa using h), List.take_succ_cons, List.drop_succ_cons, List.cons_append]
end Go.Ap
namespace Go.Proofs.YtbahddjbncinbaaGreatDoor
open Go.RowKit Go.Ap Go.Shelf Go.Proofs

attribute [local go_sem] Oper.semAt_some bs_toList empty_toList bs_size bs_extract
set_option maxRecDepth 100000 in
set_option maxHeartbeats 8000000 in
/-- in the midst -/
theorem insMid (w : World) (base g n cap i vb : Nat) (xs zs : List Value) (h : w.ownsRow base 39 6 (.slice (some ⟨g, 0, none⟩) n cap) n xs) (hi : i < n) (hroom : n + 1 ≤ cap) (h1 : ∀ u ∈ xs, u.oneCell' = true) (hz : zs.length = 6) (h1z : ∀ u ∈ zs, u.oneCell' = true)
    (hv : BlkK w vb zs.toArray 39) (hne : vb ≠ g) :
    Calls Tryz.prog 42 #[.slice (some ⟨g, 0, none⟩) n cap, .int .i64 i, .slice (some ⟨vb, 0, none⟩) 1 1] w fun e w' => e = .returned (.slice (some ⟨g, 0, none⟩) (n + 1) cap) ∧ w'.ownsRow base 39 6 (.slice (some ⟨g, 0, none⟩) (n + 1) cap) (n + 1) (xs.take (i * 6) ++ zs ++ xs.drop (i * 6)) ∧ Below base w w' := by
  obtain ⟨i0, hi0, hz0, hz1, hz2⟩ := info_parts infoTok
  obtain ⟨hl, ⟨h0, _⟩ | ⟨g', cap', cur, he, hbg, hg, hnc, hcm, hcs, htk⟩⟩ := h
  · cases h0
  simp only [Value.slice.injEq, Option.some.injEq, Addr.mk.injEq, and_true, true_and] at he
  obtain ⟨rfl, rfl⟩ := he
  have hgd : w.drew.heap[g]? = some (.cells cur 39 (0, 0)) := hg
  have hcell : ∀ t u, cur.toList[t]? = some u → w.drew.cell? ⟨g, t, none⟩ = some u := fun t u hu => blk_cell hgd (by rw [Array.getElem?_toList] at hu; exact hu)
  have hadd : ∀ o t : Nat, (⟨g, o, none⟩ : Addr).add t = ⟨g, o + t, none⟩ := fun o t => by unfold Addr.add; split <;> simp_all
  have hadd2 : ∀ o t : Nat, (⟨vb, o, none⟩ : Addr).add t = ⟨vb, o + t, none⟩ := fun o t => by unfold Addr.add; split <;> simp_all
  obtain ⟨m, hm⟩ : ∃ m, n + 1 = m := ⟨_, rfl⟩
  obtain ⟨j, hj⟩ : ∃ j, i + 1 = j := ⟨_, rfl⟩
  obtain ⟨W1, hW1⟩ : ∃ W1, w.drew.setRow g (insC 6 i xs cur) = W1 := ⟨_, rfl⟩
  have hh1 : W1.heap[g]? = some (.cells (insC 6 i xs cur) 39 (0, 0)) := by rw [← hW1]; exact setRow_heap _ g cur _ _ _ hgd
  have hcs1 := insC_size (cur := cur) hroom hcs hl hi
  have h5 := Nat.mul_le_mul_right 6 hroom
  have HC1 := Lib.hid (show ∀ ty dc sc, (Builtin.copy_ #[22, 22] ty #[.slice (some ⟨g, j * 6, none⟩) (m - j) dc, .slice (some ⟨g, i * 6, none⟩) (m - i) sc]).run Tryz.prog w.drew = .ok (goInt ((n - i : Nat) : Int)) W1 from fun ty dc sc => by
    have := run_copy_rowM (P := Tryz.prog) w.drew 22 22 ty 39 i0 Tryz.underlying22 hi0 g (j * 6) (m - j) dc (n - i) ⟨g, i * 6, none⟩ (m - i) sc cur (xs.drop (i * 6)) hgd (by simp only [Nat.min_def]; split <;> omega) (by rw [hz1, List.length_drop, hl]; omega)
      (fun t u hu => by
        rw [hadd]
        refine hcell _ _ ?_
        rw [List.getElem?_drop, ← htk, List.getElem?_take] at hu
        split at hu
        · exact hu
        · cases hu)
      (by rw [List.length_drop, hl, hcs]; omega) (fun u hu => h1 u (List.mem_of_mem_drop hu))
    rw [this, ← hW1, insC, hj])
  obtain ⟨W2, hW2⟩ : ∃ W2, W1.setRow g (insZ 6 i zs (insC 6 i xs cur)) = W2 := ⟨_, rfl⟩
  have HC2 := Lib.hid (show ∀ ty dc, (Builtin.copy_ #[22, 22] ty #[.slice (some ⟨g, i * 6, none⟩) (m - i) dc, .slice (some ⟨vb, 0, none⟩) 1 1]).run Tryz.prog W1 = .ok (goInt ((1 : Nat) : Int)) W2 from fun ty dc => by
    have := run_copy_rowM (P := Tryz.prog) W1 22 22 ty 39 i0 Tryz.underlying22 hi0 g (i * 6) (m - i) dc 1 ⟨vb, 0, none⟩ 1 1 (insC 6 i xs cur) zs hh1 (by simp only [Nat.min_def]; split <;> omega) (by rw [hz1, hz])
      (fun t u hu => by
        rw [hadd2, Nat.zero_add, ← hW1]
        refine (cell_setRow_other _ g _ _ (by exact hne)).trans ?_
        exact hv.cell (by simpa using hu))
      (by rw [hz, hcs1]; omega) h1z
    rw [this, ← hW2, insZ])
  have HO := Lib.hid (show W2.ownsRow base 39 6 (.slice (some ⟨g, 0, none⟩) m cap) m (xs.take (i * 6) ++ zs ++ xs.drop (i * 6)) ∧ Below base w W2 by
    have := owns_insert (w := w.drew) (zs := zs) hbg hgd hroom hcm hcs htk hi hz hl
    rw [hW1, hW2, hm] at this
    exact ⟨this.1, ((bdrewN w 1).mono (Nat.le_trans hbg (Nat.le_of_lt (Array.getElem?_eq_some_iff.1 hg).1))).grown this.2 (Nat.le_trans hbg (Nat.le_of_lt (Array.getElem?_eq_some_iff.1 hg).1)) fun r hr => by cases hr; exact hbg⟩)
  have hov : ∀ lb cb, (callFunc 66 #[.slice (some ⟨vb, 0, none⟩) 1 1, .slice (some ⟨g, j * 6, none⟩) lb cb]).run Tryz.prog w = .ok (.value (.bool false)) w := fun lb cb => by
    rw [run_callFunc_extern Tryz.func66 (by kernel_rfl) (by kernel_rfl) (by kernel_rfl) (e := Extern.SlicesOverlaps.overlaps #[22, 22] #[4]) (by kernel_rfl),
      Lib.run_overlaps_apart w 22 4 39 Tryz.underlying22 6 (fun w => Tryz.sizeOf39 w) ⟨vb, 0, none⟩ ⟨g, j * 6, none⟩ 1 1 lb cb hne 39 39 6 (cap * 6)
        (by simp only [World.shape?, show w.heap[vb]? = _ from hv]; simp [hz]) (by simp only [World.shape?, hg]; simp [hcs]) (by omega) hv.hard hv.hard]
    rfl
  have hw1 : IntKind.i64.wrap ((n : Int) + 1) = (m : Int) := by rw [← hm, IntWalk.i64_in _ (by unfold maxLen at hcm; omega)]; rfl
  have hw2 : IntKind.i64.wrap ((i : Int) + 1) = (j : Int) := by rw [← hj, IntWalk.i64_in _ (by unfold maxLen at hcm; omega)]; rfl
  have dne : ((i : Int) == (n : Int)) = false := by rw [beq_eq_false_iff_ne]; omega
  have dgt : decide ((cap : Int) < (m : Int)) = false := by rw [decide_eq_false_iff_not]; omega
  have dgt' : decide (cap < m) = false := by rw [decide_eq_false_iff_not]; omega
  have hin : i ≤ n := by omega
  have him : i ≤ m := by omega
  have hjm : j ≤ m := by omega
  have hmc : m ≤ cap := by omega
  have hnc2 : n ≤ cap := hnc
  have hcj : ¬ cap = j := by omega
  have hci : ¬ cap = i := by omega
  rw [hm]
  clear hl hbg hg hcm hcs htk hgd hcell hadd hadd2 hW1 hh1 hcs1 hW2 h1 hv hne h1z hz h5 hnc hm hj hi
  go_enter Tryz.func42, Tryz.ntmps42
  go_wp2_with (simp only [hov])
  clear hov
  refine (wpIn_wide (n := 20)).1 ?_
  refine wpIn_region_planN (fun W' => W' = w.drew ∨ W' = W1) (.take 0 <| .take 1 <| .take 2 <| .take 3 <| .take 4 <| .take 5 <| .take 6 <| .take 7 <| .one 8 .fin) (fun _ => trivial) (by kernel_rfl) (by kernel_rfl) (.inl rfl) ?_
  iterate 8
    apply plan_take rfl rfl (by rfl)
    case hy =>
      rintro W' hb'
      clear hb'
      go_simp
      first | done | with_reducible rfl
    simp only [List.setIfInBounds_toArray, List.set_cons_zero, List.set_cons_succ]
  refine plan_one rfl ?_
  refine wpListIn_copy_known _ rfl (.tmp 73) (.tmp 76) 22 22 rfl _ _ _ _ rfl rfl (HC1.out _ _ _) ?_
  gi_wp2_with (fail)
  refine ⟨.inr trivial, ?_⟩
  refine plan_fin ?_
  gi_wp2_with (fail)
  have hc2 := HC2.out
  go_wp2_with (fail)
  go_ret
  exact ⟨rfl, HO.out.1, HO.out.2⟩
set_option maxRecDepth 100000 in
set_option maxHeartbeats 4000000 in
/-- at the end -/
theorem insEnd (w : World) (base g n cap vb : Nat) (xs zs : List Value) (h : w.ownsRow base 39 6 (.slice (some ⟨g, 0, none⟩) n cap) n xs) (hn : n ≤ 1024) (hroom : n + 1 ≤ cap) (hz : zs.length = 6) (h1z : ∀ u ∈ zs, u.oneCell' = true) (hv : BlkK w vb zs.toArray 39) (hbw : base ≤ w.heap.size) :
    Calls Tryz.prog 42 #[.slice (some ⟨g, 0, none⟩) n cap, .int .i64 n, .slice (some ⟨vb, 0, none⟩) 1 1] w fun e w' => ∃ u, e = .returned u ∧ w'.ownsRow base 39 6 u (n + 1) (xs ++ zs) ∧ Below base w w' := by
  obtain ⟨i0, hi0, hz0, hz1, hz2⟩ := info_parts infoTok
  have HOW := Lib.hid h
  have HNEW := Lib.hid (show ∀ (j : Nat) (u : Value), zs[j]? = some u → w.cell? ((⟨vb, 0, none⟩ : Addr).add j) = some u from fun j u hu => by
    rw [show (⟨vb, 0, none⟩ : Addr).add j = ⟨vb, j, none⟩ by unfold Addr.add; split <;> simp_all]
    exact hv.cell (by simpa using hu))
  have H1 := Lib.hid h1z
  have dne : ((n : Int) == (n : Int)) = true := by simp
  have hcap : n ≤ cap := by omega
  have hci : ¬ cap = n := by omega
  clear h h1z hv
  go_enter Tryz.func42, Tryz.ntmps42
  go_wp2_with (at_builtin; refine wpList_append_own _ rfl _ _ 22 rfl base 39 i0 (.agg #[.string { data := #[] }, .string { data := #[] }, .string { data := #[] }, .int .i64 0, .int .i64 0, .string { data := #[] }]) 6 80 Tryz.underlying22 hi0 hz0 hz1 hz2 rfl (by decide) _ _ _ rfl HOW.out ⟨vb, 0, none⟩ 1 1 zs rfl (by rw [hz]) HNEW.out H1.out (by unfold maxLen; omega) (by omega) hbw ?_; intro v1 w7 hown1 hgrow1 _; have HO7 := Lib.hid hown1; have HG := Lib.hid hgrow1; clear hown1 hgrow1)
  go_ret
  exact ⟨_, rfl, HO7.out, (Below.refl base w).grown HG.out hbw fun r hr => (HOW.out.lt r hr).1⟩
/-- one token more -/
theorem insTk (w : World) (base g n cap i vb : Nat) (K : List Tok) (t : Tok) (h : OwnTk w base (.slice (some ⟨g, 0, none⟩) n cap) K) (hk : K.length = n) (hi : i ≤ n) (hn : n ≤ 1024) (hroom : n + 1 ≤ cap) (hv : BlkK w vb (tokC6 t).toArray 39) (hne : vb ≠ g) (hbw : base ≤ w.heap.size) :
    Calls Tryz.prog 42 #[.slice (some ⟨g, 0, none⟩) n cap, .int .i64 i, .slice (some ⟨vb, 0, none⟩) 1 1] w fun e w' => ∃ u, e = .returned u ∧ OwnTk w' base u (K.insertIdx i t) ∧ Below base w w' := by
  subst hk
  have hins : K.insertIdx i t = K.take i ++ t :: K.drop i := ins_eq K i hi
  have hfl : (K.insertIdx i t).flatMap tokC6 = (K.flatMap tokC6).take (i * 6) ++ tokC6 t ++ (K.flatMap tokC6).drop (i * 6) := by
    rw [hins, List.flatMap_append, List.flatMap_cons, flat_take tokC_len, flat_drop tokC_len, List.append_assoc]
  have hil : (K.insertIdx i t).length = K.length + 1 := by rw [List.length_insertIdx, if_pos hi]
  unfold OwnTk
  rw [hil, hfl]
  rcases Nat.lt_or_ge i K.length with h1 | h1
  · exact (insMid w base g K.length cap i vb (K.flatMap tokC6) (tokC6 t) h h1 hroom (flat_one tokC_one K) rfl (tokC_one t) hv hne).mono fun e w' ⟨he, ho, hb⟩ => ⟨_, he, ho, hb⟩
  · obtain rfl : i = K.length := by omega
    have hl := flat_len tokC_len K
    rw [List.take_of_length_le (by rw [hl]; exact Nat.le_refl _), List.drop_of_length_le (by rw [hl]; exact Nat.le_refl _), List.append_nil]
    exact insEnd w base g K.length cap vb (K.flatMap tokC6) (tokC6 t) h hn hroom rfl (tokC_one t) hv hbw
end Go.Proofs.YtbahddjbncinbaaGreatDoor
