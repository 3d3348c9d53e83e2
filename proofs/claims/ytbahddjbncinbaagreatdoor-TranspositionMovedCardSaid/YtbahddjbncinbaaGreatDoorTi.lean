/-
  sequence.Increasing, of the program: the closure that looks behind an index.
-/
import Derived.Test.YtbahddjbncinbaaGreatDoorTs
import Derived.Deep.OwnRows
import Derived.Deep.RegionHeld3
namespace Go.Ap
theorem mxF_le (x : Int) : ∀ (ys : List Int) (ss : List Nat) (m B : Nat), m ≤ B → (∀ s ∈ ss, s ≤ B) → mxF x ys ss m ≤ B
  | [], ss, m, B, h, _ => by cases ss <;> exact h
  | y :: ys, [], m, B, h, _ => h
  | y :: ys, s :: ss, m, B, h, hs => by
    unfold mxF
    refine mxF_le x ys ss _ B ?_ fun t ht => hs t (List.mem_cons_of_mem _ ht)
    have := hs s (List.mem_cons_self ..)
    split <;> omega
theorem sumF_le : ∀ (l : List Int), ∀ s ∈ sumF l, s ≤ l.length
  | [], s, h => by simp [sumF] at h
  | x :: xs, s, h => by
    unfold sumF at h
    have hm := mxF_le x xs (sumF xs) 0 xs.length (Nat.zero_le _) (sumF_le xs)
    rcases List.mem_cons.1 h with rfl | h
    · simp only [List.length_cons]; omega
    · have := sumF_le xs s h
      simp only [List.length_cons]; omega
/-- the greatest sum behind index i -/
def aftF (l : List Int) (i : Nat) : Nat := mxF (nth l i) (l.drop (i + 1)) ((sumF l).drop (i + 1)) 0
theorem sumF_at {l : List Int} {i : Nat} (h : i < l.length) : (sumF l).drop i = (1 + aftF l i) :: (sumF l).drop (i + 1) := by
  have e : l.drop i = nth l i :: l.drop (i + 1) := by rw [List.drop_eq_getElem_cons h, nth_eq h]
  rw [← sumF_drop, e, sumF]
  unfold aftF
  rw [sumF_drop]
theorem sumF_nth {l : List Int} {i : Nat} (h : i < l.length) : (sumF l)[i]? = some (1 + aftF l i) := by
  have := congrArg (fun q : List Nat => q[0]?) (sumF_at h)
  simpa using this
theorem aftF_le (l : List Int) (i : Nat) (h : i < l.length) : aftF l i < l.length := by
  have := sumF_le l _ (List.mem_of_getElem? (sumF_nth h))
  omega
theorem mxF_step {l : List Int} {k : Nat} (h : k < l.length) (x : Int) (m : Nat) : mxF x (l.drop k) ((sumF l).drop k) m = mxF x (l.drop (k + 1)) ((sumF l).drop (k + 1)) (if x < nth l k then max m (1 + aftF l k) else m) := by
  have e : l.drop k = nth l k :: l.drop (k + 1) := by rw [List.drop_eq_getElem_cons h, nth_eq h]
  rw [e, sumF_at h, mxF]
theorem mxF_end {l : List Int} {k : Nat} (h : l.length ≤ k) (x : Int) (m : Nat) : mxF x (l.drop k) ((sumF l).drop k) m = m := by
  rw [List.drop_eq_nil_of_le h]
  cases (sumF l).drop k <;> rfl
end Go.Ap
namespace Go.Proofs.YtbahddjbncinbaaGreatDoor
open Go.RowKit Go.Ap Go.Shelf Go.Proofs

attribute [local go_sem] Oper.semAt_some bs_toList empty_toList bs_size bs_extract
set_option maxRecDepth 100000 in
set_option maxHeartbeats 4000000 in
theorem afterP (l : List Int) (n : Nat) (bl ol cl S Bl Bs i : Nat) (W : World) (hn : l.length = n) (hn2 : n ≤ 1048576) (hi : i < n) (h1 : W.cell? ⟨Bl, 0, none⟩ = some (.slice (some ⟨bl, ol, none⟩) n cl)) (h2 : ∀ j, j < n → W.cell? ⟨bl, ol + j, none⟩ = some (.int .i64 (nth l j)))
    (h3 : W.cell? ⟨Bs, 0, none⟩ = some (.slice (some ⟨S, 0, none⟩) n n)) (h4 : ∀ j, i < j → j < n → W.cell? ⟨S, j, none⟩ = some (.int .i64 ((1 + aftF l j : Nat) : Int))) :
    Calls Tryz.prog 129 #[.int .i64 (i : Int), .pointer (some ⟨Bl, 0, none⟩), .pointer (some ⟨Bs, 0, none⟩)] W fun e w' => e = .returned (.int .i64 (aftF l i : Int)) ∧ ∃ q, w' = W.drewN q := by
  have H1 := Lib.hid h1
  have H2 := Lib.hid h2
  have H3 := Lib.hid h3
  have H4 := Lib.hid h4
  have HN := Lib.hid hn
  clear h1 h2 h3 h4
  go_enter Tryz.func129, Tryz.ntmps129
  go_wp2_with (fail)
  go_loopw [5, 6] (fun mv kv wr => ∃ k m : Nat, i + 1 ≤ k ∧ k ≤ n ∧ kv = .int .i64 k ∧ mv = .int .i64 m ∧ m ≤ n ∧ mxF (nth l i) (l.drop k) ((sumF l).drop k) m = aftF l i ∧ ∃ q, wr = W.drewN q) (fun _ kv _ => n - (intOf kv).toNat)
  case atStart => exact ⟨i + 1, 0, Nat.le_refl _, by omega, by simp, rfl, Nat.zero_le _, rfl, 0, rfl⟩
  case round =>
    obtain ⟨wo, rfl⟩ : ∃ wo : World, wo = wr := ⟨_, rfl⟩
    obtain ⟨k, m, hk1, hk2, rfl, rfl, hm, hx, q, hq⟩ := hrel
    have HX := Lib.hid hx
    have HQ := Lib.hid hq
    have c1 : wo.cell? ⟨Bl, 0, none⟩ = some (.slice (some ⟨bl, ol, none⟩) n cl) := by rw [hq]; exact H1.out
    clear hx
    by_cases hkn : k < n
    · have HS := Lib.hid (mxF_step (l := l) (k := k) (by omega) (nth l i) m)
      have c2 : wo.cell? ⟨bl, ol + k, none⟩ = some (.int .i64 (nth l k)) := by rw [hq]; exact H2.out k hkn
      have c3 : wo.cell? ⟨bl, ol + i, none⟩ = some (.int .i64 (nth l i)) := by rw [hq]; exact H2.out i hi
      have C4 := Lib.hid (fun nq => show (wo.drewN nq).cell? ⟨Bs, 0, none⟩ = some (.slice (some ⟨S, 0, none⟩) n n) by rw [hq]; exact H3.out)
      have C5 := Lib.hid (fun nq => show (wo.drewN nq).cell? ⟨S, k, none⟩ = some (.int .i64 ((1 + aftF l k : Nat) : Int)) by rw [hq]; exact H4.out k (by omega) hkn)
      have hal := aftF_le l k (by omega)
      have i1 : (k : Int) < (n : Int) := by omega
      have i2 : (i : Int) < (n : Int) := by omega
      obtain ⟨xk, hxk⟩ : ∃ xk, nth l k = xk := ⟨_, rfl⟩
      obtain ⟨xi, hxi⟩ : ∃ xi, nth l i = xi := ⟨_, rfl⟩
      rw [hxk] at c2 HS
      rw [hxi] at c3 HS HX
      have HXI := Lib.hid hxi
      clear hxk hxi hq
      by_cases hlt : xi < xk
      · have d1 : decide (xi < xk) = true := by simpa using hlt
        rw [if_pos hlt] at HS
        clear hlt
        go_wp2_with (fail)
        go_quiet (fail)
        have c4 := C4.out nq
        have c5 := C5.out nq
        go_wp2_with (fail)
        go_roundw
        case rel => exact ⟨k + 1, max m (1 + aftF l k), by omega, by omega, by simp, by congr 1; omega, by omega, by rw [HXI.out, ← HX.out, HS.out], q + nq, by rw [HQ.out, World.drewN_drewN]⟩
        case measure => simp [intOf]; omega
      · have d1 : decide (xi < xk) = false := by simpa using hlt
        rw [if_neg hlt] at HS
        clear hlt
        go_wp2_with (fail)
        go_quiet (fail)
        go_wp2_with (fail)
        go_roundw
        case rel => exact ⟨k + 1, m, by omega, by omega, by simp, rfl, hm, by rw [HXI.out, ← HX.out, HS.out], q + nq, by rw [HQ.out, World.drewN_drewN]⟩
        case measure => simp [intOf]; omega
    · obtain rfl : n = k := by omega
      clear hq
      have HE := Lib.hid (show m = aftF l i by rw [← HX.out, mxF_end (by omega)])
      go_wp2_with (fail)
      go_ret
      exact ⟨by rw [← HE.out]; rfl, q, HQ.out⟩
theorem weightP (i : Int) (w : World) : Calls Tryz.prog 109 #[.int .i64 i] w fun e w' => e = .returned (.int .i64 1) ∧ w' = w := by
  go_enter Tryz.func109, Tryz.ntmps109
  go_wp2_with (fail)
  go_ret
  exact ⟨rfl, rfl⟩
/-- the sums while they are reckoned: those from i on are there -/
def sumsL (l : List Int) (i : Nat) : List Int := (List.range l.length).map fun k => if i ≤ k then ((1 + aftF l k : Nat) : Int) else 0
theorem sumsL_len (l : List Int) (i : Nat) : (sumsL l i).length = l.length := by simp [sumsL]
theorem sumsL_nth {l : List Int} {i k : Nat} (h : k < l.length) : nth (sumsL l i) k = if i ≤ k then ((1 + aftF l k : Nat) : Int) else 0 := by
  simp [sumsL, nth, h]
theorem sumsL_start (l : List Int) : sumsL l l.length = List.replicate l.length 0 := by
  apply List.ext_getElem
  · simp [sumsL]
  · intro k h1 h2
    have : k < l.length := by simpa [sumsL] using h1
    simp [sumsL]
    omega
theorem sumsL_set {l : List Int} {i : Nat} : (sumsL l (i + 1)).set i ((1 + aftF l i : Nat) : Int) = sumsL l i := by
  apply List.ext_getElem
  · simp [sumsL]
  · intro k h1 h2
    simp only [List.getElem_set, sumsL, List.getElem_map, List.getElem_range]
    by_cases h : i = k
    · subst h; simp
    · rw [if_neg h]
      by_cases h3 : i ≤ k
      · rw [if_pos (by omega), if_pos h3]
      · rw [if_neg (by omega), if_neg h3]
/-- the greatest of the sums from i on -/
def topI (l : List Int) (i : Nat) : Nat := topF ((sumF l).drop i)
theorem topI_end (l : List Int) : topI l l.length = 0 := by
  unfold topI
  rw [List.drop_eq_nil_of_le (by rw [sumF_len]; exact Nat.le_refl _)]
  rfl
theorem topI_step {l : List Int} {i : Nat} (h : i < l.length) : topI l i = max (1 + aftF l i) (topI l (i + 1)) := by
  unfold topI
  rw [sumF_at h]
  rfl
theorem topI_le (l : List Int) (i : Nat) : topI l i ≤ l.length := by
  unfold topI
  rcases topF_has (l := (sumF l).drop i) with h | h
  · omega
  · exact sumF_le l _ (List.mem_of_mem_drop h)
theorem pick_take {l : List Int} {i left : Nat} {last : Option Int} (h : i < l.length) (h0 : left ≠ 0) (hc : 1 + aftF l i = left ∧ ∀ y, last = some y → y < nth l i) : pickF (l.drop i) ((sumF l).drop i) i last left = i :: pickF (l.drop (i + 1)) ((sumF l).drop (i + 1)) (i + 1) (some (nth l i)) (left - 1) := by
  have e : l.drop i = nth l i :: l.drop (i + 1) := by rw [List.drop_eq_getElem_cons h, nth_eq h]
  rw [e, sumF_at h, pickF, if_neg h0, if_pos hc]
theorem pick_skip {l : List Int} {i left : Nat} {last : Option Int} (h : i < l.length) (h0 : left ≠ 0) (hc : ¬ (1 + aftF l i = left ∧ ∀ y, last = some y → y < nth l i)) : pickF (l.drop i) ((sumF l).drop i) i last left = pickF (l.drop (i + 1)) ((sumF l).drop (i + 1)) (i + 1) last left := by
  have e : l.drop i = nth l i :: l.drop (i + 1) := by rw [List.drop_eq_getElem_cons h, nth_eq h]
  rw [e, sumF_at h, pickF, if_neg h0, if_neg hc]
theorem pick_end {l : List Int} {i left : Nat} {last : Option Int} (h : l.length ≤ i) : pickF (l.drop i) ((sumF l).drop i) i last left = [] := by
  rw [List.drop_eq_nil_of_le h]
  cases (sumF l).drop i <;> rfl
/-- where the second loop stands -/
structure PickS (l : List Int) (i left : Nat) (pre : List Nat) : Prop where
  rest : pre ++ pickF (l.drop i) ((sumF l).drop i) i (pre.getLast?.map fun k => nth l k) left = incF l
  lt : ∀ k ∈ pre, k < l.length
  few : pre.length ≤ i
  left : left ≤ l.length
theorem PickS.start (l : List Int) : PickS l 0 (topI l 0) [] := ⟨rfl, by simp, Nat.zero_le _, topI_le l 0⟩
theorem PickS.take {l : List Int} {i left : Nat} {pre : List Nat} (h : PickS l i left pre) (hi : i < l.length) (h0 : left ≠ 0) (h1 : 1 + aftF l i = left) (h2 : ∀ k, pre.getLast? = some k → nth l k < nth l i) : PickS l (i + 1) (left - 1) (pre ++ [i]) := by
  refine ⟨?_, fun k hk => ?_, by simp; exact h.few, by have := h.left; omega⟩
  · rw [← h.rest, pick_take hi h0 ⟨h1, fun y hy => ?_⟩]
    · simp
    · obtain ⟨k, hk, rfl⟩ := Option.map_eq_some_iff.1 hy
      exact h2 k hk
  · rcases List.mem_append.1 hk with hk | hk
    · exact h.lt k hk
    · rw [List.mem_singleton.1 hk]; exact hi
theorem PickS.skip {l : List Int} {i left : Nat} {pre : List Nat} (h : PickS l i left pre) (hi : i < l.length) (h0 : left ≠ 0) (h1 : ¬ (1 + aftF l i = left ∧ ∀ k, pre.getLast? = some k → nth l k < nth l i)) : PickS l (i + 1) left pre := by
  refine ⟨?_, h.lt, by have := h.few; omega, h.left⟩
  rw [← h.rest, pick_skip hi h0 fun ⟨g1, g2⟩ => h1 ⟨g1, fun k hk => g2 _ (by rw [hk]; rfl)⟩]
theorem PickS.fin {l : List Int} {i left : Nat} {pre : List Nat} (h : PickS l i left pre) (he : l.length ≤ i ∨ left = 0) : pre = incF l := by
  rw [← h.rest]
  rcases he with he | rfl
  · rw [pick_end he, List.append_nil]
  · rw [pickF_zero, List.append_nil]
def castL (pre : List Nat) : List Int := pre.map fun k => ((k : Nat) : Int)
theorem castL_len (pre : List Nat) : (castL pre).length = pre.length := by simp [castL]
set_option maxRecDepth 100000 in
set_option maxHeartbeats 8000000 in
theorem bestP (l : List Int) (a : Option Addr) (n c : Nat) (w : World) (h : Ints w a n l) (hn : n ≤ 1048576) :
    Calls Tryz.prog 108 #[.slice a n c, .func (.func 109) #[] #[]] w fun e w' => ∃ v x, e = .returned (.tuple #[v, .int .i64 x]) ∧ OwnI 3 w' w.heap.size v (castL (incF l)) ∧ Below w.heap.size w w' := by
  obtain ⟨i9, hi9, hy0, hy1, hy2⟩ := info_parts infoInt
  have hl := h.len
  have HX := Lib.hid h
  have hmk : ∀ w, (Instr.makeSlice 29 (.int .i64 n) (.int .i64 n)).run Tryz.prog w = .ok (.slice (some ⟨w.heap.size, 0, none⟩) n n) (w.alloc (.cells (Array.replicate n (.int .i64 0)) 3)) := fun w => by
    have h := run_make_row (P := Tryz.prog) 29 3 i9 (.int .i64 0) Tryz.underlying29 hi9 hy0 hy1 rfl .i64 .i64 n (by rw [hy2]; omega) (by omega) w
    rw [made_ints, show ((List.replicate n (0 : Int)).map (Value.int .i64)).toArray = Array.replicate n (.int .i64 0) by simp] at h
    exact h
  have HXL := Lib.hid (show ∀ j, j < n → ∃ b o, a = some ⟨b, o, none⟩ from fun j hj => by obtain ⟨b, o, e, _⟩ := h.at (show 0 < n by omega); exact ⟨b, o, e⟩)
  obtain ⟨B, hB⟩ : ∃ B, w.heap.size = B := ⟨_, rfl⟩
  obtain ⟨W0, hW0⟩ : ∃ W0, ((w.alloc (.cells #[.slice a n c] 29)).alloc (.cells (Array.replicate n (.int .i64 0)) 3)).alloc (.cells #[.slice (some ⟨B + 1, 0, none⟩) n n] 29) = W0 := ⟨_, rfl⟩
  have hb0 : Below w.heap.size w W0 := by rw [← hW0]; exact bstep (bstep (balloc _ _) (balloc _ _)) (balloc _ _)
  have HB0 := Lib.hid hb0
  have k1 := (((BlkK.new w #[.slice a n c] 29).below (balloc _ (.cells (Array.replicate n (.int .i64 0)) 3))).below (balloc _ (.cells #[.slice (some ⟨B + 1, 0, none⟩) n n] 29)))
  rw [hB, hW0] at k1
  have K1 := Lib.hid k1
  have k2 := (BlkK.new (w.alloc (.cells #[.slice a n c] 29)) (Array.replicate n (.int .i64 0)) 3).below (balloc _ (.cells #[.slice (some ⟨B + 1, 0, none⟩) n n] 29))
  rw [World.size_alloc, hB, hW0] at k2
  have K2 := Lib.hid (show Arr W0 (B + 1) 3 (sumsL l n) by
    rw [← hl, sumsL_start, hl, Arr, show ((List.replicate n (0 : Int)).map (Value.int .i64)).toArray = Array.replicate n (.int .i64 0) by simp]
    exact k2)
  have k3 := BlkK.new ((w.alloc (.cells #[.slice a n c] 29)).alloc (.cells (Array.replicate n (.int .i64 0)) 3)) #[.slice (some ⟨B + 1, 0, none⟩) n n] 29
  rw [World.size_alloc, World.size_alloc, hB, hW0] at k3
  have K3 := Lib.hid (show BlkK W0 (B + 1 + 1) #[.slice (some ⟨B + 1, 0, none⟩) n n] 29 from k3)
  have HBB := Lib.hid hB
  have HW0 := Lib.hid hW0
  clear h hB hW0 hb0 k1 k2 k3
  go_enter Tryz.func108, Tryz.ntmps108
  go_wp2_with (fail)
  rw [HBB.out, HW0.out]
  clear hmk
  go_loopw [8, 9] (fun tv iv wr => ∃ k : Nat, k ≤ n ∧ iv = .int .i64 ((k : Int) - 1) ∧ tv = .int .i64 (topI l k : Int) ∧ Arr wr (B + 1) 3 (sumsL l k) ∧ BlkK wr B #[.slice a n c] 29 ∧ BlkK wr (B + 1 + 1) #[.slice (some ⟨B + 1, 0, none⟩) n n] 29 ∧ Below w.heap.size w wr) (fun _ iv _ => (intOf iv + 1).toNat)
  case atStart => exact ⟨n, Nat.le_refl _, rfl, by rw [← hl, topI_end]; rfl, K2.out, K1.out, K3.out, HB0.out⟩
  case round =>
    obtain ⟨wo, rfl⟩ : ∃ wo : World, wo = wr := ⟨_, rfl⟩
    obtain ⟨k, hk, rfl, rfl, ha, hk1, hk3, hb⟩ := hrel
    have HA := Lib.hid ha
    have HK1 := Lib.hid hk1
    have HK3 := Lib.hid hk3
    have HB := Lib.hid hb
    cases k with
    | zero =>
      have e1 : (((0 : Nat) : Int) - 1) = -1 := rfl
      rw [e1]
      have HTL := Lib.hid (show topI l 0 = topF (sumF l) by unfold topI; rfl)
      clear ha hk1 hk3 hb
      go_wp2_with (fail)
      go_loopw [10, 11, 12] (fun ov lv iv wr => ∃ (i left : Nat) (pre : List Nat), i ≤ n ∧ iv = .int .i64 i ∧ lv = .int .i64 left ∧ PickS l i left pre ∧ OwnI 3 wr wo.heap.size ov (castL pre) ∧ Below wo.heap.size wo wr) (fun _ _ iv _ => n - (intOf iv).toNat)
      case atStart => exact ⟨0, topI l 0, [], Nat.zero_le _, rfl, rfl, PickS.start l, OwnI.nil _ _ _, Below.refl _ _⟩
      case round =>
        obtain ⟨wi, rfl⟩ : ∃ wi : World, wi = wr := ⟨_, rfl⟩
        obtain ⟨i, left, pre, hi, rfl, rfl, hp, ho, hb⟩ := hrel
        have HP := Lib.hid hp
        have HO := Lib.hid ho
        have HB2 := Lib.hid hb
        have hle := hp.left
        have hfew := hp.few
        have hszi := hb.size
        have hk1 := HK1.out.below hb
        have hk3 := HK3.out.below hb
        have c1 := hk1.cell (i := 0) rfl
        have c3 := hk3.cell (i := 0) rfl
        obtain ⟨av, kv, rfl, hI⟩ := ho.ints (by rw [castL_len]; omega)
        have HI := Lib.hid hI
        obtain ⟨np, hnp⟩ : ∃ np, pre.length = np := ⟨_, rfl⟩
        rw [castL_len, hnp] at HI HO ⊢
        have HNP := Lib.hid hnp
        rw [hnp] at hfew
        clear hp ho hI hk1 hk3 hnp
        by_cases hin : i < n
        · by_cases hl0 : left = 0
          · subst hl0
            have HE := Lib.hid (show pre = incF l from HP.out.fin (.inr rfl))
            have i1 : (i : Int) < (n : Int) := by omega
            clear hb
            go_wp2_with (fail)
            go_ret2
            exact ⟨_, _, rfl, by rw [← HE.out]; exact (show OwnI 3 wi wo.heap.size (.slice av np kv) (castL pre) from HO.out).mono HB.out.size, bstep HB.out HB2.out⟩
          · obtain ⟨bl, ol, rfl⟩ := HXL.out i hin
            have HLC := Lib.hid (show ∀ j, j < n → wi.cell? ⟨bl, ol + j, none⟩ = some (.int .i64 (nth l j)) from fun j hj => by
              obtain ⟨b, o, e, hc⟩ := HX.out.at (show 0 < n by omega)
              cases e
              exact cell_keep (bstep HB.out hb) (hc j hj))
            have cl := HLC.out i hin
            have cs := (HA.out.kept hb).cell (k := i) (by rw [sumsL_len]; omega)
            rw [sumsL_nth (by omega), if_pos (Nat.zero_le _)] at cs
            have hal : 1 + aftF l i ≤ n := by have := aftF_le l i (by omega); omega
            have HSK := Lib.hid (fun h => HP.out.skip (i := i) (by omega) hl0 h)
            have HTK := Lib.hid (fun h => HP.out.take (i := i) (by omega) hl0 h)
            obtain ⟨sv, hsv⟩ : ∃ sv, 1 + aftF l i = sv := ⟨_, rfl⟩
            obtain ⟨xi, hxi⟩ : ∃ xi, nth l i = xi := ⟨_, rfl⟩
            rw [hsv] at cs HSK HTK hal
            rw [hxi] at cl HSK HTK
            have i1 : (i : Int) < (n : Int) := by omega
            have dl : decide (0 < (left : Int)) = true := by simp; omega
            have dl' : decide (0 < left) = true := by simp; omega
            clear hb hsv hxi
            by_cases h1 : sv = left
            · have hsl : (sv : Int) = (left : Int) := by omega
              rw [hsl] at cs
              have HS0 := HTK.out h1
              have d1 : ((left : Int) == (left : Int)) = true := by simp
              clear hsl
              cases np with
              | zero =>
                have hpn : pre = [] := List.eq_nil_of_length_eq_zero HNP.out
                have HS := Lib.hid (HS0 fun k hk => by rw [hpn] at hk; cases hk)
                clear HS0 h1 hpn
                have HO9 := Lib.hid (show OwnI 3 wi wo.heap.size (.slice av 0 kv) (castL pre) from HO.out)
                have HROW := Lib.hid (fun q => show ((wi.drewN q).alloc (.cells #[.int .i64 (i : Int)] 3)).ownsRow wo.heap.size 3 1 (.slice av 0 kv) (0) ((castL pre).map (Value.int .i64)) from by
                  have := (HO9.out.1.alloc (.cells #[.int .i64 (i : Int)] 3))
                  rw [castL_len, HNP.out] at this
                  exact this)
                go_wp2_with (fail)
                go_quiet (fail)
                have hszq : wo.heap.size ≤ (wi.drewN nq).heap.size := hszi
                have HRQ := Lib.hid (HROW.out nq)
                have HOQ := Lib.hid (show OwnI 3 (wi.drewN nq) wo.heap.size (.slice av 0 kv) (castL pre) from HO9.out.below (bdrewN _ _))
                have HBQ := Lib.hid (bstep HB2.out (bdrewN wi nq))
                generalize wi.drewN nq = wq at *
                go_wp2_with (at_builtin; refine wpList_append_own _ rfl _ _ 29 rfl wo.heap.size 3 i9 (.int .i64 0) 1 8 Tryz.underlying29 hi9 hy0 hy1 hy2 rfl (by decide) _ _ _ rfl HRQ.out ⟨wq.heap.size, 0, none⟩ 1 1 [.int .i64 (i : Int)] rfl rfl (cell_one_new _ _ _) (by simp [Value.oneCell']) (by unfold maxLen; omega) (by first | omega | (simp; omega)) (by first | omega | (simp; omega)) ?_; intro v1 w4 hown1 hgrow1 _; have HO3 := Lib.hid hown1; have HG := Lib.hid hgrow1; clear hown1 hgrow1)
                refine (weightP _ _).mono ?_
                rintro e w5 ⟨rfl, rfl⟩
                obtain ⟨j1, j2⟩ := OwnI.pushed (x := (i : Int)) HOQ.out ⟨by omega, by omega⟩ hszq (by rw [castL_len, HNP.out]; exact HO3.out) HG.out
                go_wp2_with (fail)
                go_roundw
                case rel => exact ⟨i + 1, left - 1, pre ++ [i], by omega, by simp, by congr 1; omega, HS.out, by simpa [castL] using j1, HBQ.out.trans j2⟩
                case measure => simp [intOf]; omega
              | succ m =>
                obtain ⟨bo, oo, rfl, hco⟩ := HI.out.at (show 0 < m + 1 by omega)
                have hml : m < pre.length := by rw [HNP.out]; omega
                have hgl : pre.getLast? = some pre[m] := by rw [List.getLast?_eq_getElem?, HNP.out, Nat.add_sub_cancel, List.getElem?_eq_getElem hml]
                have hqn : pre[m] < n := by rw [← hl]; exact HP.out.lt _ (List.getElem_mem hml)
                have co := hco m (by omega)
                have hnq : nth (castL pre) m = ((pre[m] : Nat) : Int) := by simp [castL, nth, hml]
                rw [hnq] at co
                obtain ⟨q, hq⟩ : ∃ q, pre[m] = q := ⟨_, rfl⟩
                rw [hq] at hgl hqn co
                have clq := HLC.out q hqn
                have HS1 := HS0
                have i2 : (q : Int) < (n : Int) := by omega
                have i3 : (m : Int) < ((m + 1 : Nat) : Int) := by omega
                have i4 : (m : Int) < (m : Int) + 1 := by omega
                have hw1 : IntKind.i64.wrap ((m : Int) + 1 - 1) = (m : Int) := by rw [show (m : Int) + 1 - 1 = (m : Int) by omega]; exact Go.IntWalk.i64_in _ (by omega)
                have hw2 : IntKind.i64.wrap (m : Int) = (m : Int) := Go.IntWalk.i64_in _ (by omega)
                by_cases hgt : nth l q < xi
                · have HS := Lib.hid (HS0 fun k hk => by rw [hgl] at hk; cases hk; exact hgt)
                  obtain ⟨xq, hxq⟩ : ∃ xq, nth l q = xq := ⟨_, rfl⟩
                  rw [hxq] at clq hgt
                  have d2 : decide (xq < xi) = true := by simpa using hgt
                  clear HS0 HS1 h1 hco hml hgl hnq hq hgt hxq
                  have HO9 := Lib.hid (show OwnI 3 wi wo.heap.size (.slice (some ⟨bo, oo, none⟩) (m + 1) kv) (castL pre) from HO.out)
                  have HROW := Lib.hid (fun q => show ((wi.drewN q).alloc (.cells #[.int .i64 (i : Int)] 3)).ownsRow wo.heap.size 3 1 (.slice (some ⟨bo, oo, none⟩) (m + 1) kv) ((m + 1)) ((castL pre).map (Value.int .i64)) from by
                    have := (HO9.out.1.alloc (.cells #[.int .i64 (i : Int)] 3))
                    rw [castL_len, HNP.out] at this
                    exact this)
                  go_wp2_with (fail)
                  go_quiet (fail)
                  have hszq : wo.heap.size ≤ (wi.drewN nq).heap.size := hszi
                  have HRQ := Lib.hid (HROW.out nq)
                  have HOQ := Lib.hid (show OwnI 3 (wi.drewN nq) wo.heap.size (.slice (some ⟨bo, oo, none⟩) (m + 1) kv) (castL pre) from HO9.out.below (bdrewN _ _))
                  have HBQ := Lib.hid (bstep HB2.out (bdrewN wi nq))
                  generalize wi.drewN nq = wq at *
                  go_wp2_with (at_builtin; refine wpList_append_own _ rfl _ _ 29 rfl wo.heap.size 3 i9 (.int .i64 0) 1 8 Tryz.underlying29 hi9 hy0 hy1 hy2 rfl (by decide) _ _ _ rfl HRQ.out ⟨wq.heap.size, 0, none⟩ 1 1 [.int .i64 (i : Int)] rfl rfl (cell_one_new _ _ _) (by simp [Value.oneCell']) (by unfold maxLen; omega) (by first | omega | (simp; omega)) (by first | omega | (simp; omega)) ?_; intro v1 w4 hown1 hgrow1 _; have HO3 := Lib.hid hown1; have HG := Lib.hid hgrow1; clear hown1 hgrow1)
                  refine (weightP _ _).mono ?_
                  rintro e w5 ⟨rfl, rfl⟩
                  obtain ⟨j1, j2⟩ := OwnI.pushed (x := (i : Int)) HOQ.out ⟨by omega, by omega⟩ hszq (by rw [castL_len, HNP.out]; exact HO3.out) HG.out
                  go_wp2_with (fail)
                  go_roundw
                  case rel => exact ⟨i + 1, left - 1, pre ++ [i], by omega, by simp, by congr 1; omega, HS.out, by simpa [castL] using j1, HBQ.out.trans j2⟩
                  case measure => simp [intOf]; omega
                · have HS := Lib.hid (HSK.out fun h => hgt (h.2 q hgl))
                  obtain ⟨xq, hxq⟩ : ∃ xq, nth l q = xq := ⟨_, rfl⟩
                  rw [hxq] at clq hgt
                  have d2 : decide (xq < xi) = false := by simpa using hgt
                  clear HS0 HS1 h1 hco hml hgl hnq hq hgt hxq
                  go_wp2_with (fail)
                  go_quiet (fail)
                  go_wp2_with (fail)
                  go_roundw
                  case rel => exact ⟨i + 1, left, pre, by omega, by simp, rfl, HS.out, (show OwnI 3 wi wo.heap.size (.slice (some ⟨bo, oo, none⟩) (m + 1) kv) (castL pre) from HO.out).below (bdrewN _ _), bstep HB2.out (bdrewN _ _)⟩
                  case measure => simp [intOf]; omega
            · have d1 : ((sv : Int) == (left : Int)) = false := by rw [beq_eq_false_iff_ne]; omega
              have HS := Lib.hid (HSK.out fun h => h1 h.1)
              clear h1
              go_wp2_with (fail)
              go_quiet (fail)
              go_wp2_with (fail)
              go_roundw
              case rel => exact ⟨i + 1, left, pre, by omega, by simp, rfl, HS.out, (show OwnI 3 wi wo.heap.size (.slice av np kv) (castL pre) from HO.out).below (bdrewN _ _), bstep HB2.out (bdrewN _ _)⟩
              case measure => simp [intOf]; omega
        · obtain rfl : n = i := by omega
          have HE := Lib.hid (show pre = incF l from HP.out.fin (.inl (by omega)))
          clear hb
          go_wp2_with (fail)
          go_ret2
          exact ⟨_, _, rfl, by rw [← HE.out]; exact (show OwnI 3 wi wo.heap.size (.slice av np kv) (castL pre) from HO.out).mono HB.out.size, bstep HB.out HB2.out⟩
    | succ j =>
      have e1 : (((j + 1 : Nat) : Int) - 1) = (j : Int) := by omega
      rw [e1]
      obtain ⟨bl, ol, rfl⟩ := HXL.out j (by omega)
      have c6 := hk3.cell (i := 0) rfl
      have cs := ha.cell (k := j) (by rw [sumsL_len]; omega)
      have fs := ha.free j
      have hal := aftF_le l j (by omega)
      have i1 : (j : Int) < (n : Int) := by omega
      have HW := Lib.hid (fun W => weightP (j : Int) W)
      have HAF := Lib.hid (fun q => afterP l n bl ol c (B + 1) B (B + 1 + 1) j (wo.drewN q) hl hn (by omega) (hk1.cell (i := 0) rfl) (fun i hi => cell_keep (bstep hb (bdrewN wo q)) (by
        obtain ⟨b, o, e, hc⟩ := HX.out.at (show 0 < n by omega)
        cases e
        exact hc i hi)) (hk3.cell (i := 0) rfl) (fun i h1 h2 => by
        have := HA.out.cell (k := i) (by rw [sumsL_len]; omega)
        rw [sumsL_nth (by omega), if_pos (by omega)] at this
        exact this))
      have HC := Lib.hid (fun q => show (wo.drewN q).cell? ⟨B + 1 + 1, 0, none⟩ = some (.slice (some ⟨B + 1, 0, none⟩) n n) from c6)
      clear ha hk1 hk3 hb
      go_wp2_with (fail)
      have HCS := Lib.hid (fun q v => show ((wo.drewN q).setCell ⟨B + 1, j, none⟩ v).cell? ⟨B + 1 + 1, 0, none⟩ = some (.slice (some ⟨B + 1, 0, none⟩) n n) from (World.cell?_setCell_other _ _ _ _ (by simp)).trans c6)
      go_region_held3 (fun W' => W'.cell? ⟨B + 1 + 1, 0, none⟩ = some (.slice (some ⟨B + 1, 0, none⟩) n n))
        (first | exact HC.out 1 | exact HC.out _ | exact HCS.out _ _)
        (first | (go_at_call 109; refine (HW.out _).mono ?_; rintro e W' ⟨rfl, rfl⟩) | (go_at_call 129; refine (HAF.out 1).mono ?_; rintro e W' ⟨rfl, q, rfl⟩))
      have hwr : IntKind.i64.wrap (1 + ((aftF l j : Nat) : Int)) = ((1 + aftF l j : Nat) : Int) := by
        rw [Go.IntWalk.i64_in _ (by omega)]
        omega
      rw [hwr]
      obtain ⟨WS, hWS⟩ : ∃ WS, (wo.drewN (1 + q)).setCell ⟨B + 1, j, none⟩ (.int .i64 ((1 + aftF l j : Nat) : Int)) = WS := ⟨_, rfl⟩
      rw [hWS]
      have gp := grown_put (wo.drewN (1 + q)) (B + 1) j (.int .i64 ((1 + aftF l j : Nat) : Int))
      rw [hWS] at gp
      have HAS := Lib.hid (show Arr WS (B + 1) 3 (sumsL l j) by
        have := Arr.set (W := wo.drewN (1 + q)) HA.out j ((1 + aftF l j : Nat) : Int)
        rw [sumsL_set, hWS] at this
        exact this)
      have hk1' : BlkK WS B #[.slice (some ⟨bl, ol, none⟩) n c] 29 := BlkK.keptE (w := wo.drewN (1 + q)) HK1.out gp (by simp)
      have hk3' : BlkK WS (B + 1 + 1) #[.slice (some ⟨B + 1, 0, none⟩) n n] 29 := BlkK.keptE (w := wo.drewN (1 + q)) HK3.out gp (by simp)
      have HK1' := Lib.hid hk1'
      have HK3' := Lib.hid hk3'
      have HBS := Lib.hid (show Below w.heap.size w WS from (bstep HB.out (bdrewN wo (1 + q))).grown gp (by have := HB.out.size; exact this) fun r hr => by cases hr; rw [HBB.out]; omega)
      have HTS := Lib.hid (topI_step (l := l) (i := j) (by omega))
      have htl := topI_le l (j + 1)
      have cs' := HAS.out.cell (k := j) (by rw [sumsL_len]; omega)
      rw [sumsL_nth (by omega), if_pos (Nat.le_refl _)] at cs'
      have c6' := hk3'.cell (i := 0) rfl
      clear hWS gp hk1' hk3' cs fs c6 hwr
      go_wp2_with (fail)
      go_roundw
      case rel => exact ⟨j, by omega, rfl, by rw [HTS.out]; congr 1; omega, HAS.out, HK1'.out, HK3'.out, HBS.out⟩
      case measure => simp [intOf]
end Go.Proofs.YtbahddjbncinbaaGreatDoor
