/-
  Sets of numbers: the checks of program and reference, membership, equality, union.
-/
import Derived.Test.YtjmebijckcimoaaGreatDoorVgk
import Derived.Test.YtjmebijckcimoaaGreatDoorUa
import Derived.Deep.QuietTactic
import Derived.BigQuiet
namespace Go.Ap.Vg
/-- Check's answer, from place k on. -/
def chkF (xs : List Int) : Nat → Nat → Int
  | 0, _ => 0
  | f + 1, k => if nth xs k < 0 ∨ 63 < nth xs k then 2 else if 0 < k ∧ nth xs k ≤ nth xs (k - 1) then 10 else chkF xs f (k + 1)
theorem chkF_range {xs : List Int} {f k : Nat} (h : nth xs k < 0 ∨ 63 < nth xs k) : chkF xs (f + 1) k = 2 := by rw [chkF, if_pos h]
theorem chkF_order {xs : List Int} {f k : Nat} (h : ¬ (nth xs k < 0 ∨ 63 < nth xs k)) (h' : 0 < k ∧ nth xs k ≤ nth xs (k - 1)) : chkF xs (f + 1) k = 10 := by rw [chkF, if_neg h, if_pos h']
theorem chkF_next {xs : List Int} {f k : Nat} (h : ¬ (nth xs k < 0 ∨ 63 < nth xs k)) (h' : ¬ (0 < k ∧ nth xs k ≤ nth xs (k - 1))) : chkF xs (f + 1) k = chkF xs f (k + 1) := by rw [chkF, if_neg h, if_neg h']
def prevO (xs : List Int) (k : Nat) : Option Int := if k = 0 then none else some (nth xs (k - 1))
theorem chkF_go (xs : List Int) : ∀ (f k : Nat), f + k = xs.length → chkF xs f k = setGo (prevO xs k) (xs.drop k)
  | 0, k, h => by rw [List.drop_eq_nil_of_le (by omega)]; rfl
  | f + 1, k, h => by
    have hk : k < xs.length := by omega
    rw [List.drop_eq_getElem_cons hk, ← nth_eq hk]
    unfold chkF setGo
    have e1 : (∃ q, prevO xs k = some q ∧ nth xs k ≤ q) ↔ (0 < k ∧ nth xs k ≤ nth xs (k - 1)) := by
      unfold prevO
      by_cases h0 : k = 0
      · rw [if_pos h0]
        constructor
        · rintro ⟨q, hq, _⟩; cases hq
        · intro h; omega
      · rw [if_neg h0]
        constructor
        · rintro ⟨q, hq, h2⟩; cases hq; exact ⟨by omega, h2⟩
        · rintro ⟨_, h2⟩; exact ⟨_, rfl, h2⟩
    simp only [e1]
    split
    · rfl
    · split
      · rfl
      · rw [chkF_go xs f (k + 1) (by omega)]
        congr 1
theorem chkF_all (xs : List Int) : chkF xs xs.length 0 = setGo none xs := by
  rw [chkF_go xs xs.length 0 (by omega)]
  rfl
/-- the union of two sets, and the error -/
def unionL (a b : List Int) (m : Nat) : List Int := (List.range m).flatMap fun s => if (a.contains ((s : Nat) : Int) || b.contains ((s : Nat) : Int)) = true then [((s : Nat) : Int)] else []
theorem unionL_succ (a b : List Int) (m : Nat) : unionL a b (m + 1) = unionL a b m ++ if (a.contains ((m : Nat) : Int) || b.contains ((m : Nat) : Int)) = true then [((m : Nat) : Int)] else [] := by
  unfold unionL
  rw [List.range_succ, List.flatMap_append]
  simp
theorem unionL_len (a b : List Int) : ∀ m, (unionL a b m).length ≤ m
  | 0 => by simp [unionL]
  | m + 1 => by
    rw [unionL_succ, List.length_append]
    have := unionL_len a b m
    split
    · simp; omega
    · simp; omega
theorem unionL_mem (a b : List Int) : ∀ (m : Nat) (s : Int), s ∈ unionL a b m ↔ (0 ≤ s ∧ s < m) ∧ (s ∈ a ∨ s ∈ b)
  | 0, s => by simp [unionL]; omega
  | m + 1, s => by
    rw [unionL_succ, List.mem_append, unionL_mem a b m s]
    by_cases h : (a.contains ((m : Nat) : Int) || b.contains ((m : Nat) : Int)) = true
    · rw [if_pos h, List.mem_singleton]
      simp only [Bool.or_eq_true, List.contains_iff_mem] at h
      constructor
      · rintro (⟨h1, h2⟩ | rfl)
        · exact ⟨⟨h1.1, by omega⟩, h2⟩
        · exact ⟨⟨by omega, by omega⟩, h⟩
      · rintro ⟨h1, h2⟩
        by_cases hs : s = m
        · exact .inr hs
        · exact .inl ⟨⟨h1.1, by omega⟩, h2⟩
    · rw [if_neg h]
      simp only [Bool.or_eq_true, List.contains_iff_mem] at h
      constructor
      · rintro (⟨h1, h2⟩ | h1)
        · exact ⟨⟨h1.1, by omega⟩, h2⟩
        · cases h1
      · rintro ⟨h1, h2⟩
        by_cases hs : s = m
        · subst hs; exact absurd h2 h
        · exact .inl ⟨⟨h1.1, by omega⟩, h2⟩
theorem unionL_asc (a b : List Int) : ∀ m, (unionL a b m).Pairwise (· < ·)
  | 0 => by simp [unionL]
  | m + 1 => by
    rw [unionL_succ]
    refine List.pairwise_append.2 ⟨unionL_asc a b m, ?_, fun x hx y hy => ?_⟩
    · split <;> simp
    · have := ((unionL_mem a b m x).1 hx).1.2
      split at hy
      · rw [List.mem_singleton] at hy; omega
      · cases hy
end Go.Ap.Vg
namespace Go.Proofs.YtjmebijckcimoaaGreatDoor
open Go.RowKit Go.Ap Go.Shelf Go.Proofs

set_option maxHeartbeats 400000 in
theorem setP (a : Option Addr) (n c : Nat) (xs : List Int) (w : World) (h : Ints w a n xs) :
    Calls Tryz.prog 51 #[.slice a n c] w fun e w' => e = .returned (.int .i64 (Vg.setGo none xs)) ∧ w = w' := by
  have hlen := h.len
  have hsm := h.small
  have HL := Lib.hid hlen
  have HA := Lib.hid (Vg.chkF_all xs)
  clear hlen
  go_enter Tryz.func51, Tryz.ntmps51
  go_wp2
  go_loop [7] (fun i => ∃ k : Nat, k ≤ n ∧ i = .int .i64 k ∧ Vg.chkF xs (n - k) k = Vg.setGo none xs) (fun i => n - (intOf i).toNat)
  case atStart => exact ⟨0, by omega, rfl, by rw [← HA.out, HL.out]; rfl⟩
  case round =>
    obtain ⟨k, hk, rfl, hch⟩ := hrel
    have HC := Lib.hid hch
    clear hch
    by_cases hlt : k < n
    · obtain ⟨b, off, rfl, hc⟩ := h.at (by omega)
      have hcell := hc k hlt
      have hcell' : 0 < k → w.cell? ⟨b, off + (k - 1), none⟩ = some (.int .i64 (nth xs (k - 1))) := fun _ => hc _ (by omega)
      clear hc
      obtain ⟨f, hf⟩ : ∃ f, n - k = f + 1 := ⟨n - k - 1, by omega⟩
      have HF := Lib.hid hf
      clear hf
      go_wp2
      all_goals first
        | (go_ret; exact ⟨ret_i (by rw [← HC.out, HF.out, Vg.chkF_range (by omega)]), rfl⟩)
        | (go_ret; exact ⟨ret_i (by rw [← HC.out, HF.out, Vg.chkF_order (by omega) (by omega)]), rfl⟩)
        | exact ⟨⟨k + 1, by omega, by go_num, by rw [← HC.out, HF.out, Vg.chkF_next (by omega) (by omega), show n - (k + 1) = f by have := HF.out; omega]⟩, by simp [intOf]; omega⟩
    · go_wp2
      go_ret
      exact ⟨ret_i (by rw [← HC.out, show n - k = 0 by omega, Vg.chkF]), rfl⟩

set_option maxHeartbeats 400000 in
theorem setR (a : Option Addr) (n c : Nat) (xs : List Int) (w : World) (h : Ints w a n xs) :
    Calls Tryz.prog 88 #[.slice a n c] w fun e w' => e = .returned (.int .i64 (Vg.setGo none xs)) ∧ ∃ q, w' = w.drewN q := by
  have hlen := h.len
  have hsm := h.small
  have HL := Lib.hid hlen
  have HA := Lib.hid (Vg.chkF_all xs)
  clear hlen
  go_enter Tryz.func88, Tryz.ntmps88
  go_wp2
  go_loopw [3] (fun i wr => ∃ (k q : Nat), k ≤ n ∧ i = .int .i64 k ∧ wr = w.drewN q ∧ Vg.chkF xs (n - k) k = Vg.setGo none xs) (fun i _ => n - (intOf i).toNat)
  case atStart => exact ⟨0, 0, by omega, rfl, rfl, by rw [← HA.out, HL.out]; rfl⟩
  case round =>
    obtain ⟨k, q, hk, rfl, rfl, hch⟩ := hrel
    have HC := Lib.hid hch
    clear hch
    by_cases hlt : k < n
    · obtain ⟨b, off, rfl, hc⟩ := h.at (by omega)
      have hcell := hc k hlt
      have hcell' : 0 < k → w.cell? ⟨b, off + (k - 1), none⟩ = some (.int .i64 (nth xs (k - 1))) := fun _ => hc _ (by omega)
      clear hc
      obtain ⟨f, hf⟩ : ∃ f, n - k = f + 1 := ⟨n - k - 1, by omega⟩
      have HF := Lib.hid hf
      clear hf
      by_cases h0 : 0 < k
      · have g1 : decide (0 < k) = true := by simpa using h0
        have hcell2 := hcell' h0
        go_wp2
        all_goals try (go_quiet (fail); go_wp2)
        all_goals first
        | (go_ret; exact ⟨ret_i (by rw [← HC.out, HF.out, Vg.chkF_range (by omega)]), q, rfl⟩)
        | (go_ret; exact ⟨ret_i (by rw [← HC.out, HF.out, Vg.chkF_order (by omega) (by omega)]), drewN_ex _ _ _⟩)
        | exact ⟨⟨k + 1, _, by omega, by go_num, rfl, by rw [← HC.out, HF.out, Vg.chkF_next (by omega) (by omega), show n - (k + 1) = f by have := HF.out; omega]⟩, by simp [intOf]; omega⟩
      · have g1 : decide (0 < k) = false := by simpa using h0
        go_wp2
        all_goals try (go_quiet (fail); go_wp2)
        all_goals first
        | (go_ret; exact ⟨ret_i (by rw [← HC.out, HF.out, Vg.chkF_range (by omega)]), q, rfl⟩)
        | (go_ret; exact ⟨ret_i (by rw [← HC.out, HF.out, Vg.chkF_order (by omega) (by omega)]), drewN_ex _ _ _⟩)
        | exact ⟨⟨k + 1, _, by omega, by go_num, rfl, by rw [← HC.out, HF.out, Vg.chkF_next (by omega) (by omega), show n - (k + 1) = f by have := HF.out; omega]⟩, by simp [intOf]; omega⟩
    · go_wp2
      go_ret
      exact ⟨ret_i (by rw [← HC.out, show n - k = 0 by omega, Vg.chkF]), _, rfl⟩
theorem drop_nth {xs : List Int} {k : Nat} (h : k < xs.length) : xs.drop k = nth xs k :: xs.drop (k + 1) := by
  rw [nth_eq h]; exact List.drop_eq_getElem_cons h
/-- membership, under a name that the walk leaves alone -/
def hasI (xs : List Int) (x : Int) : Bool := xs.contains x

set_option maxHeartbeats 400000 in
theorem hasS24 (a : Option Addr) (n c : Nat) (xs : List Int) (x : Int) (w : World) (h : Ints w a n xs) :
    Calls Tryz.prog 49 #[.slice a n c, .int .i64 x] w fun e w' => e = .returned (.bool (hasI xs x)) ∧ w = w' := by
  have HL := Lib.hid h.len
  have hsm := h.small
  go_enter Tryz.func49, Tryz.ntmps49
  go_wp2
  go_loop [5] (fun i => ∃ k : Nat, k ≤ n ∧ i = .int .i64 k ∧ hasI (xs.drop k) x = hasI xs x) (fun i => n - (intOf i).toNat)
  case atStart => exact ⟨0, by omega, rfl, rfl⟩
  case round =>
    obtain ⟨k, hk, rfl, hch⟩ := hrel
    have HC := Lib.hid hch
    clear hch
    by_cases hlt : k < n
    · obtain ⟨b, off, rfl, hc⟩ := Ints.at h (by omega)
      have hcell := hc k hlt
      clear hc
      have hd := drop_nth (xs := xs) (k := k) (by rw [HL.out]; exact hlt)
      have HD := Lib.hid hd
      clear hd
      by_cases hx : nth xs k = x
      · have hb : (nth xs k == x) = true := by simpa using hx
        have HX := Lib.hid hx
        clear hx
        go_wp2
        go_ret
        exact ⟨ret_b (by rw [← HC.out, HD.out, HX.out, hasI]; simp), rfl⟩
      · have hb : (nth xs k == x) = false := by simpa using hx
        have HX := Lib.hid hx
        clear hx
        go_wp2
        exact ⟨⟨k + 1, by omega, by go_num, by
          rw [← HC.out, HD.out, hasI, hasI, List.contains_cons]
          rw [show (x == nth xs k) = false by rw [beq_eq_false_iff_ne]; exact fun h => HX.out h.symm, Bool.false_or]⟩, by simp [intOf]; omega⟩
    · go_wp2
      go_ret
      exact ⟨ret_b (by rw [← HC.out, List.drop_eq_nil_of_le (by rw [HL.out]; omega)]; rfl), rfl⟩
theorem infoI4 : (Tryz.prog.info? 3).map (fun i => (i.zero, i.size, i.bytes)) = some (some (.int .i64 0), 1, 8) := by kernel_rfl
theorem bad4 (a b : Option Addr) (n m c d : Nat) (xs ys : List Int) (w : World) (hx : Ints w a n xs) (hy : Ints w b m ys) (h1 : Vg.setGo none xs = 0) (h2 : Vg.setGo none ys = 0) :
    Calls Tryz.prog 89 #[.slice a n c, .slice b m d] w fun e w' => e = .returned (.bool false) ∧ ∃ q, w' = w.drewN q := by
  have H1 := Lib.hid (setR a n c xs w hx)
  have H2 := Lib.hid (fun q => setR b m d ys (w.drewN q) hy.drewN)
  rw [h1] at H1
  rw [h2] at H2
  clear h1 h2
  go_enter Tryz.func89, Tryz.ntmps89
  go_wp2_with (fail)
  refine (H1.out).mono ?_
  rintro e w' ⟨rfl, q, rfl⟩
  go_wp2_with (fail)
  refine (H2.out q).mono ?_
  rintro e w' ⟨rfl, r, rfl⟩
  go_wp2_with (fail)
  go_ret
  exact ⟨rfl, _, rfl⟩
set_option maxRecDepth 100000 in
set_option maxHeartbeats 1000000 in
theorem unionR (a b : Option Addr) (n m c d : Nat) (xs ys : List Int) (w : World) (hx : Ints w a n xs) (hy : Ints w b m ys) (h1 : Vg.setGo none xs = 0) (h2 : Vg.setGo none ys = 0) :
    Calls Tryz.prog 59 #[.slice a n c, .slice b m d] w fun e w' => ∃ v, e = .returned (.tuple #[v, .int .i64 0]) ∧ OwnI 3 w' w.heap.size v (Vg.unionL xs ys 64) ∧ Below w.heap.size w w' := by
  obtain ⟨i0, hi, hz0, hz1, hz2⟩ := info_parts infoI4
  have H52 := Lib.hid (bad4 a b n m c d xs ys w hx hy h1 h2)
  have HX := Lib.hid hx
  have HY := Lib.hid hy
  clear hx hy h1 h2
  go_enter Tryz.func59, Tryz.ntmps59
  go_wp2_with (fail)
  refine (H52.out).mono ?_
  rintro e w' ⟨rfl, q, rfl⟩
  go_wp2_with (fail)
  go_loopw [6, 7] (fun v i wr => ∃ k : Nat, k ≤ 64 ∧ i = .int .i64 k ∧ OwnI 3 wr w.heap.size v (Vg.unionL xs ys k) ∧ Below w.heap.size w wr) (fun _ i _ => 64 - (intOf i).toNat)
  case atStart => exact ⟨0, by omega, rfl, OwnI.empty (w.drewN q) (Nat.le_refl _), bstep (bdrewN w q) (balloc _ _)⟩
  case round =>
    obtain ⟨k, hk, rfl, ho, hb⟩ := hrel
    have HO := Lib.hid ho
    have HB := Lib.hid hb
    have hsz := hb.size
    have HX1 := Lib.hid (HX.out.mono (Nat.le_refl _) hb)
    have HY1 := Lib.hid (HY.out.mono (Nat.le_refl _) hb)
    have hml := Vg.unionL_len xs ys k
    have HS := Lib.hid (Vg.unionL_succ xs ys k)
    clear ho hb
    by_cases hlt : k < 64
    · have H1 := Lib.hid (hasS24 a n c xs k wr HX1.out)
      have H2 := Lib.hid (hasS24 b m d ys k wr HY1.out)
      have HI := Lib.hid (show I64 (k : Int) by unfold I64; omega)
      cases h1 : hasI xs k
      · rw [h1] at H1
        cases h2 : hasI ys k
        · rw [h2] at H2
          have HP := Lib.hid (show Vg.unionL xs ys (k + 1) = Vg.unionL xs ys k by rw [HS.out, show xs.contains (k : Int) = false from h1, show ys.contains (k : Int) = false from h2]; simp)
          clear h1 h2
          go_wp2_with (fail)
          refine (H1.out).mono ?_
          rintro e w' ⟨rfl, rfl⟩
          go_wp2_with (fail)
          refine (H2.out).mono ?_
          rintro e w' ⟨rfl, rfl⟩
          go_wp2_with (fail)
          exact ⟨⟨k + 1, by omega, by go_num, by rw [HP.out]; exact HO.out, HB.out⟩, by simp [intOf]; omega⟩
        · rw [h2] at H2
          have HP := Lib.hid (show Vg.unionL xs ys (k + 1) = Vg.unionL xs ys k ++ [(k : Int)] by rw [HS.out, show ys.contains (k : Int) = true from h2]; simp)
          clear h1 h2
          go_wp2_with (fail)
          refine (H1.out).mono ?_
          rintro e w' ⟨rfl, rfl⟩
          go_wp2_with (fail)
          refine (H2.out).mono ?_
          rintro e w' ⟨rfl, rfl⟩
          go_wp2_with (at_builtin; refine wpList_append_own _ rfl _ _ 44 rfl w.heap.size 3 i0 (.int .i64 0) 1 8 Tryz.underlying44 hi hz0 hz1 hz2 rfl (by decide) _ _ _ rfl (HO.out.1.alloc _) ⟨wr.heap.size, 0, none⟩ 1 1 [.int .i64 k] rfl rfl (cell_one_new _ _ _) (by simp [Value.oneCell']) (by unfold maxLen; omega) (by omega) (by simp; omega) ?_; intro v1 w1 hown1 hgrow1 _; have HO2 := Lib.hid hown1; have HG := Lib.hid hgrow1; clear hown1 hgrow1)
          obtain ⟨j1, j2⟩ := OwnI.pushed HO.out HI.out hsz HO2.out HG.out
          exact ⟨⟨k + 1, by omega, by go_num, by rw [HP.out]; exact j1, HB.out.trans j2⟩, by simp [intOf]; omega⟩
      · rw [h1] at H1
        have HP := Lib.hid (show Vg.unionL xs ys (k + 1) = Vg.unionL xs ys k ++ [(k : Int)] by rw [HS.out, show xs.contains (k : Int) = true from h1]; simp)
        clear h1 H2
        go_wp2_with (fail)
        refine (H1.out).mono ?_
        rintro e w' ⟨rfl, rfl⟩
        go_wp2_with (at_builtin; refine wpList_append_own _ rfl _ _ 44 rfl w.heap.size 3 i0 (.int .i64 0) 1 8 Tryz.underlying44 hi hz0 hz1 hz2 rfl (by decide) _ _ _ rfl (HO.out.1.alloc _) ⟨wr.heap.size, 0, none⟩ 1 1 [.int .i64 k] rfl rfl (cell_one_new _ _ _) (by simp [Value.oneCell']) (by unfold maxLen; omega) (by omega) (by simp; omega) ?_; intro v1 w1 hown1 hgrow1 _; have HO2 := Lib.hid hown1; have HG := Lib.hid hgrow1; clear hown1 hgrow1)
        obtain ⟨j1, j2⟩ := OwnI.pushed HO.out HI.out hsz HO2.out HG.out
        exact ⟨⟨k + 1, by omega, by go_num, by rw [HP.out]; exact j1, HB.out.trans j2⟩, by simp [intOf]; omega⟩
    · obtain rfl : k = 64 := by omega
      go_wp2_with (fail)
      go_ret2
      exact ⟨_, rfl, HO.out, HB.out⟩
end Go.Proofs.YtjmebijckcimoaaGreatDoor
