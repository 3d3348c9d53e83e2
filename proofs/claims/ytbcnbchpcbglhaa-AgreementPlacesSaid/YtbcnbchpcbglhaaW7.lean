/-
  Matrix, Compared, Distances, of the program and of the reference.
-/
import Derived.Test.YtbcnbchpcbglhaaW6
namespace Go.Proofs.Ytbcnbchpcbglhaa
open Go.RowKit Go.Ap Go.Shelf

theorem i64_nat {n : Nat} (h : n ≤ 1000000) : I64 (n : Int) := ⟨by omega, by omega⟩
def agrF (S : List (List Int)) (m i j : Nat) : Int := (agr (row S i) (row S j) m : Nat)
def cmpF (S : List (List Int)) (m i j : Nat) : Int := (cmpd (row S i) (row S j) m : Nat)
def dstF (S : List (List Int)) (m i j : Nat) : Int := dist (row S i) (row S j) m
def rdsF (S : List (List Int)) (m i j : Nat) : Int := distR S m i j
theorem agrF_fits {S : List (List Int)} {m : Nat} (h : m ≤ 4096) (i j : Nat) : I64 (agrF S m i j) :=
  i64_nat (by have := agr_le (row S i) (row S j) m; have := cmpd_le (row S i) (row S j) m; omega)
theorem cmpF_fits {S : List (List Int)} {m : Nat} (h : m ≤ 4096) (i j : Nat) : I64 (cmpF S m i j) :=
  i64_nat (by have := cmpd_le (row S i) (row S j) m; omega)
theorem dstF_fits (S : List (List Int)) (m i j : Nat) : I64 (dstF S m i j) := by
  have := dist_bound (row S i) (row S j) m
  exact ⟨by unfold dstF; omega, by unfold dstF; omega⟩
theorem rdsF_bound (S : List (List Int)) (m i j : Nat) : 0 ≤ rdsF S m i j ∧ rdsF S m i j ≤ 1000 := by
  have := dist_bound (row S i) (row S j) m
  unfold rdsF distR
  split <;> omega
theorem rdsF_fits (S : List (List Int)) (m i j : Nat) : I64 (rdsF S m i j) := by
  have := rdsF_bound S m i j
  exact ⟨by omega, by omega⟩

theorem fn52 {S : List (List Int)} {m : Nat} (h : m ≤ 4096) : FnS S m 52 (agrF S m) :=
  ⟨enters_of Try.func52 (by kernel_rfl) rfl, agrF_fits h, fun i j a b c d W _ _ hi hj => callsIn_wide.1 (agreeing52 a b m m c d (row S i) (row S j) W (Nat.le_refl _) hi hj)⟩
theorem fn55 {S : List (List Int)} {m : Nat} (h : m ≤ 4096) : FnS S m 55 (cmpF S m) :=
  ⟨enters_of Try.func55 (by kernel_rfl) rfl, cmpF_fits h, fun i j a b c d W _ _ hi hj => callsIn_wide.1 (compared55 a b m m c d (row S i) (row S j) W (Nat.le_refl _) hi hj)⟩
theorem fn49 {S : List (List Int)} {m : Nat} (h : m ≤ 4096) : FnS S m 49 (dstF S m) :=
  ⟨enters_of Try.func49 (by kernel_rfl) rfl, dstF_fits S m, fun i j a b c d W _ _ hi hj => distance49 a b m m c d (row S i) (row S j) W (Nat.le_refl _) h hi hj⟩

theorem table51_no (a : Option Addr) (n c g : Nat) (S : List (List Int)) (w : World) (h : Rows2 w a n S) (hch : chkS S ≠ 0) :
    Calls Try.prog 51 #[.slice a n c, .func (.func g) #[] #[]] w (GivesRR w [] 1) := by
  have H32 := Lib.hid (check32 a n c S w h)
  have d1 : (chkS S != 0) = true := by simpa using hch
  clear hch h
  go_enter Try.func51, Try.ntmps51
  go_wp2_with (fail)
  refine (H32.out).mono ?_
  rintro e w' ⟨rfl, q, rfl⟩
  go_wp2_with (fail)
  go_ret2
  exact ⟨_, rfl, OwnRR.nil _ _ _ _, bdrewN _ _⟩

/-- a table of what is right, and the number of the error -/
def tabR (f : Nat → Nat → Int) (S : List (List Int)) : List (List Int) := if chkS S = 0 then tabF f S.length S.length else []
def errR (S : List (List Int)) : Int := if chkS S = 0 then 0 else 1

theorem table51 (a : Option Addr) (n c m g : Nat) (S : List (List Int)) (f : Nat → Nat → Int) (w : World) (h : Rows2 w a n S) (hm : m = (row S 0).length) (F : OkS S m → FnS S m g f) :
    Calls Try.prog 51 #[.slice a n c, .func (.func g) #[] #[]] w (GivesRR w (tabR f S) (errR S)) := by
  by_cases hch : chkS S = 0
  · have ok := chkS_ok hch
    rw [← hm] at ok
    rw [tabR, errR, if_pos hch, if_pos hch, h.len]
    exact table51_ok a n c m g S f w h hch ok (F ok)
  · rw [tabR, errR, if_neg hch, if_neg hch]
    exact table51_no a n c g S w h hch

/-- the same, as the walks use it -/
def GivesR2 (w : World) (res : List (List Int)) (err : Int) (e : Ending) (w' : World) : Prop :=
  ∃ a n c, e = .returned (.tuple #[.slice a n c, .int .i64 err]) ∧ Rows2 w' a n res ∧ Below w.heap.size w w'
theorem GivesRR.r2 {w w' : World} {res : List (List Int)} {err : Int} {e : Ending} (h : GivesRR w res err e w') (hn : res.length ≤ 1000000) (hm : ∀ r ∈ res, r.length ≤ 1000000) : GivesR2 w res err e w' := by
  obtain ⟨v, rfl, ho, hb⟩ := h
  obtain ⟨a, c, rfl, hr⟩ := ho.rows (by omega) (fun r hr => by have := hm r hr; omega)
  exact ⟨a, _, c, rfl, hr, hb⟩
theorem tabR_len (f : Nat → Nat → Int) (S : List (List Int)) : (tabR f S).length ≤ 1000000 ∧ ∀ r ∈ tabR f S, r.length ≤ 1000000 := by
  unfold tabR
  split
  · rename_i h
    have := (chkS_ok h).le
    refine ⟨by rw [tabF_len]; omega, fun r hr => ?_⟩
    obtain ⟨i, _, rfl⟩ := List.mem_map.1 hr
    rw [lineF_len]
    omega
  · exact ⟨by simp, fun r hr => by cases hr⟩

theorem matrix23 (a : Option Addr) (n c m : Nat) (S : List (List Int)) (w : World) (h : Rows2 w a n S) (hm : m = (row S 0).length) :
    Calls Try.prog 23 #[.slice a n c] w (GivesR2 w (tabR (agrF S m) S) (errR S)) := by
  have H := Lib.hid (table51 a n c m 52 S (agrF S m) w h hm (fun ok => fn52 ok.wid))
  go_enter Try.func23, Try.ntmps23
  go_wp2_with (fail)
  refine (H.out).mono ?_
  rintro e w' hg
  obtain ⟨a', n', c', rfl, hr, hb⟩ := hg.r2 (tabR_len _ _).1 (tabR_len _ _).2
  go_wp2_with (fail)
  go_ret2
  exact ⟨a', n', c', rfl, hr, hb⟩
theorem compared29 (a : Option Addr) (n c m : Nat) (S : List (List Int)) (w : World) (h : Rows2 w a n S) (hm : m = (row S 0).length) :
    Calls Try.prog 29 #[.slice a n c] w (GivesR2 w (tabR (cmpF S m) S) (errR S)) := by
  have H := Lib.hid (table51 a n c m 55 S (cmpF S m) w h hm (fun ok => fn55 ok.wid))
  go_enter Try.func29, Try.ntmps29
  go_wp2_with (fail)
  refine (H.out).mono ?_
  rintro e w' hg
  obtain ⟨a', n', c', rfl, hr, hb⟩ := hg.r2 (tabR_len _ _).1 (tabR_len _ _).2
  go_wp2_with (fail)
  go_ret2
  exact ⟨a', n', c', rfl, hr, hb⟩

/-- the table with its diagonal struck, as far as row k -/
def zerF (f : Nat → Nat → Int) (k : Nat) (i j : Nat) : Int := if i = j ∧ i < k then 0 else f i j
theorem row_set {S : List (List Int)} {k j : Nat} {r : List Int} (hk : k < S.length) : row (S.set k r) j = if j = k then r else row S j := by
  unfold row
  rw [List.getD_eq_getElem?_getD, List.getD_eq_getElem?_getD, List.getElem?_set]
  by_cases h : k = j
  · subst h; simp [hk]
  · rw [if_neg h, if_neg (Ne.symm h)]
theorem zerF_set (f : Nat → Nat → Int) {n k : Nat} (hk : k < n) : (tabF (zerF f k) n n).set k ((row (tabF (zerF f k) n n) k).set k 0) = tabF (zerF f (k + 1)) n n := by
  rw [row_tabF hk]
  apply List.ext_getElem
  · simp [tabF]
  · intro i h1 h2
    have hi : i < n := by simpa [tabF] using h2
    rw [List.getElem_set]
    by_cases he : k = i
    · subst he
      rw [if_pos rfl]
      simp only [tabF, List.getElem_map, List.getElem_range]
      apply List.ext_getElem
      · simp [lineF]
      · intro j h3 h4
        simp only [lineF, List.getElem_set, List.getElem_map, List.getElem_range]
        unfold zerF
        by_cases hj : k = j
        · subst hj; simp
        · rw [if_neg hj, if_neg (by omega), if_neg (by omega)]
    · rw [if_neg he]
      simp only [tabF, List.getElem_map, List.getElem_range]
      unfold lineF
      apply List.map_congr_left
      intro j _
      unfold zerF
      by_cases hj : i = j
      · subst hj
        by_cases hlt : i < k
        · rw [if_pos ⟨rfl, hlt⟩, if_pos ⟨rfl, by omega⟩]
        · rw [if_neg (by omega), if_neg (by omega)]
      · rw [if_neg (by omega), if_neg (by omega)]
theorem tabF_congr {f g : Nat → Nat → Int} {n k : Nat} (h : ∀ i j, i < k → j < n → f i j = g i j) : tabF f n k = tabF g n k := by
  unfold tabF lineF
  apply List.map_congr_left
  intro i hi
  apply List.map_congr_left
  intro j hj
  exact h i j (List.mem_range.1 hi) (List.mem_range.1 hj)
theorem zerF_end (S : List (List Int)) (m n : Nat) : tabF (zerF (dstF S m) n) n n = tabF (rdsF S m) n n := by
  apply tabF_congr
  intro i j hi _
  unfold zerF rdsF distR dstF
  by_cases h : i = j
  · rw [if_pos ⟨h, hi⟩, if_pos h]
  · rw [if_neg (by omega), if_neg h]

set_option maxHeartbeats 1000000 in
theorem distances24 (a : Option Addr) (n c m : Nat) (S : List (List Int)) (w : World) (h : Rows2 w a n S) (hm : m = (row S 0).length) :
    Calls Try.prog 24 #[.slice a n c] w (GivesR2 w (tabR (rdsF S m) S) (errR S)) := by
  have H := table51 a n c m 49 S (dstF S m) w h hm (fun ok => fn49 ok.wid)
  have HLS := Lib.hid h.len
  by_cases hch : chkS S = 0
  · have hn32 : n ≤ 32 := by rw [← h.len]; exact (chkS_ok hch).le
    have hpos : 0 < n := by rw [← h.len]; exact (chkS_ok hch).pos
    have e1 : tabR (rdsF S m) S = tabF (rdsF S m) n n := by rw [tabR, if_pos hch, HLS.out]
    have e2 : errR S = 0 := by rw [errR, if_pos hch]
    have e3 : tabR (dstF S m) S = tabF (dstF S m) n n := by rw [tabR, if_pos hch, HLS.out]
    rw [e1, e2]
    rw [e2, e3] at H
    have H := Lib.hid H
    clear e1 e2 e3 hch h
    go_enter Try.func24, Try.ntmps24
    go_wp2_with (fail)
    refine (H.out).mono ?_
    rintro e w1 ⟨v, rfl, ho, hb⟩
    have had := ho.addr (by rw [tabF_len]; omega)
    rw [tabF_len] at had
    obtain ⟨g, cg, rfl⟩ := had
    have HO := Lib.hid ho
    have HB := Lib.hid hb
    clear ho hb
    go_wp2_with (fail)
    go_loopw [14] (fun i wr => ∃ k : Nat, k ≤ n ∧ i = .int .i64 k ∧ OwnRR 3 23 wr w.heap.size (.slice (some ⟨g, 0, none⟩) n cg) (tabF (zerF (dstF S m) k) n n) ∧ Below w.heap.size w wr) (fun i _ => n - (intOf i).toNat)
    case atStart => exact ⟨0, by omega, rfl, by rw [show zerF (dstF S m) 0 = dstF S m from funext fun i => funext fun j => by simp [zerF]]; exact HO.out, HB.out⟩
    case round =>
      obtain ⟨k, hk, rfl, ho, hb⟩ := hrel
      have HO1 := Lib.hid ho
      have HB1 := Lib.hid hb
      clear ho hb
      by_cases hlt : k < n
      · obtain ⟨b, c', f1, f2, f3, f4, f5⟩ := HO1.out.setAt (by decide) (k := k) (by rw [tabF_len]; exact hlt) (j := k) (by rw [row_tabF hlt, lineF_len]; exact hlt) 0 ⟨by omega, by omega⟩
        rw [zerF_set _ hlt] at f5
        rw [row_tabF hlt, lineF_len] at f1
        rw [row_tabF hlt] at f2
        have HS := Lib.hid f5
        have f4' := Lib.hid f4
        clear f5 f4
        go_wp2_with (fail)
        exact ⟨⟨k + 1, by omega, by go_num, HS.out, HB1.out.setCell (p := ⟨b, k, none⟩) f4'.out _⟩, by simp [intOf]; omega⟩
      · obtain rfl : n = k := by omega
        have ho := HO1.out
        rw [zerF_end] at ho
        obtain ⟨a', c', hv, hr⟩ := ho.rows (by rw [tabF_len]; omega) (fun r hr => by obtain ⟨i, _, rfl⟩ := List.mem_map.1 hr; rw [lineF_len]; omega)
        rw [tabF_len] at hv hr
        cases hv
        have HR := Lib.hid hr
        clear hr ho
        go_wp2_with (fail)
        go_ret2
        exact ⟨_, _, _, rfl, HR.out, HB1.out⟩
  · have e1 : tabR (rdsF S m) S = [] := by rw [tabR, if_neg hch]
    have e2 : errR S = 1 := by rw [errR, if_neg hch]
    have e3 : tabR (dstF S m) S = [] := by rw [tabR, if_neg hch]
    rw [e1, e2]
    rw [e2, e3] at H
    have H := Lib.hid H
    clear e1 e2 e3 hch h
    go_enter Try.func24, Try.ntmps24
    go_wp2_with (fail)
    refine (H.out).mono ?_
    rintro e w1 hg
    obtain ⟨a', n', c', rfl, hr, hb⟩ := hg.r2 (by simp) (by simp)
    obtain rfl : n' = 0 := hr.len.symm
    have HR := Lib.hid hr
    clear hr
    go_wp2_with (fail)
    go_loop [14] (fun i => i = .int .i64 0) (fun _ => 0)
    case atStart => rfl
    case round =>
      subst hrel
      go_wp2_with (fail)
      go_ret2
      exact ⟨_, _, _, rfl, HR.out, hb⟩

theorem refmat28_no (a : Option Addr) (n c : Nat) (S : List (List Int)) (w : World) (h : Rows2 w a n S) (hch : chkS S ≠ 0) :
    Calls Try.prog 28 #[.slice a n c] w (GivesR2 w [] 1) := by
  have H33 := Lib.hid (check33 a n c S w h)
  have d1 : (chkS S != 0) = true := by simpa using hch
  clear hch h
  go_enter Try.func28, Try.ntmps28
  go_wp2_with (fail)
  refine (H33.out).mono ?_
  rintro e w' ⟨rfl, q, rfl⟩
  go_wp2_with (fail)
  go_ret2
  exact ⟨_, _, _, rfl, Sl.nil _ _, bdrewN _ _⟩

set_option maxRecDepth 100000 in
set_option maxHeartbeats 2000000 in
theorem refmat28_ok (a : Option Addr) (n c m : Nat) (S : List (List Int)) (w : World) (h : Rows2 w a n S) (hch : chkS S = 0) (ok : OkS S m) :
    Calls Try.prog 28 #[.slice a n c] w (GivesRR w (tabF (agrF S m) n n) 0) := by
  obtain ⟨i0, hi, hz0, hz1, hz2⟩ := info_parts info3
  obtain ⟨r0, ri, rz0, rz1, rz2⟩ := info_parts info23
  have HL := Lib.hid h.len
  have hsm := h.small
  have HH := Lib.hid h
  have OK := Lib.hid ok
  have H33 := check33 a n c S w h
  rw [hch] at H33
  have H33 := Lib.hid H33
  have hn32 : n ≤ 32 := by rw [← h.len]; exact ok.le
  have hpos : 0 < n := by rw [← h.len]; exact ok.pos
  have hw := ok.wid
  clear h hch ok
  go_enter Try.func28, Try.ntmps28
  go_wp2_with (fail)
  refine (H33.out).mono ?_
  rintro e w' ⟨rfl, q, rfl⟩
  go_wp2_with (fail)
  go_loopw [4, 5] (fun v i wr => ∃ k : Nat, k ≤ n ∧ i = .int .i64 k ∧ OwnRR 3 23 wr w.heap.size v (tabF (agrF S m) n k) ∧ Below w.heap.size w wr) (fun _ i _ => n - (intOf i).toNat)
  case atStart => exact ⟨0, by omega, rfl, OwnRR.empty 3 23 (w.drewN q) (Nat.le_refl _), bstep (bdrewN w q) (balloc _ _)⟩
  case round =>
    obtain ⟨k, hk, rfl, ho, hb⟩ := hrel
    have HO := Lib.hid ho
    have HB := Lib.hid hb
    have hsz := hb.size
    clear ho hb
    by_cases hlt : k < n
    · go_wp2_with (fail)
      obtain ⟨wo, rfl⟩ : ∃ wo, wo = wr := ⟨_, rfl⟩
      go_loopw [6, 7] (fun v i wi => ∃ j : Nat, j ≤ n ∧ i = .int .i64 j ∧ OwnI 3 wi wo.heap.size v (lineF (agrF S m) k j) ∧ Below wo.heap.size wo wi) (fun _ i _ => n - (intOf i).toNat)
      case atStart => exact ⟨0, by omega, rfl, OwnI.empty 3 wo (Nat.le_refl _), balloc _ _⟩
      case round =>
        obtain ⟨j, hj, rfl, hoi, hbi⟩ := hrel
        have HOI := Lib.hid hoi
        have HBI := Lib.hid hbi
        have hszi := hbi.size
        clear hoi hbi
        by_cases hjl : j < n
        · have hrows := Rows2.mono HH.out (Nat.le_refl _) (HB.out.trans (HBI.out.mono hsz))
          obtain ⟨b1, o1, rfl, hc1⟩ := Rows2.all hrows (by omega)
          obtain ⟨a1, n1, c1, hcell1, hI1⟩ := hc1 k hlt
          obtain ⟨a2, n2, c2, hcell2, hI2⟩ := hc1 j hjl
          obtain rfl : m = n1 := by rw [← hI1.len]; exact (OK.out.row_len (by rw [HL.out]; exact hlt)).symm
          obtain rfl : m = n2 := by rw [← hI2.len]; exact (OK.out.row_len (by rw [HL.out]; exact hjl)).symm
          have H54 := Lib.hid (fun q => counts54 a1 a2 m m c1 c2 (row S k) (row S j) (wr.drewN q) (Nat.le_refl _) hI1.drewN hI2.drewN)
          clear hrows hc1 hI1 hI2
          obtain ⟨z, hz⟩ : ∃ z, agrF S m k j = z := ⟨_, rfl⟩
          have HZ := Lib.hid hz
          rw [agrF] at hz
          generalize agr (row S k) (row S j) m = g1 at *
          generalize cmpd (row S k) (row S j) m = g2 at *
          subst hz
          have HFT := Lib.hid (show I64 (g1 : Int) by rw [← HZ.out]; exact agrF_fits hw k j)
          go_wp2_with (fail)
          go_quiet ((go_at_call 54; exact Calls.quiet_of (H54.out _)))
          obtain ⟨w3, hw3⟩ : ∃ w3, wr.drewN nq = w3 := ⟨_, rfl⟩
          have hb3 : Below wr.heap.size wr w3 := by rw [← hw3]; exact bdrewN _ _
          rw [hw3]
          clear hw3
          have HOI3 := Lib.hid (HOI.out.below hb3)
          have HB3 := Lib.hid (HBI.out.trans (hb3.mono hszi))
          have hsz3 := HB3.out.size
          have hln := lineF_len (f := agrF S m) (i := k) (k := j)
          clear hb3
          go_wp2_with (at_builtin; refine wpList_append_own _ rfl _ _ 23 rfl wo.heap.size 3 i0 (.int .i64 0) 1 8 Try.underlying23 hi hz0 hz1 hz2 rfl (by decide) _ _ _ rfl (HOI3.out.1.alloc _) ⟨w3.heap.size, 0, none⟩ 1 1 [.int .i64 (g1 : Nat)] rfl rfl (cell_one_new _ _ _) (by simp [Value.oneCell']) (by unfold maxLen; omega) (by omega) (by simp; omega) ?_; intro v1 w4 hown1 hgrow1 _; have HO2 := Lib.hid hown1; have HG := Lib.hid hgrow1; clear hown1 hgrow1)
          have hp := HOI3.out.pushed HFT.out hsz3 HO2.out HG.out
          exact ⟨⟨j + 1, by omega, by go_num, by rw [lineF_succ, HZ.out]; exact hp.1, HB3.out.trans hp.2⟩, by simp [intOf]; omega⟩
        · obtain rfl : n = j := by omega
          have had := HOI.out.addr (by rw [lineF_len]; omega)
          rw [lineF_len] at had
          obtain ⟨b5, c5, rfl⟩ := had
          obtain ⟨vs, hv, hnext⟩ := HO.out.ready (by decide) hsz HBI.out HOI.out
          have HV := Lib.hid hv
          have HN := Lib.hid hnext
          have hln := tabF_len (f := agrF S m) (n := n) (k := k)
          clear hv hnext
          go_wp2_with (at_builtin; refine wpList_append_own _ rfl _ _ 22 rfl w.heap.size 23 r0 (.slice none 0 0) 1 24 Try.underlying22 ri rz0 rz1 rz2 rfl (by decide) _ _ _ rfl (HV.out.alloc _) ⟨wr.heap.size, 0, none⟩ 1 1 [.slice (some ⟨b5, 0, none⟩) n c5] rfl rfl (cell_one_new _ _ _) (by simp [Value.oneCell']) (by unfold maxLen; omega) (by omega) (by simp; omega) ?_; intro v1 w4 hown1 hgrow1 _; have HO2 := Lib.hid hown1; have HG := Lib.hid hgrow1; clear hown1 hgrow1)
          have hp := HN.out _ _ _ HO2.out HG.out
          exact ⟨⟨k + 1, by omega, by go_num, by rw [tabF_succ]; exact hp.1, (HB.out.trans (HBI.out.mono hsz)).trans hp.2⟩, by simp [intOf]; omega⟩
    · obtain rfl : n = k := by omega
      go_wp2_with (fail)
      go_ret2
      exact ⟨_, rfl, HO.out, HB.out⟩

theorem refmat28 (a : Option Addr) (n c m : Nat) (S : List (List Int)) (w : World) (h : Rows2 w a n S) (hm : m = (row S 0).length) :
    Calls Try.prog 28 #[.slice a n c] w (GivesR2 w (tabR (agrF S m) S) (errR S)) := by
  by_cases hch : chkS S = 0
  · have ok := chkS_ok hch
    rw [← hm] at ok
    have e1 : tabR (agrF S m) S = tabF (agrF S m) n n := by rw [tabR, if_pos hch, h.len]
    have hl := tabR_len (agrF S m) S
    rw [e1] at hl
    rw [e1, errR, if_pos hch]
    exact (refmat28_ok a n c m S w h hch ok).mono fun e w' hg => hg.r2 hl.1 hl.2
  · rw [tabR, errR, if_neg hch, if_neg hch]
    exact refmat28_no a n c S w h hch

theorem refcmp30_no (a : Option Addr) (n c : Nat) (S : List (List Int)) (w : World) (h : Rows2 w a n S) (hch : chkS S ≠ 0) :
    Calls Try.prog 30 #[.slice a n c] w (GivesR2 w [] 1) := by
  have H33 := Lib.hid (check33 a n c S w h)
  have d1 : (chkS S != 0) = true := by simpa using hch
  clear hch h
  go_enter Try.func30, Try.ntmps30
  go_wp2_with (fail)
  refine (H33.out).mono ?_
  rintro e w' ⟨rfl, q, rfl⟩
  go_wp2_with (fail)
  go_ret2
  exact ⟨_, _, _, rfl, Sl.nil _ _, bdrewN _ _⟩

set_option maxRecDepth 100000 in
set_option maxHeartbeats 2000000 in
theorem refcmp30_ok (a : Option Addr) (n c m : Nat) (S : List (List Int)) (w : World) (h : Rows2 w a n S) (hch : chkS S = 0) (ok : OkS S m) :
    Calls Try.prog 30 #[.slice a n c] w (GivesRR w (tabF (cmpF S m) n n) 0) := by
  obtain ⟨i0, hi, hz0, hz1, hz2⟩ := info_parts info3
  obtain ⟨r0, ri, rz0, rz1, rz2⟩ := info_parts info23
  have HL := Lib.hid h.len
  have hsm := h.small
  have HH := Lib.hid h
  have OK := Lib.hid ok
  have H33 := check33 a n c S w h
  rw [hch] at H33
  have H33 := Lib.hid H33
  have hn32 : n ≤ 32 := by rw [← h.len]; exact ok.le
  have hpos : 0 < n := by rw [← h.len]; exact ok.pos
  have hw := ok.wid
  clear h hch ok
  go_enter Try.func30, Try.ntmps30
  go_wp2_with (fail)
  refine (H33.out).mono ?_
  rintro e w' ⟨rfl, q, rfl⟩
  go_wp2_with (fail)
  go_loopw [4, 5] (fun v i wr => ∃ k : Nat, k ≤ n ∧ i = .int .i64 k ∧ OwnRR 3 23 wr w.heap.size v (tabF (cmpF S m) n k) ∧ Below w.heap.size w wr) (fun _ i _ => n - (intOf i).toNat)
  case atStart => exact ⟨0, by omega, rfl, OwnRR.empty 3 23 (w.drewN q) (Nat.le_refl _), bstep (bdrewN w q) (balloc _ _)⟩
  case round =>
    obtain ⟨k, hk, rfl, ho, hb⟩ := hrel
    have HO := Lib.hid ho
    have HB := Lib.hid hb
    have hsz := hb.size
    clear ho hb
    by_cases hlt : k < n
    · go_wp2_with (fail)
      obtain ⟨wo, rfl⟩ : ∃ wo, wo = wr := ⟨_, rfl⟩
      go_loopw [6, 7] (fun v i wi => ∃ j : Nat, j ≤ n ∧ i = .int .i64 j ∧ OwnI 3 wi wo.heap.size v (lineF (cmpF S m) k j) ∧ Below wo.heap.size wo wi) (fun _ i _ => n - (intOf i).toNat)
      case atStart => exact ⟨0, by omega, rfl, OwnI.empty 3 wo (Nat.le_refl _), balloc _ _⟩
      case round =>
        obtain ⟨j, hj, rfl, hoi, hbi⟩ := hrel
        have HOI := Lib.hid hoi
        have HBI := Lib.hid hbi
        have hszi := hbi.size
        clear hoi hbi
        by_cases hjl : j < n
        · have hrows := Rows2.mono HH.out (Nat.le_refl _) (HB.out.trans (HBI.out.mono hsz))
          obtain ⟨b1, o1, rfl, hc1⟩ := Rows2.all hrows (by omega)
          obtain ⟨a1, n1, c1, hcell1, hI1⟩ := hc1 k hlt
          obtain ⟨a2, n2, c2, hcell2, hI2⟩ := hc1 j hjl
          obtain rfl : m = n1 := by rw [← hI1.len]; exact (OK.out.row_len (by rw [HL.out]; exact hlt)).symm
          obtain rfl : m = n2 := by rw [← hI2.len]; exact (OK.out.row_len (by rw [HL.out]; exact hjl)).symm
          have H54 := Lib.hid (fun q => counts54 a1 a2 m m c1 c2 (row S k) (row S j) (wr.drewN q) (Nat.le_refl _) hI1.drewN hI2.drewN)
          clear hrows hc1 hI1 hI2
          obtain ⟨z, hz⟩ : ∃ z, cmpF S m k j = z := ⟨_, rfl⟩
          have HZ := Lib.hid hz
          rw [cmpF] at hz
          generalize agr (row S k) (row S j) m = g1 at *
          generalize cmpd (row S k) (row S j) m = g2 at *
          subst hz
          have HFT := Lib.hid (show I64 (g2 : Int) by rw [← HZ.out]; exact cmpF_fits hw k j)
          go_wp2_with (fail)
          go_quiet ((go_at_call 54; exact Calls.quiet_of (H54.out _)))
          obtain ⟨w3, hw3⟩ : ∃ w3, wr.drewN nq = w3 := ⟨_, rfl⟩
          have hb3 : Below wr.heap.size wr w3 := by rw [← hw3]; exact bdrewN _ _
          rw [hw3]
          clear hw3
          have HOI3 := Lib.hid (HOI.out.below hb3)
          have HB3 := Lib.hid (HBI.out.trans (hb3.mono hszi))
          have hsz3 := HB3.out.size
          have hln := lineF_len (f := cmpF S m) (i := k) (k := j)
          clear hb3
          go_wp2_with (at_builtin; refine wpList_append_own _ rfl _ _ 23 rfl wo.heap.size 3 i0 (.int .i64 0) 1 8 Try.underlying23 hi hz0 hz1 hz2 rfl (by decide) _ _ _ rfl (HOI3.out.1.alloc _) ⟨w3.heap.size, 0, none⟩ 1 1 [.int .i64 (g2 : Nat)] rfl rfl (cell_one_new _ _ _) (by simp [Value.oneCell']) (by unfold maxLen; omega) (by omega) (by simp; omega) ?_; intro v1 w4 hown1 hgrow1 _; have HO2 := Lib.hid hown1; have HG := Lib.hid hgrow1; clear hown1 hgrow1)
          have hp := HOI3.out.pushed HFT.out hsz3 HO2.out HG.out
          exact ⟨⟨j + 1, by omega, by go_num, by rw [lineF_succ, HZ.out]; exact hp.1, HB3.out.trans hp.2⟩, by simp [intOf]; omega⟩
        · obtain rfl : n = j := by omega
          have had := HOI.out.addr (by rw [lineF_len]; omega)
          rw [lineF_len] at had
          obtain ⟨b5, c5, rfl⟩ := had
          obtain ⟨vs, hv, hnext⟩ := HO.out.ready (by decide) hsz HBI.out HOI.out
          have HV := Lib.hid hv
          have HN := Lib.hid hnext
          have hln := tabF_len (f := cmpF S m) (n := n) (k := k)
          clear hv hnext
          go_wp2_with (at_builtin; refine wpList_append_own _ rfl _ _ 22 rfl w.heap.size 23 r0 (.slice none 0 0) 1 24 Try.underlying22 ri rz0 rz1 rz2 rfl (by decide) _ _ _ rfl (HV.out.alloc _) ⟨wr.heap.size, 0, none⟩ 1 1 [.slice (some ⟨b5, 0, none⟩) n c5] rfl rfl (cell_one_new _ _ _) (by simp [Value.oneCell']) (by unfold maxLen; omega) (by omega) (by simp; omega) ?_; intro v1 w4 hown1 hgrow1 _; have HO2 := Lib.hid hown1; have HG := Lib.hid hgrow1; clear hown1 hgrow1)
          have hp := HN.out _ _ _ HO2.out HG.out
          exact ⟨⟨k + 1, by omega, by go_num, by rw [tabF_succ]; exact hp.1, (HB.out.trans (HBI.out.mono hsz)).trans hp.2⟩, by simp [intOf]; omega⟩
    · obtain rfl : n = k := by omega
      go_wp2_with (fail)
      go_ret2
      exact ⟨_, rfl, HO.out, HB.out⟩

theorem refcmp30 (a : Option Addr) (n c m : Nat) (S : List (List Int)) (w : World) (h : Rows2 w a n S) (hm : m = (row S 0).length) :
    Calls Try.prog 30 #[.slice a n c] w (GivesR2 w (tabR (cmpF S m) S) (errR S)) := by
  by_cases hch : chkS S = 0
  · have ok := chkS_ok hch
    rw [← hm] at ok
    have e1 : tabR (cmpF S m) S = tabF (cmpF S m) n n := by rw [tabR, if_pos hch, h.len]
    have hl := tabR_len (cmpF S m) S
    rw [e1] at hl
    rw [e1, errR, if_pos hch]
    exact (refcmp30_ok a n c m S w h hch ok).mono fun e w' hg => hg.r2 hl.1 hl.2
  · rw [tabR, errR, if_neg hch, if_neg hch]
    exact refcmp30_no a n c S w h hch

theorem refdst31_no (a : Option Addr) (n c : Nat) (S : List (List Int)) (w : World) (h : Rows2 w a n S) (hch : chkS S ≠ 0) :
    Calls Try.prog 31 #[.slice a n c] w (GivesR2 w [] 1) := by
  have H33 := Lib.hid (check33 a n c S w h)
  have d1 : (chkS S != 0) = true := by simpa using hch
  clear hch h
  go_enter Try.func31, Try.ntmps31
  go_wp2_with (fail)
  refine (H33.out).mono ?_
  rintro e w' ⟨rfl, q, rfl⟩
  go_wp2_with (fail)
  go_ret2
  exact ⟨_, _, _, rfl, Sl.nil _ _, bdrewN _ _⟩

set_option maxRecDepth 100000 in
set_option maxHeartbeats 2000000 in
theorem refdst31_ok (a : Option Addr) (n c m : Nat) (S : List (List Int)) (w : World) (h : Rows2 w a n S) (hch : chkS S = 0) (ok : OkS S m) :
    Calls Try.prog 31 #[.slice a n c] w (GivesRR w (tabF (rdsF S m) n n) 0) := by
  obtain ⟨i0, hi, hz0, hz1, hz2⟩ := info_parts info3
  obtain ⟨r0, ri, rz0, rz1, rz2⟩ := info_parts info23
  have HL := Lib.hid h.len
  have hsm := h.small
  have HH := Lib.hid h
  have OK := Lib.hid ok
  have H33 := check33 a n c S w h
  rw [hch] at H33
  have H33 := Lib.hid H33
  have hn32 : n ≤ 32 := by rw [← h.len]; exact ok.le
  have hpos : 0 < n := by rw [← h.len]; exact ok.pos
  have hw := ok.wid
  clear h hch ok
  go_enter Try.func31, Try.ntmps31
  go_wp2_with (fail)
  refine (H33.out).mono ?_
  rintro e w' ⟨rfl, q, rfl⟩
  go_wp2_with (fail)
  go_loopw [4, 5] (fun v i wr => ∃ k : Nat, k ≤ n ∧ i = .int .i64 k ∧ OwnRR 3 23 wr w.heap.size v (tabF (rdsF S m) n k) ∧ Below w.heap.size w wr) (fun _ i _ => n - (intOf i).toNat)
  case atStart => exact ⟨0, by omega, rfl, OwnRR.empty 3 23 (w.drewN q) (Nat.le_refl _), bstep (bdrewN w q) (balloc _ _)⟩
  case round =>
    obtain ⟨k, hk, rfl, ho, hb⟩ := hrel
    have HO := Lib.hid ho
    have HB := Lib.hid hb
    have hsz := hb.size
    clear ho hb
    by_cases hlt : k < n
    · go_wp2_with (fail)
      obtain ⟨wo, rfl⟩ : ∃ wo, wo = wr := ⟨_, rfl⟩
      go_loopw [6, 7] (fun v i wi => ∃ j : Nat, j ≤ n ∧ i = .int .i64 j ∧ OwnI 3 wi wo.heap.size v (lineF (rdsF S m) k j) ∧ Below wo.heap.size wo wi) (fun _ i _ => n - (intOf i).toNat)
      case atStart => exact ⟨0, by omega, rfl, OwnI.empty 3 wo (Nat.le_refl _), balloc _ _⟩
      case round =>
        obtain ⟨j, hj, rfl, hoi, hbi⟩ := hrel
        have HOI := Lib.hid hoi
        have HBI := Lib.hid hbi
        have hszi := hbi.size
        clear hoi hbi
        by_cases hjl : j < n
        · have hrows := Rows2.mono HH.out (Nat.le_refl _) (HB.out.trans (HBI.out.mono hsz))
          have H50 := Lib.hid (refdist50 a n c m k j S wr hrows OK.out hlt hjl)
          clear hrows
          obtain ⟨z, hz⟩ : ∃ z, rdsF S m k j = z := ⟨_, rfl⟩
          have HZ := Lib.hid hz
          rw [rdsF] at hz
          rw [hz] at H50
          clear hz
          have HFT := Lib.hid (show I64 z by rw [← HZ.out]; exact rdsF_fits S m k j)
          go_wp2_with (fail)
          refine (H50.out).mono ?_
          rintro e w' ⟨rfl, q3, rfl⟩
          obtain ⟨w3, hw3⟩ : ∃ w3, wr.drewN q3 = w3 := ⟨_, rfl⟩
          have hb3 : Below wr.heap.size wr w3 := by rw [← hw3]; exact bdrewN _ _
          rw [hw3]
          clear hw3
          have HOI3 := Lib.hid (HOI.out.below hb3)
          have HB3 := Lib.hid (HBI.out.trans (hb3.mono hszi))
          have hsz3 := HB3.out.size
          have hln := lineF_len (f := rdsF S m) (i := k) (k := j)
          clear hb3
          go_wp2_with (at_builtin; refine wpList_append_own _ rfl _ _ 23 rfl wo.heap.size 3 i0 (.int .i64 0) 1 8 Try.underlying23 hi hz0 hz1 hz2 rfl (by decide) _ _ _ rfl (HOI3.out.1.alloc _) ⟨w3.heap.size, 0, none⟩ 1 1 [.int .i64 z] rfl rfl (cell_one_new _ _ _) (by simp [Value.oneCell']) (by unfold maxLen; omega) (by omega) (by simp; omega) ?_; intro v1 w4 hown1 hgrow1 _; have HO2 := Lib.hid hown1; have HG := Lib.hid hgrow1; clear hown1 hgrow1)
          have hp := HOI3.out.pushed HFT.out hsz3 HO2.out HG.out
          exact ⟨⟨j + 1, by omega, by go_num, by rw [lineF_succ, HZ.out]; exact hp.1, HB3.out.trans hp.2⟩, by simp [intOf]; omega⟩
        · obtain rfl : n = j := by omega
          have had := HOI.out.addr (by rw [lineF_len]; omega)
          rw [lineF_len] at had
          obtain ⟨b5, c5, rfl⟩ := had
          obtain ⟨vs, hv, hnext⟩ := HO.out.ready (by decide) hsz HBI.out HOI.out
          have HV := Lib.hid hv
          have HN := Lib.hid hnext
          have hln := tabF_len (f := rdsF S m) (n := n) (k := k)
          clear hv hnext
          go_wp2_with (at_builtin; refine wpList_append_own _ rfl _ _ 22 rfl w.heap.size 23 r0 (.slice none 0 0) 1 24 Try.underlying22 ri rz0 rz1 rz2 rfl (by decide) _ _ _ rfl (HV.out.alloc _) ⟨wr.heap.size, 0, none⟩ 1 1 [.slice (some ⟨b5, 0, none⟩) n c5] rfl rfl (cell_one_new _ _ _) (by simp [Value.oneCell']) (by unfold maxLen; omega) (by omega) (by simp; omega) ?_; intro v1 w4 hown1 hgrow1 _; have HO2 := Lib.hid hown1; have HG := Lib.hid hgrow1; clear hown1 hgrow1)
          have hp := HN.out _ _ _ HO2.out HG.out
          exact ⟨⟨k + 1, by omega, by go_num, by rw [tabF_succ]; exact hp.1, (HB.out.trans (HBI.out.mono hsz)).trans hp.2⟩, by simp [intOf]; omega⟩
    · obtain rfl : n = k := by omega
      go_wp2_with (fail)
      go_ret2
      exact ⟨_, rfl, HO.out, HB.out⟩

theorem refdst31 (a : Option Addr) (n c m : Nat) (S : List (List Int)) (w : World) (h : Rows2 w a n S) (hm : m = (row S 0).length) :
    Calls Try.prog 31 #[.slice a n c] w (GivesR2 w (tabR (rdsF S m) S) (errR S)) := by
  by_cases hch : chkS S = 0
  · have ok := chkS_ok hch
    rw [← hm] at ok
    have e1 : tabR (rdsF S m) S = tabF (rdsF S m) n n := by rw [tabR, if_pos hch, h.len]
    have hl := tabR_len (rdsF S m) S
    rw [e1] at hl
    rw [e1, errR, if_pos hch]
    exact (refdst31_ok a n c m S w h hch ok).mono fun e w' hg => hg.r2 hl.1 hl.2
  · rw [tabR, errR, if_neg hch, if_neg hch]
    exact refdst31_no a n c S w h hch

end Go.Proofs.Ytbcnbchpcbglhaa
