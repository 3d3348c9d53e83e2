/-
  Plain laws: other numbers for the readings of a place change nothing.
-/
import Derived.Test.YtbcnbchpcbglhaaL6
import Derived.Test.YtbcnbchpcbglhaaOpen
namespace Go.Proofs.Ytbcnbchpcbglhaa
open Go.RowKit Go.Ap Go.Shelf Go.Proofs

abbrev U8s := Sl U8R
theorem U8s_at {w : World} {a : Option Addr} {n : Nat} {xs : List Int} (h : U8s w a n xs) (hk : 0 < n) :
    ∃ b off, a = some ⟨b, off, none⟩ ∧ ∀ j, j < n → w.cell? ⟨b, off + j, none⟩ = some (.int .u8 (nth xs j)) ∧ 0 ≤ nth xs j ∧ nth xs j ≤ 255 := by
  obtain ⟨x, b, off, v, _, ha, _, _⟩ := Sl.at h hk
  refine ⟨b, off, ha, fun j hj => ?_⟩
  obtain ⟨y, b', off', v', hy, ha', hc, rfl, h1, h2⟩ := Sl.at h hj
  rw [ha] at ha'
  cases ha'
  have : nth xs j = y := by simp [nth, hy]
  rw [this]
  exact ⟨hc, h1, h2⟩
theorem U8s_mono {w w' : World} {B : Nat} {a : Option Addr} {n : Nat} {xs : List Int} (h : U8s w a n xs) (hB : w.heap.size ≤ B) (hb : Below B w w') : U8s w' a n xs := Sl.mono h hB hb (fun _ _ h => h)

theorem chkG_of {m : Nat} : ∀ {S : List (List Int)}, (∀ r ∈ S, r.length = m ∧ ∀ x ∈ r, -1 ≤ x ∧ x < 16) → chkG m S = 0
  | [], _ => rfl
  | r :: rs, h => by
    have h1 := h r (List.mem_cons_self ..)
    rw [chkG, if_neg (by simp [h1.1]), if_neg]
    · exact chkG_of fun r hr => h r (List.mem_cons_of_mem _ hr)
    · rw [Bool.not_eq_true, List.any_eq_false]
      intro x hx
      have := h1.2 x hx
      simp [badI]
      omega
theorem chkS_of {S : List (List Int)} {m : Nat} (h : OkS S m) : chkS S = 0 := by
  have hp := h.pos
  have hl := h.le
  have hw := h.wid
  have h0 : (row S 0).length = m := h.row_len hp
  rw [chkS, if_neg (by omega), if_neg (by omega), h0]
  exact chkG_of fun r hr => ⟨h.len r hr, h.good r hr⟩
theorem _root_.Go.Ap.OkS.val {S : List (List Int)} {m i k : Nat} (h : OkS S m) (hi : i < S.length) (hk : k < m) : -1 ≤ nth (row S i) k ∧ nth (row S i) k < 16 :=
  h.good _ (row_mem hi) _ (nth_mem (by rw [h.row_len hi]; exact hk))

def turnX (t x : Int) : Int := if 0 ≤ x then (x + t) % 16 else x
theorem turnX_neg {t x : Int} (h : ¬ 0 ≤ x) : turnX t x = x := by rw [turnX, if_neg h]
theorem turnX_pos {t x : Int} (h : 0 ≤ x) : turnX t x = (x + t) % 16 := by rw [turnX, if_pos h]
theorem turnX_nonneg {t x : Int} : (0 ≤ turnX t x) ↔ 0 ≤ x := by
  unfold turnX
  split <;> omega
theorem turnX_range {t x : Int} (h : -1 ≤ x ∧ x < 16) : -1 ≤ turnX t x ∧ turnX t x < 16 := by
  unfold turnX
  split <;> omega
theorem turnX_inj {t x y : Int} (hx : -1 ≤ x ∧ x < 16) (hy : -1 ≤ y ∧ y < 16) : (turnX t x = turnX t y) ↔ x = y := by
  unfold turnX
  split <;> split <;> omega
def othF (S : List (List Int)) (ts : List Int) (i j : Nat) : Int := turnX (nth ts (j % ts.length)) (nth (row S i) j)
def oth (S : List (List Int)) (ts : List Int) (m : Nat) : List (List Int) := tabF (othF S ts) m S.length
section
variable {S : List (List Int)} {ts : List Int} {m : Nat}
theorem oth_len : (oth S ts m).length = S.length := tabF_len
theorem oth_row {i : Nat} (hi : i < S.length) : row (oth S ts m) i = lineF (othF S ts) i m := row_tabF hi
theorem oth_nth {i k : Nat} (hi : i < S.length) (hk : k < m) : nth (row (oth S ts m) i) k = turnX (nth ts (k % ts.length)) (nth (row S i) k) := by
  rw [oth_row hi, nth_lineF hk]; rfl
theorem oth_ok (h : OkS S m) : OkS (oth S ts m) m := by
  refine ⟨by rw [oth_len]; exact h.pos, by rw [oth_len]; exact h.le, h.wid, fun r hr => ?_, fun r hr x hx => ?_⟩
  · obtain ⟨i, _, rfl⟩ := List.mem_map.1 hr
    exact lineF_len
  · obtain ⟨i, hi, rfl⟩ := List.mem_map.1 hr
    obtain ⟨j, hj, rfl⟩ := List.mem_map.1 hx
    exact turnX_range (h.val (List.mem_range.1 hi) (List.mem_range.1 hj))
theorem oth_counts (h : OkS S m) {i j : Nat} (hi : i < S.length) (hj : j < S.length) : ∀ k, k ≤ m →
    cmpd (row (oth S ts m) i) (row (oth S ts m) j) k = cmpd (row S i) (row S j) k ∧ agr (row (oth S ts m) i) (row (oth S ts m) j) k = agr (row S i) (row S j) k
  | 0, _ => ⟨rfl, rfl⟩
  | k + 1, hk => by
    obtain ⟨ih1, ih2⟩ := oth_counts h hi hj k (by omega)
    have hx := h.val hi (k := k) (by omega)
    have hy := h.val hj (k := k) (by omega)
    have ex := oth_nth (ts := ts) hi (k := k) (m := m) (by omega)
    have ey := oth_nth (ts := ts) hj (k := k) (m := m) (by omega)
    generalize nth ts (k % ts.length) = t at *
    have hkn : knP (nth (row (oth S ts m) i) k, nth (row (oth S ts m) j) k) = knP (nth (row S i) k, nth (row S j) k) := by
      simp only [knP, ex, ey]
      rw [show decide (0 ≤ turnX t (nth (row S i) k)) = decide (0 ≤ nth (row S i) k) from decide_eq_decide.2 turnX_nonneg, show decide (0 ≤ turnX t (nth (row S j) k)) = decide (0 ≤ nth (row S j) k) from decide_eq_decide.2 turnX_nonneg]
    have heq : eqP (nth (row (oth S ts m) i) k, nth (row (oth S ts m) j) k) = eqP (nth (row S i) k, nth (row S j) k) := by
      simp only [eqP, ex, ey]
      rw [Bool.eq_iff_iff, beq_iff_eq, beq_iff_eq]
      exact turnX_inj hx hy
    unfold cmpd agr at *
    cases hp : knP (nth (row S i) k, nth (row S j) k)
    · rw [hp] at hkn
      rw [knL_no hp, knL_no hkn]
      exact ⟨ih1, ih2⟩
    · rw [hp] at hkn
      rw [knL_yes hp, knL_yes hkn]
      simp only [List.length_append, List.filter_append, List.length_singleton]
      refine ⟨by omega, ?_⟩
      simp only [List.filter_cons, List.filter_nil, heq]
      cases eqP (nth (row S i) k, nth (row S j) k) <;> simp <;> omega
theorem tabR_ok {f : Nat → Nat → Int} (h : OkS S m) : tabR f S = tabF f S.length S.length := by rw [tabR, if_pos (chkS_of h)]
theorem oth_mat (h : OkS S m) : tabR (agrF (oth S ts m) m) (oth S ts m) = tabR (agrF S m) S := by
  rw [tabR_ok (oth_ok h), tabR_ok h, oth_len]
  exact tabF_congr fun i j hi hj => by unfold agrF; rw [(oth_counts h hi hj m (Nat.le_refl _)).2]
theorem oth_dst (h : OkS S m) : tabR (rdsF (oth S ts m) m) (oth S ts m) = tabR (rdsF S m) S := by
  rw [tabR_ok (oth_ok h), tabR_ok h, oth_len]
  exact tabF_congr fun i j hi hj => by
    obtain ⟨h1, h2⟩ := oth_counts (ts := ts) h hi hj m (Nat.le_refl _)
    unfold rdsF distR dist
    rw [h1, h2]
theorem oth_shrE (h : OkS S m) (src : List Int) : shrE (oth S ts m) src = shrE S src := by
  rw [shrE, shrE, chkS_of h, chkS_of (oth_ok h), oth_len]
theorem oth_shr (h : OkS S m) {src : List Int} (hE : shrE S src = 0) : shrL (oth S ts m) src = shrL S src := by
  obtain ⟨_, h0, hs⟩ := shrE_zero hE
  have hm1 : (row S 0).length = m := h.row_len h.pos
  have hm2 : (row (oth S ts m) 0).length = m := (oth_ok h).row_len (by rw [oth_len]; exact h.pos)
  rw [shrL, shrL, oth_shrE h, if_pos hE, if_pos hE, hm1, hm2, oth_len]
  refine memb_congr fun p hp => ?_
  have hs0 := hs.2 _ (nth_mem (xs := src) (k := 0) (by omega))
  have hv := h.val (i := (nth src 0).toNat) (k := p) (by omega) hp
  have e0 : st0 (oth S ts m) src p = turnX (nth ts (p % ts.length)) (st0 S src p) := oth_nth (by omega) hp
  unfold shP
  rw [e0, show decide (0 ≤ turnX (nth ts (p % ts.length)) (st0 S src p)) = decide (0 ≤ st0 S src p) from decide_eq_decide.2 turnX_nonneg]
  congr 1
  rw [Bool.eq_iff_iff, List.all_eq_true, List.all_eq_true]
  have key : ∀ i, i < S.length → agP (oth S ts m) src p (turnX (nth ts (p % ts.length)) (st0 S src p)) i = agP S src p (st0 S src p) i := fun i hi => by
    unfold agP
    congr 1
    rw [oth_nth hi hp, Bool.eq_iff_iff, beq_iff_eq, beq_iff_eq]
    exact turnX_inj (h.val hi hp) hv
  exact ⟨fun H i hi => by rw [← key i (List.mem_range.1 hi)]; exact H i hi, fun H i hi => by rw [key i (List.mem_range.1 hi)]; exact H i hi⟩
end

theorem chosen_src (n : Nat) (z : Int) (hn : 0 < n) : SrcL n (chosenL n z) ∧ (chosenL n z).length ≠ 0 := by
  have key : ∀ p, SrcL n (memb p n) := fun p => ⟨memb_pair _ _, fun x hx => by obtain ⟨j, rfl, hj, _⟩ := memb_mem.1 hx; omega⟩
  unfold chosenL
  split
  · refine ⟨key _, ?_⟩
    intro h
    have : (0 : Int) ∈ memb (fun _ => true) n := memb_mem.2 ⟨0, rfl, hn, rfl⟩
    rw [List.eq_nil_of_length_eq_zero h] at this
    cases this
  · rename_i h; exact ⟨key _, h⟩
theorem chosen_shrE {S : List (List Int)} (h : chkS S = 0) (z : Int) : shrE S (chosenL S.length z) = 0 := by
  obtain ⟨h1, h2⟩ := chosen_src S.length z (chkS_ok h).pos
  rw [shrE, if_neg (by simp [h]), if_neg h2]
  exact (srcF_iff _ _).2 h1

end Go.Proofs.Ytbcnbchpcbglhaa
