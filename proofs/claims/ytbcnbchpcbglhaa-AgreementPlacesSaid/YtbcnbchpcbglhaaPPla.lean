/-
  The plain law of AgreementPlaces: what is counted at all places is what is counted at the first ones and at the others, added.
-/
import Derived.Test.YtbcnbchpcbglhaaC3
namespace Go.Proofs.Ytbcnbchpcbglhaa
open Go.RowKit Go.Ap Go.Shelf Go.Proofs

theorem nth_take {a : List Int} {k j : Nat} (h : j < k) : nth (a.take k) j = nth a j := by
  unfold nth
  rw [List.getD_eq_getElem?_getD, List.getD_eq_getElem?_getD, List.getElem?_take, if_pos h]
theorem nth_drop {a : List Int} {k j : Nat} : nth (a.drop k) j = nth a (k + j) := by
  unfold nth
  rw [List.getD_eq_getElem?_getD, List.getD_eq_getElem?_getD, List.getElem?_drop]
theorem knL_split (a b : List Int) (k d : Nat) : knL a b (k + d) = knL (a.take k) (b.take k) k ++ knL (a.drop k) (b.drop k) d := by
  unfold knL
  rw [List.range_add, List.map_append, List.filter_append, List.map_map]
  congr 1
  · congr 1
    apply List.map_congr_left
    intro j hj
    rw [List.mem_range] at hj
    rw [nth_take hj, nth_take hj]
  · congr 1
    apply List.map_congr_left
    intro j hj
    rw [Function.comp, nth_drop, nth_drop]
/-- the first k places of all rows, and the others -/
def fstS (S : List (List Int)) (k : Nat) : List (List Int) := S.map (List.take k)
def sndS (S : List (List Int)) (k : Nat) : List (List Int) := S.map (List.drop k)
section
variable {S : List (List Int)} {m k : Nat}
theorem fstS_len : (fstS S k).length = S.length := by simp [fstS]
theorem sndS_len : (sndS S k).length = S.length := by simp [sndS]
theorem row_fstS (i : Nat) : row (fstS S k) i = (row S i).take k := by
  unfold row fstS
  rw [List.getD_eq_getElem?_getD, List.getD_eq_getElem?_getD, List.getElem?_map]
  cases S[i]? <;> simp
theorem row_sndS (i : Nat) : row (sndS S k) i = (row S i).drop k := by
  unfold row sndS
  rw [List.getD_eq_getElem?_getD, List.getD_eq_getElem?_getD, List.getElem?_map]
  cases S[i]? <;> simp
theorem fstS_ok (ok : OkS S m) (hk : k ≤ m) : OkS (fstS S k) k := by
  refine ⟨by rw [fstS_len]; exact ok.pos, by rw [fstS_len]; exact ok.le, Nat.le_trans hk ok.wid, fun r hr => ?_, fun r hr x hx => ?_⟩
  · obtain ⟨s, hs, rfl⟩ := List.mem_map.1 hr
    rw [List.length_take, ok.len s hs]; omega
  · obtain ⟨s, hs, rfl⟩ := List.mem_map.1 hr
    exact ok.good s hs x (List.mem_of_mem_take hx)
theorem sndS_ok (ok : OkS S m) (hk : k ≤ m) : OkS (sndS S k) (m - k) := by
  refine ⟨by rw [sndS_len]; exact ok.pos, by rw [sndS_len]; exact ok.le, Nat.le_trans (by omega) ok.wid, fun r hr => ?_, fun r hr x hx => ?_⟩
  · obtain ⟨s, hs, rfl⟩ := List.mem_map.1 hr
    rw [List.length_drop, ok.len s hs]
  · obtain ⟨s, hs, rfl⟩ := List.mem_map.1 hr
    exact ok.good s hs x (List.mem_of_mem_drop hx)
theorem cmpF_split (hk : k ≤ m) (i j : Nat) : cmpF S m i j = cmpF (fstS S k) k i j + cmpF (sndS S k) (m - k) i j := by
  unfold cmpF cmpd
  have h := knL_split (row S i) (row S j) k (m - k)
  rw [show k + (m - k) = m by omega] at h
  rw [h, row_fstS, row_fstS, row_sndS, row_sndS, List.length_append]
  simp
theorem agrF_split (hk : k ≤ m) (i j : Nat) : agrF S m i j = agrF (fstS S k) k i j + agrF (sndS S k) (m - k) i j := by
  unfold agrF agr
  have h := knL_split (row S i) (row S j) k (m - k)
  rw [show k + (m - k) = m by omega] at h
  rw [h, row_fstS, row_fstS, row_sndS, row_sndS, List.filter_append, List.length_append]
  simp
end

end Go.Proofs.Ytbcnbchpcbglhaa
