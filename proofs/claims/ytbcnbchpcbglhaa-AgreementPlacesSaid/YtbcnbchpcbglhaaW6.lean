/-
  The table of a function of two sources; Matrix, Compared, Distances, of the program and of the reference.
-/
import Derived.Test.YtbcnbchpcbglhaaW5
import Derived.Test.YtbcnbchpcbglhaaOwn
namespace Go.Proofs.Ytbcnbchpcbglhaa
open Go.RowKit Go.Ap Go.Shelf

theorem info3 : (Try.prog.info? 3).map (fun i => (i.zero, i.size, i.bytes)) = some (some (.int .i64 0), 1, 8) := by kernel_rfl
theorem info23 : (Try.prog.info? 23).map (fun i => (i.zero, i.size, i.bytes)) = some (some (.slice none 0 0), 1, 24) := by kernel_rfl

/-- row i of a table of n columns, the first k of them -/
def lineF (f : Nat → Nat → Int) (i k : Nat) : List Int := (List.range k).map fun j => f i j
def tabF (f : Nat → Nat → Int) (n k : Nat) : List (List Int) := (List.range k).map fun i => lineF f i n
section
variable {f : Nat → Nat → Int} {i n k : Nat}
theorem lineF_succ : lineF f i (k + 1) = lineF f i k ++ [f i k] := by simp [lineF, List.range_succ]
theorem tabF_succ : tabF f n (k + 1) = tabF f n k ++ [lineF f k n] := by simp [tabF, List.range_succ]
theorem lineF_len : (lineF f i k).length = k := by simp [lineF]
theorem tabF_len : (tabF f n k).length = k := by simp [tabF]
theorem row_tabF (h : i < k) : row (tabF f n k) i = lineF f i n := by
  rw [row_eq (by rw [tabF_len]; exact h)]; simp [tabF]
theorem nth_lineF {j : Nat} (h : j < k) : nth (lineF f i k) j = f i j := by
  rw [nth_eq (by rw [lineF_len]; exact h)]; simp [lineF]
end

/-- what a call leaves that hands back a table of its own and an error number -/
def GivesRR (w : World) (res : List (List Int)) (err : Int) (e : Ending) (w' : World) : Prop :=
  ∃ v, e = .returned (.tuple #[v, .int .i64 err]) ∧ OwnRR 3 23 w' w.heap.size v res ∧ Below w.heap.size w w'

/-- a function of two sources -/
structure FnS (S : List (List Int)) (m : Nat) (g : Nat) (f : Nat → Nat → Int) : Prop where
  enters : ∀ args w, (callFunc g args).run Try.prog w = .ok (.enter g args) w
  fits : ∀ i j, I64 (f i j)
  calls : ∀ (i j : Nat) (a b : Option Addr) (c d : Nat) (W : World), i < S.length → j < S.length → Ints W a m (row S i) → Ints W b m (row S j) →
    Calls Try.prog g #[.slice a m c, .slice b m d] W fun e W' => e = .returned (.int .i64 (f i j)) ∧ Below W.heap.size W W'

set_option maxRecDepth 100000 in
set_option maxHeartbeats 2000000 in
theorem table51_ok (a : Option Addr) (n c m g : Nat) (S : List (List Int)) (f : Nat → Nat → Int) (w : World) (h : Rows2 w a n S) (hch : chkS S = 0) (ok : OkS S m) (F : FnS S m g f) :
    Calls Try.prog 51 #[.slice a n c, .func (.func g) #[] #[]] w (GivesRR w (tabF f n n) 0) := by
  obtain ⟨i0, hi, hz0, hz1, hz2⟩ := info_parts info3
  obtain ⟨r0, ri, rz0, rz1, rz2⟩ := info_parts info23
  have HL := Lib.hid h.len
  have hsm := h.small
  have HH := Lib.hid h
  have OK := Lib.hid ok
  have HF := Lib.hid F
  have eg := F.enters
  have H32 := check32 a n c S w h
  rw [hch] at H32
  have H32 := Lib.hid H32
  have hn32 : n ≤ 32 := by rw [← h.len]; exact ok.le
  clear h hch ok F
  go_enter Try.func51, Try.ntmps51
  go_wp2_with (fail)
  refine (H32.out).mono ?_
  rintro e w' ⟨rfl, q, rfl⟩
  go_wp2_with (fail)
  go_loopw [6, 17] (fun v i wr => ∃ k : Nat, k ≤ n ∧ i = .int .i64 k ∧ OwnRR 3 23 wr w.heap.size v (tabF f n k) ∧ Below w.heap.size w wr) (fun _ i _ => n - (intOf i).toNat)
  case atStart => exact ⟨0, by omega, rfl, OwnRR.nil _ _ _ _, bdrewN _ _⟩
  case round =>
    obtain ⟨k, hk, rfl, ho, hb⟩ := hrel
    have HO := Lib.hid ho
    have HB := Lib.hid hb
    have hsz := hb.size
    clear ho hb
    by_cases hlt : k < n
    · have hrows := Rows2.mono HH.out (Nat.le_refl _) HB.out
      obtain ⟨b1, o1, rfl, hc1⟩ := Rows2.all hrows (by omega)
      obtain ⟨a1, n1, c1, hcell1, hI1⟩ := hc1 k hlt
      obtain rfl : m = n1 := by rw [← hI1.len]; exact (OK.out.row_len (by rw [HL.out]; exact hlt)).symm
      have HI1 := Lib.hid hI1
      have HC := Lib.hid hc1
      clear hrows hc1 hI1
      go_wp2_with (fail)
      obtain ⟨wo, rfl⟩ : ∃ wo, wo = wr := ⟨_, rfl⟩
      go_loopw [9, 23] (fun v i wi => ∃ j : Nat, j ≤ n ∧ i = .int .i64 j ∧ OwnI 3 wi wo.heap.size v (lineF f k j) ∧ Below wo.heap.size wo wi) (fun _ i _ => n - (intOf i).toNat)
      case atStart => exact ⟨0, by omega, rfl, OwnI.nil _ _ _, Below.refl _ _⟩
      case round =>
        obtain ⟨j, hj, rfl, hoi, hbi⟩ := hrel
        have HOI := Lib.hid hoi
        have HBI := Lib.hid hbi
        have hszi := hbi.size
        clear hoi hbi
        by_cases hjl : j < n
        · obtain ⟨a2, n2, c2, hcell2, hI2⟩ := HC.out j hjl
          obtain rfl : m = n2 := by rw [← hI2.len]; exact (OK.out.row_len (by rw [HL.out]; exact hjl)).symm
          have hcell := (HBI.out.cell (p := ⟨b1, o1 + j, none⟩) (World.block_lt_of_cell? _ _ hcell2)).trans hcell2
          have HCALL := Lib.hid (HF.out.calls k j a1 a2 c1 c2 wr (by rw [HL.out]; exact hlt) (by rw [HL.out]; exact hjl) (HI1.out.mono (Nat.le_refl _) HBI.out) (hI2.mono (Nat.le_refl _) HBI.out))
          have HFT := Lib.hid (HF.out.fits k j)
          clear hcell2 hI2
          generalize hz : f k j = z at *
          have HZ := Lib.hid hz
          clear hz
          go_wp2_with (fail)
          refine (HCALL.out).mono ?_
          rintro e w3 ⟨rfl, hb3⟩
          have HOI3 := Lib.hid (HOI.out.below hb3)
          have HB3 := Lib.hid (HBI.out.trans (hb3.mono hszi))
          have hsz3 := HB3.out.size
          have hln := lineF_len (f := f) (i := k) (k := j)
          clear hb3
          go_wp2_with (at_builtin; refine wpList_append_own _ rfl _ _ 23 rfl wo.heap.size 3 i0 (.int .i64 0) 1 8 Try.underlying23 hi hz0 hz1 hz2 rfl (by decide) _ _ _ rfl (HOI3.out.1.alloc _) ⟨w3.heap.size, 0, none⟩ 1 1 [.int .i64 z] rfl rfl (cell_one_new _ _ _) (by simp [Value.oneCell']) (by unfold maxLen; omega) (by omega) (by simp; omega) ?_; intro v1 w4 hown1 hgrow1 _; have HO2 := Lib.hid hown1; have HG := Lib.hid hgrow1; clear hown1 hgrow1)
          have hp := HOI3.out.pushed HFT.out hsz3 HO2.out HG.out
          exact ⟨⟨j + 1, by omega, by go_num, by rw [lineF_succ, HZ.out]; exact hp.1, HB3.out.trans hp.2⟩, by simp [intOf]; omega⟩
        · obtain rfl : n = j := by omega
          have had := HOI.out.addr (by rw [lineF_len]; omega)
          rw [lineF_len] at had
          obtain ⟨b5, c5, rfl⟩ := had
          obtain ⟨vs, hv, hnext⟩ := HO.out.ready (by decide) hsz HBI.out HOI.out
          have HV := Lib.hid hv
          have HN := Lib.hid hnext
          have hln := tabF_len (f := f) (n := n) (k := k)
          clear hv hnext
          go_wp2_with (at_builtin; refine wpList_append_own _ rfl _ _ 22 rfl w.heap.size 23 r0 (.slice none 0 0) 1 24 Try.underlying22 ri rz0 rz1 rz2 rfl (by decide) _ _ _ rfl (HV.out.alloc _) ⟨wr.heap.size, 0, none⟩ 1 1 [.slice (some ⟨b5, 0, none⟩) n c5] rfl rfl (cell_one_new _ _ _) (by simp [Value.oneCell']) (by unfold maxLen; omega) (by omega) (by simp; omega) ?_; intro v1 w4 hown1 hgrow1 _; have HO2 := Lib.hid hown1; have HG := Lib.hid hgrow1; clear hown1 hgrow1)
          have hp := HN.out _ _ _ HO2.out HG.out
          exact ⟨⟨k + 1, by omega, by go_num, by rw [tabF_succ]; exact hp.1, (HB.out.trans (HBI.out.mono hsz)).trans hp.2⟩, by simp [intOf]; omega⟩
    · obtain rfl : n = k := by omega
      go_wp2_with (fail)
      go_ret2
      exact ⟨_, rfl, HO.out, HB.out⟩

end Go.Proofs.Ytbcnbchpcbglhaa
