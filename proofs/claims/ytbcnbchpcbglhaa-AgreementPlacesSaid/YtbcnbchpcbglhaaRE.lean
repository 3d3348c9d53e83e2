/-
  Matrix, Compared and Concat as AgreementPlaces calls them.
-/
import Derived.Test.YtbcnbchpcbglhaaRD
namespace Go.Proofs.Ytbcnbchpcbglhaa
open Go.RowKit Go.Ap Go.Shelf Go.Proofs

theorem info22 : (Try.prog.info? 22).map (fun i => (i.zero, i.size, i.bytes)) = some (some (.slice none 0 0), 1, 24) := by kernel_rfl

def GivesT (w : World) (n : Nat) (f : Nat → Nat → Int) (e : Ending) (w' : World) : Prop :=
  ∃ g c vs, e = .returned (.tuple #[.slice (some ⟨g, 0, none⟩) n c, .int .i64 0]) ∧ w'.ownsRow w.heap.size 23 1 (.slice (some ⟨g, 0, none⟩) n c) n vs ∧ Lines w' w.heap.size n f vs ∧ Below w.heap.size w w'
theorem GivesRR.t {w w' : World} {n m : Nat} {S : List (List Int)} {f : Nat → Nat → Int} {e : Ending} (h : GivesRR w (tabR f S) (errR S) e w') (ok : OkS S m) (hn : S.length = n) : GivesT w n f e w' := by
  obtain ⟨v, rfl, ho, hb⟩ := h
  rw [tabR_ok ok, hn] at ho
  have hpos : 0 < n := by rw [← hn]; exact ok.pos
  obtain ⟨g, c, rfl⟩ := ho.addr (by rw [tabF_len]; exact hpos)
  rw [tabF_len] at ho
  obtain ⟨vs, h1, h2⟩ := lines_of ho
  exact ⟨g, c, vs, by rw [tabF_len, errR, if_pos (chkS_of ok)], h1, h2, hb⟩
theorem matrixT (a : Option Addr) (n c m : Nat) (S : List (List Int)) (w : World) (h : Rows2 w a n S) (ok : OkS S m) :
    Calls Try.prog 23 #[.slice a n c] w (GivesT w n (agrF S m)) := by
  have H := Lib.hid (table51 a n c m 52 S (agrF S m) w h (ok.row_len ok.pos).symm (fun ok => fn52 ok.wid))
  have HL := Lib.hid h.len
  have OK := Lib.hid ok
  clear h ok
  go_enter Try.func23, Try.ntmps23
  go_wp2_with (fail)
  refine (H.out).mono ?_
  rintro e w' hg
  obtain ⟨g, c', vs, rfl, h1, h2, hb⟩ := hg.t OK.out HL.out
  have H1 := Lib.hid h1
  have H2 := Lib.hid h2
  have HB := Lib.hid hb
  clear h1 h2 hb hg H
  go_wp2_with (fail)
  go_ret2
  exact ⟨g, c', vs, rfl, H1.out, H2.out, HB.out⟩
theorem comparedT (a : Option Addr) (n c m : Nat) (S : List (List Int)) (w : World) (h : Rows2 w a n S) (ok : OkS S m) :
    Calls Try.prog 29 #[.slice a n c] w (GivesT w n (cmpF S m)) := by
  have H := Lib.hid (table51 a n c m 55 S (cmpF S m) w h (ok.row_len ok.pos).symm (fun ok => fn55 ok.wid))
  have HL := Lib.hid h.len
  have OK := Lib.hid ok
  clear h ok
  go_enter Try.func29, Try.ntmps29
  go_wp2_with (fail)
  refine (H.out).mono ?_
  rintro e w' hg
  obtain ⟨g, c', vs, rfl, h1, h2, hb⟩ := hg.t OK.out HL.out
  have H1 := Lib.hid h1
  have H2 := Lib.hid h2
  have HB := Lib.hid hb
  clear h1 h2 hb hg H
  go_wp2_with (fail)
  go_ret2
  exact ⟨g, c', vs, rfl, H1.out, H2.out, HB.out⟩

def GivesC (w : World) (n : Nat) (xs : List Value) (e : Ending) (w' : World) : Prop :=
  ∃ g c, e = .returned (.slice (some ⟨g, 0, none⟩) (n + n) c) ∧ w'.ownsRow w.heap.size 23 1 (.slice (some ⟨g, 0, none⟩) (n + n) c) (n + n) xs ∧ Below w.heap.size w w'
theorem lines_cells {w : World} {base n : Nat} {f : Nat → Nat → Int} {vs : List Value} (h : Lines w base n f vs) (hn : 0 < n) : ∀ u ∈ vs, u.oneCell' = true := by
  intro u hu
  obtain ⟨k, hk⟩ := List.getElem?_of_mem hu
  have hkl : k < n := by rw [← h.1]; exact (List.getElem?_eq_some_iff.1 hk).1
  obtain ⟨b', c', h1, _⟩ := h.one hn hkl
  rw [hk] at h1
  cases h1
  rfl
theorem concatT (B n g1 c1 g2 c2 b1 b2 : Nat) (vs us : List Value) (f g : Nat → Nat → Int) (w : World) (hn0 : 0 < n) (hn : n ≤ 32) (k0 : w.cell? ⟨B, 0, none⟩ = some (.slice (some ⟨g1, 0, none⟩) n c1)) (k1 : w.cell? ⟨B, 1, none⟩ = some (.slice (some ⟨g2, 0, none⟩) n c2))
    (h1 : w.ownsRow b1 23 1 (.slice (some ⟨g1, 0, none⟩) n c1) n vs) (h2 : w.ownsRow b2 23 1 (.slice (some ⟨g2, 0, none⟩) n c2) n us) (l1 : Lines w b1 n f vs) (l2 : Lines w b2 n g us) :
    Calls Try.prog 39 #[.slice (some ⟨B, 0, none⟩) 2 2] w (GivesC w n (vs ++ us)) := by
  have hlen : ∀ k, k < 2 → ((fun k => if k = 0 then vs else us) k).length = n := by
    intro k hk
    rcases (show k = 0 ∨ k = 1 by omega) with rfl | rfl
    · exact l1.1
    · exact l2.1
  have H := concat39 B n (fun k => if k = 0 then vs else us) w (by
    intro k hk
    rcases (show k = 0 ∨ k = 1 by omega) with rfl | rfl
    · exact ⟨g1, 0, c1, k0, fun j u hu => h1.cells (g := g1) rfl j u hu⟩
    · exact ⟨g2, 0, c2, k1, fun j u hu => h2.cells (g := g2) rfl j u hu⟩) hn0 hn hlen (by
    intro k hk
    rcases (show k = 0 ∨ k = 1 by omega) with rfl | rfl
    · exact lines_cells l1 hn0
    · exact lines_cells l2 hn0)
  have hpv : preV (fun k => if k = 0 then vs else us) 2 = vs ++ us := by simp [preV, List.range_succ]
  rw [hpv] at H
  refine H.mono ?_
  rintro e w' ⟨v, rfl, ho, hb⟩
  have hl : (vs ++ us).length = n + n := by rw [List.length_append, l1.1, l2.1]
  rw [hl] at ho
  obtain ⟨g', c', rfl, _, _⟩ := ho.form (by omega)
  exact ⟨g', c', rfl, ho, hb⟩

/-- the three states that are counted, and their widths -/
def TT (S : List (List Int)) (K k : Nat) : List (List Int) := if k = 0 then fstS S K else if k = 1 then sndS S K else S
def MM (m K k : Nat) : Nat := if k = 0 then K else if k = 1 then m - K else m
theorem tt_ok {S : List (List Int)} {m K : Nat} (ok : OkS S m) (hK : K ≤ m) (k : Nat) : OkS (TT S K k) (MM m K k) := by
  unfold TT MM
  split
  · exact fstS_ok ok hK
  · split
    · exact sndS_ok ok hK
    · exact ok
theorem tt_two {S : List (List Int)} {m K n : Nat} (hK : K ≤ m) (i j : Nat) : twoF (agrF (TT S K 2) (MM m K 2)) (cmpF (TT S K 2) (MM m K 2)) n i j = twoF (agrF (TT S K 0) (MM m K 0)) (cmpF (TT S K 0) (MM m K 0)) n i j + twoF (agrF (TT S K 1) (MM m K 1)) (cmpF (TT S K 1) (MM m K 1)) n i j := by
  unfold twoF
  split
  · exact agrF_split hK i j
  · exact cmpF_split hK _ j
theorem two_bound (T : List (List Int)) (v n i j : Nat) : 0 ≤ twoF (agrF T v) (cmpF T v) n i j ∧ twoF (agrF T v) (cmpF T v) n i j ≤ v := by
  unfold twoF
  split
  · unfold agrF; have := agr_le (row T i) (row T j) v; have := cmpd_le (row T i) (row T j) v; omega
  · unfold cmpF; have := cmpd_le (row T (i - n)) (row T j) v; omega
theorem mm_le {m K : Nat} (hK : K ≤ m) (k : Nat) : MM m K k ≤ m := by
  unfold MM
  split
  · exact hK
  · split <;> omega

end Go.Proofs.Ytbcnbchpcbglhaa
