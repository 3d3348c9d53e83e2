/-
  Clusters, of the program.
-/
import Derived.Test.YtbcnbchpcbglhaaW9
import Derived.Test.YtbcnbchpcbglhaaConn
import Derived.Sort.OwnSorted
import Derived.Lib.SlKeysI
import Derived.Deep.OwnRows
import Derived.Deep.RegionHeld3
namespace Go.Proofs.Ytbcnbchpcbglhaa
open Go.RowKit Go.Ap Go.Shelf Go.Proofs Go.Sort

theorem knL_symm (a b : List Int) (k : Nat) : knL b a k = (knL a b k).map fun p => (p.2, p.1) := by
  induction k with
  | zero => rfl
  | succ k ih =>
    cases h : knP (nth a k, nth b k)
    · have h' : knP (nth b k, nth a k) = false := by rw [← h]; simp [knP, Bool.and_comm]
      rw [knL_no h, knL_no h', ih]
    · have h' : knP (nth b k, nth a k) = true := by rw [← h]; simp [knP, Bool.and_comm]
      rw [knL_yes h, knL_yes h', ih, List.map_append]; rfl
theorem cmpd_symm (a b : List Int) (k : Nat) : cmpd a b k = cmpd b a k := by
  unfold cmpd; rw [knL_symm b a, List.length_map]
theorem agr_symm (a b : List Int) (k : Nat) : agr a b k = agr b a k := by
  unfold agr
  rw [knL_symm b a, List.filter_map, List.length_map]
  congr 1
  apply List.filter_congr
  intro p _
  simp only [eqP, Function.comp]
  rw [Bool.eq_iff_iff, beq_iff_eq, beq_iff_eq]
  exact ⟨Eq.symm, Eq.symm⟩
theorem dist_symm (a b : List Int) (k : Nat) : dist a b k = dist b a k := by rw [dist, dist, cmpd_symm, agr_symm]
theorem rdsF_symm (S : List (List Int)) (m i j : Nat) : rdsF S m i j = rdsF S m j i := by
  unfold rdsF distR
  by_cases h : i = j
  · subst h; rfl
  · rw [if_neg h, if_neg (Ne.symm h), dist_symm]
/-- near enough -/
def adjD (S : List (List Int)) (m : Nat) (most : Int) (i j : Nat) : Bool := decide (rdsF S m i j ≤ most)
theorem adjD_symm (S : List (List Int)) (m : Nat) (most : Int) (i j : Nat) : adjD S m most i j = adjD S m most j i := by rw [adjD, adjD, rdsF_symm]
theorem adjD_ne {S : List (List Int)} {m : Nat} {most : Int} {i j : Nat} (h : i ≠ j) : adjD S m most i j = decide (dist (row S i) (row S j) m ≤ most) := by rw [adjD, rdsF, distR, if_neg h]

/-- block B holds just these bools -/
def ArrB (W : World) (B : Nat) (T : List Bool) : Prop := W.heap[B]? = some (.cells (T.map Value.bool).toArray 4 (0, 0))
section
variable {W W' : World} {B : Nat} {T : List Bool}
theorem ArrB.lt (h : ArrB W B T) : B < W.heap.size := (Array.getElem?_eq_some_iff.1 h).1
theorem ArrB.cell (h : ArrB W B T) {k : Nat} (hk : k < T.length) : W.cell? ⟨B, k, none⟩ = some (.bool (tk T k)) := by
  simp [World.cell?, show W.heap[B]? = _ from h, hk, tk]
theorem ArrB.free (h : ArrB W B T) (k : Nat) : W.frozen? ⟨B, k, none⟩ = false := by simp [World.frozen?, show W.heap[B]? = _ from h]
theorem ArrB.set (h : ArrB W B T) (k : Nat) (v : Bool) : ArrB (W.setCell ⟨B, k, none⟩ (.bool v)) B (T.set k v) := by
  obtain ⟨hlt, hk⟩ := Array.getElem?_eq_some_iff.1 h
  show (W.heap.modify B _)[B]? = _
  rw [Array.getElem?_eq_getElem (by rw [Array.size_modify]; exact hlt), Array.getElem_modify_self, hk]
  simp [List.map_set]
theorem ArrB.kept (h : ArrB W B T) (hb : Below W.heap.size W W') : ArrB W' B T := (hb.block B h.lt).trans h
theorem ArrB.grown (h : ArrB W B T) {row : Option Nat} (hg : W.grownBy W' row) (hr : some B ≠ row) : ArrB W' B T := (hg.block B h.lt hr).trans h
/-- an owned row is not the block of bools -/
theorem ArrB.apart (h : ArrB W B T) {base size n : Nat} {e : TypeId} {v : Value} {xs : List Value} (he : e ≠ 4) (ho : W.ownsRow base e size v n xs) : some B ≠ v.ownBlock := by
  rcases ho.2 with ⟨rfl, _⟩ | ⟨g, cap, cur, rfl, _, hg, _⟩
  · simp [Value.ownBlock]
  · intro e'
    obtain rfl : B = g := by simpa [Value.ownBlock] using e'
    rw [show W.heap[B]? = _ from h] at hg
    simp at hg
    exact he hg.2.symm
theorem ArrB.pushed (h : ArrB W B T) {base size n : Nat} {e : TypeId} {v : Value} {xs : List Value} {tmp : Obj} (he : e ≠ 4) (ho : W.ownsRow base e size v n xs) (hg : (W.alloc tmp).grownBy W' v.ownBlock) : ArrB W' B T :=
  (h.kept (balloc _ _)).grown hg (ArrB.apart (h.kept (balloc W tmp)) he (ho.alloc tmp))
/-- what a call owns is kept while the bools are written -/
theorem ArrB.owns (h : ArrB W B T) (hk : KeepBut B W.heap.size W W') {base size n : Nat} {e : TypeId} {v : Value} {xs : List Value} (he : e ≠ 4) (ho : W.ownsRow base e size v n xs) : W'.ownsRow base e size v n xs := by
  refine ⟨ho.1, ?_⟩
  rcases ho.2 with hn | ⟨g, cap, cur, rfl, hbb, hgg, rest⟩
  · exact .inl hn
  · refine .inr ⟨g, cap, cur, rfl, hbb, ?_, rest⟩
    rw [hk.block g (Array.getElem?_eq_some_iff.1 hgg).1 (fun e' => by
      subst e'
      rw [show W.heap[g]? = _ from h] at hgg
      simp at hgg
      exact he hgg.2.symm)]
    exact hgg
end
theorem KeepBut.setAt {B n₀ : Nat} (A : World) (k : Nat) (v : Value) : KeepBut B n₀ A (A.setCell ⟨B, k, none⟩ v) :=
  ⟨rfl, rfl, rfl, by simp [World.setCell], fun _ _ hb => Below.heap_setCell _ _ _ _ hb⟩

theorem made_bools (n : Nat) : madeCells #[Value.bool false] n = ((List.replicate n false).map Value.bool).toArray := by
  apply Array.ext_getElem?
  intro i
  simp [madeCells, Nat.mod_one]
  by_cases h : i < n
  · simp [h]
  · simp [h]
theorem info4 : (Try.prog.info? 4).map (fun i => (i.zero, i.size, i.bytes)) = some (some (.bool false), 1, 1) := by kernel_rfl
theorem owns_one (w : World) (x : Int) : (w.alloc (.cells #[.int .i64 x] 3)).ownsRow w.heap.size 3 1 (.slice (some ⟨w.heap.size, 0, none⟩) 1 1) 1 [.int .i64 x] :=
  ⟨rfl, .inr ⟨w.heap.size, 1, _, rfl, Nat.le_refl _, World.alloc_heap_new w _, Nat.le_refl _, by unfold maxLen; omega, rfl, rfl⟩⟩

/-- an own row, sorted -/
theorem sort48 (base : Nat) (v : Value) (xs : List Int) (w : World) (ho : OwnI 3 w base v xs) (hl : xs.length ≤ 1000000) (h0 : 0 < xs.length) :
    ∃ g c, v = .slice (some ⟨g, 0, none⟩) xs.length c ∧ Calls Try.prog 48 #[.slice (some ⟨g, 0, none⟩) xs.length c] w fun e w' => e = .returned (.tuple #[]) ∧ OwnI 3 w' base v (sortI xs) ∧ w.grownBy w' (some g) ∧ base ≤ g := by
  rcases ho.1.2 with ⟨_, hz⟩ | ⟨gb, cap, cur, rfl, hbase, hgb, r1, r2, r3, r4⟩
  · omega
  · have hH : Go.Sort.Holds (Value.int .i64) w gb 0 xs.toArray := holds_of_block_i hgb (by simpa using r4)
    have hgl : gb < w.heap.size := (Array.getElem?_eq_some_iff.1 hgb).1
    refine ⟨gb, cap, rfl, (Try.slices_Sort_int gb 0 cap xs w hH hgl (by omega)).mono ?_⟩
    rintro e w' ⟨rfl, nn, os, rfl⟩
    have hp := sortI_perm xs
    have hs := ownsRow_sorted_i (w := w) (n := nn) (os := os) (ts := sortI xs) (ss := xs) (hp.length_eq) hbase hgb r1 r2 r3
    refine ⟨rfl, ⟨?_, fun x hx => ho.2 x (hp.mem_iff.1 hx)⟩, grownBy_sorted_i _, hbase⟩
    rw [hp.length_eq]
    exact hs

/-- what Clusters answers -/
def cluE (S : List (List Int)) (most : Int) : Int := if chkS S ≠ 0 then 1 else if most < 0 ∨ 1000 < most then 2 else 0
noncomputable def cluR (S : List (List Int)) (m : Nat) (most : Int) : List (List Int) := if cluE S most = 0 then cluU (connB (adjD S m most) S.length) S.length S.length else []

theorem clusters15_no (a : Option Addr) (n c : Nat) (S : List (List Int)) (most : Int) (w : World) (h : Rows2 w a n S) (hE : cluE S most ≠ 0) :
    Calls Try.prog 15 #[.slice a n c, .int .i64 most] w (GivesRR w [] (cluE S most)) := by
  have H32 := check32 a n c S w h
  by_cases h1 : chkS S = 0
  · rw [h1] at H32
    have H32 := Lib.hid H32
    by_cases h2 : most < 0
    · have he : cluE S most = 2 := by rw [cluE, if_neg (by simp [h1]), if_pos (.inl h2)]
      rw [he]
      have d1 : decide (most < 0) = true := by simpa using h2
      clear he hE h1 h
      go_enter Try.func15, Try.ntmps15
      go_wp2_with (fail)
      refine (H32.out).mono ?_
      rintro e w' ⟨rfl, q, rfl⟩
      go_wp2_with (fail)
      go_ret2
      exact ⟨_, rfl, OwnRR.nil _ _ _ _, bdrewN _ _⟩
    · by_cases h3 : 1000 < most
      · have he : cluE S most = 2 := by rw [cluE, if_neg (by simp [h1]), if_pos (.inr h3)]
        rw [he]
        have d1 : decide (most < 0) = false := by simpa using h2
        have d2 : decide (1000 < most) = true := by simpa using h3
        clear he hE h1 h
        go_enter Try.func15, Try.ntmps15
        go_wp2_with (fail)
        refine (H32.out).mono ?_
        rintro e w' ⟨rfl, q, rfl⟩
        go_wp2_with (fail)
        go_ret2
        exact ⟨_, rfl, OwnRR.nil _ _ _ _, bdrewN _ _⟩
      · exact absurd (by rw [cluE, if_neg (by simp [h1]), if_neg (by omega)]) hE
  · have he : cluE S most = 1 := by rw [cluE, if_pos h1]
    rw [he]
    have d1 : (chkS S != 0) = true := by simpa using h1
    have H32 := Lib.hid H32
    clear he hE h1 h
    go_enter Try.func15, Try.ntmps15
    go_wp2_with (fail)
    refine (H32.out).mono ?_
    rintro e w' ⟨rfl, q, rfl⟩
    go_wp2_with (fail)
    go_ret2
    exact ⟨_, rfl, OwnRR.nil _ _ _ _, bdrewN _ _⟩

end Go.Proofs.Ytbcnbchpcbglhaa
