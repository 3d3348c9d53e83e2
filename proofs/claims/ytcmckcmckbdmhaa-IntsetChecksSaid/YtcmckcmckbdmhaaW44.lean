/-
  The walk of the law's function 65 (slices.Sorted at int): a new slice that holds what the iterator gave, sorted.
-/
import Derived.Test.YtcmckcmckbdmhaaW43
import Derived.Sort.OwnSorted
import Derived.Lib.SlKeysI
namespace Go.Proofs.Ytcmckcmckbdmhaa
open Go.RowKit Go.Ap Go.Shelf Go.Proofs Go.Sort

theorem collectOwn45 (gf : Nat) (lb : Array Value) (xs : List Int) (w : World) (hlen : xs.length ≤ maxLen) (hbytes : xs.length * 8 ≤ 140737488355328)
    (eg : ∀ args w, (callFunc gf args).run Try.prog w = .ok (.enter gf args) w) (hseq : Seq1 gf lb xs w) :
    Calls Try.prog 45 #[.func (.func gf) #[] lb] w fun e W' => ∃ v, e = .returned v ∧ W'.ownsRow w.heap.size 3 1 v xs.length (xs.map (Value.int .i64)) ∧ Below w.heap.size w W' := by
  have H := Lib.hid (callsIn_wide.1 (appendSeq70 gf lb xs w hlen hbytes eg hseq))
  clear hseq eg
  go_enter Try.func45, Try.ntmps45
  go_wp2_with (fail)
  refine (H.out).mono ?_
  rintro e w' ⟨v, rfl, hrow, hB⟩
  have HR := Lib.hid hrow
  have hv : ∃ a n c, v = .slice a n c := by
    rcases hrow.2 with ⟨rfl, _⟩ | ⟨g, cap, cur, rfl, _⟩ <;> exact ⟨_, _, _, rfl⟩
  obtain ⟨a, n, c, rfl⟩ := hv
  clear hrow
  go_wp2_with (fail)
  go_ret
  exact ⟨_, rfl, HR.out, hB⟩

def srt (xs : List Int) : List Int := xs.mergeSort fun x y => decide (x ≤ y)

theorem sorted65 (gf : Nat) (lb : Array Value) (xs : List Int) (w : World) (hlen : xs.length ≤ maxLen) (hbytes : xs.length * 8 ≤ 140737488355328)
    (eg : ∀ args w, (callFunc gf args).run Try.prog w = .ok (.enter gf args) w) (hseq : Seq1 gf lb xs w) :
    Calls Try.prog 65 #[.func (.func gf) #[] lb] w fun e W' => ∃ v, e = .returned v ∧ W'.ownsRow w.heap.size 3 1 v xs.length ((srt xs).map (Value.int .i64)) ∧ Below w.heap.size w W' := by
  have H := Lib.hid (collectOwn45 gf lb xs w hlen hbytes eg hseq)
  clear hseq eg
  go_enter Try.func65, Try.ntmps65
  go_wp2_with (fail)
  refine (H.out).mono ?_
  rintro e W ⟨v, rfl, hrow, hb⟩
  have HR := Lib.hid hrow
  rcases hrow.2 with ⟨rfl, hz⟩ | ⟨gb, cap, cur, rfl, hbase, hgb, r1, r2, r3, r4⟩
  · have hss : xs = [] := List.eq_nil_of_length_eq_zero hz
    subst hss
    clear hrow
    go_wp2_with (fail)
    refine (Try.slices_Sort_int_none none 0 W).mono ?_
    rintro e w' ⟨rfl, rfl⟩
    go_wp2_with (fail)
    go_ret
    exact ⟨_, rfl, by simpa [srt] using HR.out, hb⟩
  · have hH : Go.Sort.Holds (Value.int .i64) W gb 0 xs.toArray := holds_of_block_i hgb (by simpa using r4)
    have hgl : gb < W.heap.size := (Array.getElem?_eq_some_iff.1 hgb).1
    have hsz : xs.length < 4611686018427387904 := by unfold maxLen at hlen; omega
    have H74 := Lib.hid (Try.slices_Sort_int gb 0 cap xs W hH hgl hsz)
    have HGB := Lib.hid hgb
    have HR3 := Lib.hid r3
    clear hrow hH hgb r3 r4
    go_wp2_with (fail)
    refine (H74.out).mono ?_
    rintro e w' ⟨rfl, nn, os, rfl⟩
    go_wp2_with (fail)
    go_ret
    exact ⟨_, rfl, ownsRow_sorted_i (by simp) hbase HGB.out r1 r2 HR3.out, hb.grown (grownBy_sorted_i _) hb.size (fun j hj => by cases hj; exact hbase)⟩

end Go.Proofs.Ytcmckcmckbdmhaa
