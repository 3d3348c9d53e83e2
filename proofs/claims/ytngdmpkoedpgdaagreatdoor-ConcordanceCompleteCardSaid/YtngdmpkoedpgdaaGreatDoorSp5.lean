/-
  slices.SortFunc of postings by order (the application of the shelf).
-/
import Derived.Test.YtngdmpkoedpgdaaGreatDoorPo5
import Derived.Test.YtngdmpkoedpgdaaGreatDoorOr
import Derived.Test.YtngdmpkoedpgdaaGreatDoorShelf
import Derived.Shelf.SlSortCmp.WholeK
import Derived.Shelf.SlSortCmp.NoneTotal
namespace Go.Proofs.YtngdmpkoedpgdaaGreatDoor
open Go.RowKit Go.Ap Go.Shelf Go.Proofs Go.Sort
abbrev ItS := {p : Go.Ap.Item // p.1.1.length ≤ 4611686018427387903 ∧ p.2.oneCell' = true}
instance : Inhabited ItS := ⟨⟨(([], []), .bool false), by simp, rfl⟩⟩
theorem swo_head : SWO (ltOf fun p q : ItS => headM mkB p.1.1 q.1.1) := by
  have hc := cmp_head mkB
  have neg : ∀ {x y : Str × Str}, ¬headM mkB x y < 0 → x = y ∨ headM mkB y x < 0 := fun {x y} h => by
    by_cases h0 : headM mkB x y = 0
    · exact .inl (hc.zero.1 h0)
    · exact .inr (hc.swap.2 (by omega))
  have lt : ∀ (x y : ItS), (ltOf fun p q : ItS => headM mkB p.1.1 q.1.1) x y = decide (headM mkB x.1.1 y.1.1 < 0) := fun _ _ => rfl
  refine ⟨fun x => ?_, fun x y z h1 h2 => ?_, fun x y z h1 h2 => ?_⟩
  · rw [lt, decide_eq_false_iff_not, hc.self]
    omega
  · rw [lt, decide_eq_true_eq] at *
    exact hc.trans h1 h2
  · rw [lt, decide_eq_false_iff_not] at *
    intro h3
    rcases neg h1 with e1 | e1
    · rw [e1] at h3
      exact h2 h3
    · rcases neg h2 with e2 | e2
      · rw [← e2] at h3
        exact h1 h3
      · have h4 := hc.trans e2 e1
        exact hc.asym h3 h4
theorem sortPosts (gb n cap : Nat) (d : Array ItS) (w : World) (hd : d.size = n) (hH : HoldsK (fun p : ItS => itC p.1) 3 w gb 0 d) (hb : gb < w.heap.size) (hn : n ≤ 4096) :
    Calls Tryz.prog 126 #[.slice (some ⟨gb, 0, none⟩) n cap, .func (.func 127) #[] #[]] w fun e w' =>
      e = .returned (.tuple #[]) ∧ ∃ d' m os, PermIn 0 d.size d d' ∧ SortedIn (ltOf fun p q : ItS => headM mkB p.1.1 q.1.1) 0 d.size d' ∧ w' = sortWorldK (fun p : ItS => itC p.1) 3 w gb 0 m d' os := by
  subst hd
  exact AnyQ.slices_SortFunc Tryz.sortPost126 3 (fun w => Tryz.isAgg37 w) (fun w => Tryz.sizeOf37 w) (fun p : ItS => itC p.1) (fun p => rfl) (fun p v hv => by
    simp only [itC, List.mem_cons, List.not_mem_nil, or_false] at hv
    rcases hv with rfl | rfl | rfl
    · rfl
    · rfl
    · exact p.2.2) (fun p q => headM mkB p.1.1 q.1.1) swo_head 127 #[] gb 0 cap d w (enters_of Tryz.func127 (by kernel_rfl) rfl)
    (fun m os dk _ x y => by
      refine (orderP x.1.1 y.1.1 x.1.2 y.1.2 _ x.2.1 y.2.1).mono fun e w' ⟨h1, h2⟩ => ⟨h1, h2⟩) hH hb (by omega)
/-- in order, heads apart: strictly in order -/
theorem sorted_heads {d d' : Array ItS} (hp : PermIn 0 d.size d d') (hs : SortedIn (ltOf fun p q : ItS => headM mkB p.1.1 q.1.1) 0 d.size d') (hn : (d.toList.map fun p : ItS => p.1.1).Nodup) :
    d'.toList.Perm d.toList ∧ d'.toList.Pairwise fun p q => headM mkB p.1.1 q.1.1 < 0 := by
  have hc := cmp_head mkB
  obtain ⟨h1, _, h3⟩ := hp
  have hperm : d'.toList.Perm d.toList := by
    have e1 : d'.extract 0 d.size = d' := by rw [← h1]; exact Array.extract_size
    have e2 : d.extract 0 d.size = d := Array.extract_size
    rw [e1, e2] at h3
    exact h3
  refine ⟨hperm, ?_⟩
  have hn' : (d'.toList.map fun p : ItS => p.1.1).Nodup := (hperm.map _).nodup_iff.2 hn
  rw [List.pairwise_iff_getElem]
  intro i j hi hj hij
  have hi' : i < d'.size := by simpa using hi
  have hj' : j < d'.size := by simpa using hj
  have h4 := hs i j (Nat.zero_le _) hij (by omega)
  rw [getElem!_pos d' j hj', getElem!_pos d' i hi'] at h4
  have h5 : ¬headM mkB d'[j].1.1 d'[i].1.1 < 0 := by simpa [ltOf] using h4
  have h6 := List.pairwise_iff_getElem.1 hn' i j (by simpa using hi') (by simpa using hj') hij
  simp only [List.getElem_map, Array.getElem_toList] at h6 ⊢
  refine hc.swap.2 ?_
  by_cases h0 : headM mkB d'[j].1.1 d'[i].1.1 = 0
  · exact absurd (hc.zero.1 h0).symm h6
  · omega
theorem sortPosts0 (a : Option Addr) (cap : Nat) (fv : Value) (w : World) : Calls Tryz.prog 126 #[.slice a 0 cap, fv] w fun e w' => e = .returned (.tuple #[]) ∧ w' = w :=
  AnyF.slices_SortFunc_none Tryz.sortPost126 a cap fv w
end Go.Proofs.YtngdmpkoedpgdaaGreatDoor
