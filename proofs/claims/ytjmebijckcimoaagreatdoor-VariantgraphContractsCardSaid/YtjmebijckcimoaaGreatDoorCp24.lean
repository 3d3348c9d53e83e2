/-
  The contracted graph of a small valid graph (law Contracts): the plain part.
-/
import Derived.Test.YtjmebijckcimoaaGreatDoorFh24
import Derived.Test.YtjmebijckcimoaaGreatDoorGo24
import Derived.Test.YtjmebijckcimoaaGreatDoorJo24
namespace Go.Ap
open Go Go.RowKit
theorem joinW_eq (sp : Str) : ∀ l : List Str, Vg.joinW sp l = Lib.join l sp
  | [] => rfl
  | u :: r => by
    rw [Lib.join_cons]
    simp [Vg.joinW, Lib.joinTail, List.flatMap_def]
def contrE (ws : List Str) (al : List Vg.Arc) : List Str := Vg.contrW [32] ((ws.length : Int) - 1) al (fun k => ws.getD k.toNat []) ws.length
structure CtrG (ws : List Str) (al : List Vg.Arc) (cw : List Str) (al' : List Vg.Arc) : Prop where
  ok : Vg.chkG cw al' = 0
  again : contrE cw al' = cw
  same : ∀ al'', Vg.Contr ((cw.length : Int) - 1) al' al'' → al'' = al'
  paths : ∀ c, Vg.pathsN c ((cw.length : Int) - 1) al' = Vg.pathsN c ((ws.length : Int) - 1) al
  src : ∀ s, s ∈ srcC al' ↔ s ∈ srcC al
  len : cw.length ≤ ws.length
  arcs : al'.length ≤ 144
  allS : (allS al').length ≤ 5000
  join : ∀ s, Lib.join (Vg.spellW cw al' s) [32] = Lib.join (Vg.spellW ws al s) [32]
  words : ∀ u ∈ cw, u.length ≤ 614
theorem srcC_mem (al : List Vg.Arc) (s : Int) : s ∈ srcC al ↔ ∃ a ∈ al, s ∈ a.2 := (srcC_all al).all s
end Go.Ap
namespace Go.Proofs.YtjmebijckcimoaaGreatDoor
open Go.RowKit Go.Ap Go.Shelf Go.Proofs
theorem ctr_of {ws : List Str} {al al' : List Vg.Arc} (hok : Vg.chkG ws al = 0) (hs : SmallG ws al) (C : Vg.Contr ((ws.length : Int) - 1) al al') : CtrG ws al (contrE ws al) al' := by
  obtain ⟨g2, g3, g4, g5, V, g6⟩ := Vg.chkG_zero.1 hok
  obtain ⟨s1, s2, s3, s4⟩ := hs
  have hn : (ws.length : Int) = ((ws.length : Int) - 1) + 1 := by omega
  obtain ⟨l1, l2⟩ := V.contrW_len (sp := [32]) (ws := fun k => ws.getD k.toNat []) hn
  have he : Vg.num ((ws.length : Int) - 1) al ((ws.length : Int) - 1) = ((contrE ws al).length : Int) - 1 := by unfold contrE; omega
  have hV := V.contr_valid C
  have hp := V.num_pos
  rw [he] at hV hp
  have hid : al' = Vg.idxE (entC ((ws.length : Int) - 1) al al) := C.unique (contr_idx _ _)
  have hall : (Go.Ap.allS al).length ≤ 144 := Nat.le_trans (allS_small s4) (by omega)
  have hent := entC_len ((ws.length : Int) - 1) al al
  have harc : al'.length ≤ 144 := by rw [hid]; exact Nat.le_trans (idxE_len _) (by omega)
  have h32 : ∀ a ∈ al', ∀ s ∈ a.2, 0 ≤ s ∧ s < 32 := fun a ha s hs => by
    obtain ⟨b, hb, hsb⟩ := (V.contr_goes C s).1 ⟨a, ha, hs⟩
    exact g6 b hb s hsb
  have hgo : ∀ s, s ∈ srcC al' ↔ s ∈ srcC al := fun s => by rw [srcC_mem, srcC_mem]; exact V.contr_goes C s
  have hw0 : ws.getD (0 : Int).toNat [] = [] := by
    rw [show (0 : Int).toNat = 0 from rfl, List.getD_eq_getElem?_getD, List.getElem?_eq_getElem (by omega)]
    exact (g5 0 (by omega)).2 (.inl rfl)
  have hwe : ws.getD ((ws.length : Int) - 1).toNat [] = [] := by
    rw [show ((ws.length : Int) - 1).toNat = ws.length - 1 by omega, List.getD_eq_getElem?_getD, List.getElem?_eq_getElem (by omega)]
    exact (g5 (ws.length - 1) (by omega)).2 (.inr (by omega))
  have hwi : ∀ k : Int, 0 < k → k < (ws.length : Int) - 1 → ws.getD k.toNat [] ≠ [] := fun k h1 h2 h3 => by
    rw [List.getD_eq_getElem?_getD, List.getElem?_eq_getElem (by omega)] at h3
    have := (g5 k.toNat (by omega)).1 h3
    omega
  have hright : Vg.wordsOk (contrE ws al) := fun i hi => V.contrW_right (sp := [32]) (ws := fun k => ws.getD k.toNat []) hn hw0 hwe hwi i hi
  refine ⟨Vg.chkG_zero.2 ⟨by omega, by unfold contrE; omega, by omega, hright, hV, h32⟩, ?_, fun al'' h => ?_, fun c => ?_, hgo, by unfold contrE; exact l2, harc, ?_, fun s => ?_, fun u hu => ?_⟩
  · have h1 := V.contrW_twice (sp := [32]) (ws := fun k => ws.getD k.toNat []) C (n := ws.length) ([] : Str)
    rw [he] at h1
    exact h1
  · rw [← he] at h
    exact (V.contr_twice C h).1
  · rw [← he]
    exact V.contr_paths C c
  · rw [hid]
    refine Nat.le_trans (idxE_allS _ (n := 32) fun x hx => ?_) (by omega)
    obtain ⟨a, ha, _, _, hsa⟩ := (entC_mem _ al x.1 x.2).1 hx
    exact g6 a ha x.2 hsa
  · rw [← joinW_eq, ← joinW_eq]
    exact Vg.spells_eq [32] V C s
  · unfold contrE Vg.contrW at hu
    obtain ⟨k, _, rfl⟩ := List.mem_map.1 hu
    exact Nat.le_trans (accW_small (n := 14) (m := 40) s3 s1 _ _) (by omega)
theorem spell_len24 {ws : List Str} {al : List Vg.Arc} {m : Nat} (hok : Vg.chkG ws al = 0) (h : ∀ u ∈ ws, u.length ≤ m) (s : Int) : (Vg.spellW ws al s).length ≤ al.length ∧ ∀ u ∈ Vg.spellW ws al s, u.length ≤ m := by
  obtain ⟨_, _, _, _, V, _⟩ := Vg.chkG_zero.1 hok
  rw [spell_walk V]
  refine ⟨by rw [List.length_map]; exact walkP_len, fun u hu => ?_⟩
  obtain ⟨k, _, rfl⟩ := List.mem_map.1 hu
  exact getD_len h _
end Go.Proofs.YtjmebijckcimoaaGreatDoor
