/-
  Why two sources cannot be compared: the program's check, the reference's.
-/
import Derived.Test.YtbahddjbncinbaaGreatDoorIx
import Derived.Test.YtbahddjbncinbaaGreatDoorRk
import Derived.Test.YtbahddjbncinbaaGreatDoorPt
namespace Go.Ap
/-- the error of two sources -/
def chkT (xs ys : List Tok) : Int := if 1024 < xs.length ∨ 1024 < ys.length then 4 else if xs.any (fun t => decide (tokC t ≠ 0)) || ys.any (fun t => decide (tokC t ≠ 0)) then 1 else 0
/-- the Norm of a word; none: no word -/
def keyT (t : Tok) : Option Str := if isGap t.flags || isMark t.flags then none else some t.norm
def keysT (l : List Tok) : List (Option Str) := l.map keyT
theorem keysT_len (l : List Tok) : (keysT l).length = l.length := by simp [keysT]
theorem keysT_at {l : List Tok} {k : Nat} {t : Tok} (h : l[k]? = some t) : (keysT l)[k]? = some (keyT t) := by simp [keysT, h]
theorem any_take {α : Type} {p : α → Bool} {l : List α} {k : Nat} {x : α} (h : l[k]? = some x) : (l.take (k + 1)).any p = ((l.take k).any p || p x) := by
  rw [List.take_add_one, h, Option.toList_some, List.any_append]
  simp
theorem any_end {α : Type} {p : α → Bool} {l : List α} {n : Nat} (h : l.length = n) : (l.take n).any p = l.any p := by rw [List.take_of_length_le (by omega)]
theorem any_hit {α : Type} {p : α → Bool} {l : List α} {k : Nat} {x : α} (h : l[k]? = some x) (hx : p x = true) : l.any p = true := List.any_eq_true.2 ⟨x, List.mem_of_getElem? h, hx⟩
theorem chkT_zero {xs ys : List Tok} (h : chkT xs ys = 0) : xs.length ≤ 1024 ∧ ys.length ≤ 1024 ∧ (∀ t ∈ xs, tokC t = 0) ∧ ∀ t ∈ ys, tokC t = 0 := by
  unfold chkT at h
  split at h
  · omega
  · rename_i h1
    split at h
    · omega
    · rename_i h2
      simp only [Bool.or_eq_true, List.any_eq_true, decide_eq_true_eq, not_or, not_exists, not_and, Decidable.not_not] at h2
      exact ⟨by omega, by omega, h2.1, h2.2⟩
theorem chkT_of {xs ys : List Tok} (h1 : xs.length ≤ 1024) (h2 : ys.length ≤ 1024) (h3 : ∀ t ∈ xs, tokC t = 0) (h4 : ∀ t ∈ ys, tokC t = 0) : chkT xs ys = 0 := by
  unfold chkT
  rw [if_neg (by omega), if_neg]
  simp only [Bool.or_eq_true, List.any_eq_true, decide_eq_true_eq, not_or, not_exists, not_and, Decidable.not_not]
  exact ⟨h3, h4⟩
end Go.Ap
namespace Go.Proofs.YtbahddjbncinbaaGreatDoor
open Go.RowKit Go.Ap Go.Shelf Go.Proofs

attribute [local go_sem] Oper.semAt_some bs_toList empty_toList bs_size bs_extract
set_option maxHeartbeats 4000000 in
theorem checkP (xs ys : List Tok) (a1 : Option Addr) (n1 c1 : Nat) (a2 : Option Addr) (n2 c2 : Nat) (w : World) (h1 : Toks w a1 n1 xs) (h2 : Toks w a2 n2 ys) (hv : EV w) :
    Calls Tryz.prog 50 #[.slice a1 n1 c1, .slice a2 n2 c2] w fun e w' => e = .returned (.int .i64 (chkT xs ys)) ∧ Below w.heap.size w w' := by
  have eg := enters_of Tryz.func72 (by kernel_rfl) rfl
  have hl1 := h1.len
  have hl2 := h2.len
  have H1 := Lib.hid (contTok (fun t => decide (tokC t ≠ 0)) a1 n1 c1 xs 72 #[] w h1 eg (fun t _ ht W hb => badTok t W ht (hv.mono (Nat.le_refl _) hb)))
  have H2 := Lib.hid (fun W (hb : Below w.heap.size w W) => contTok (fun t => decide (tokC t ≠ 0)) a2 n2 c2 ys 72 #[] W (Toks.mono h2 (Nat.le_refl _) hb) eg (fun t _ ht W' hb' => badTok t W' ht (hv.mono (Nat.le_refl _) (bstep hb hb'))))
  have HV := Lib.hid (show chkT xs ys = if 1024 < n1 ∨ 1024 < n2 then 4 else if xs.any (fun t => decide (tokC t ≠ 0)) || ys.any (fun t => decide (tokC t ≠ 0)) then 1 else 0 by unfold chkT; rw [hl1, hl2])
  clear h1 h2 hv hl1 hl2
  by_cases g1 : 1024 < n1
  · have d1 : decide ((1024 : Int) < (n1 : Int)) = true := by simp; omega
    have d1' : decide (1024 < n1) = true := by simp; omega
    rw [HV.out, if_pos (.inl g1)]
    clear g1
    go_enter Tryz.func50, Tryz.ntmps50
    go_wp2_with (fail)
    go_ret
    exact ⟨rfl, Below.refl _ _⟩
  · have d1 : decide ((1024 : Int) < (n1 : Int)) = false := by simp; omega
    have d1' : decide (1024 < n1) = false := by simp; omega
    by_cases g2 : 1024 < n2
    · have d2 : decide ((1024 : Int) < (n2 : Int)) = true := by simp; omega
      have d2' : decide (1024 < n2) = true := by simp; omega
      rw [HV.out, if_pos (.inr g2)]
      clear g1 g2
      go_enter Tryz.func50, Tryz.ntmps50
      go_wp2_with (fail)
      go_ret
      exact ⟨rfl, Below.refl _ _⟩
    · have d2 : decide ((1024 : Int) < (n2 : Int)) = false := by simp; omega
      have d2' : decide (1024 < n2) = false := by simp; omega
      rw [HV.out, if_neg (by omega)]
      clear g1 g2
      generalize xs.any (fun t => decide (tokC t ≠ 0)) = b1 at *
      generalize ys.any (fun t => decide (tokC t ≠ 0)) = b2 at *
      go_enter Tryz.func50, Tryz.ntmps50
      go_wp2_with (fail)
      refine H1.out.mono ?_
      rintro e wa ⟨rfl, hba⟩
      have HBA := Lib.hid hba
      clear hba
      cases b1
      · go_wp2_with (fail)
        refine (H2.out _ HBA.out).mono ?_
        rintro e wb ⟨rfl, hbb⟩
        have HBB := Lib.hid (bstep HBA.out hbb)
        clear hbb
        cases b2
        all_goals
          go_wp2_with (fail)
          go_ret
          exact ⟨rfl, HBB.out⟩
      · go_wp2_with (fail)
        go_ret
        exact ⟨rfl, HBA.out⟩
end Go.Proofs.YtbahddjbncinbaaGreatDoor
