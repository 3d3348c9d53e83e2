/-
  strings.Lines and the function that it gives: the lines of a string, one after the other.
-/
import Derived.Test.YtngdmpkoedpgdaaGreatDoorRfL
import Derived.Test.YtngdmpkoedpgdaaGreatDoorGt5
import Derived.Test.YtngdmpkoedpgdaaGreatDoorQ4
import Derived.Lib.IndexLaws
namespace Go.Ap
open Go Go.RowKit
/-- the box of the string that is left is kept -/
def KpB (t : TypeId) (Bx : Nat) (A B : World) : Prop := A.heap.size ≤ B.heap.size ∧ ∀ v, Boxed A Bx t v → Boxed B Bx t v
def StB (t : TypeId) (Bx : Nat) (A B : World) : Prop := ∃ v u, B = A.setCell ⟨Bx, 0, none⟩ v ∧ Boxed A Bx t u
theorem KpB.trans {t : TypeId} {Bx : Nat} {A B C : World} (h : KpB t Bx A B) (k : KpB t Bx B C) : KpB t Bx A C := ⟨Nat.le_trans h.1 k.1, fun v hv => k.2 v (h.2 v hv)⟩
/-- where the next line ends -/
theorem index10 (s : Str) : (Lib.indexByte s 10 = -1 ∧ (10 : UInt8) ∉ s) ∨ ∃ a t, s = a ++ 10 :: t ∧ (10 : UInt8) ∉ a ∧ Lib.indexByte s 10 = (a.length : Nat) := by
  induction s with
  | nil => exact .inl ⟨rfl, by simp⟩
  | cons b l ih =>
    by_cases hb : b = 10
    · subst hb
      exact .inr ⟨[], l, rfl, by simp, by simp [Lib.indexByte]⟩
    · have h1 : Lib.indexByte (b :: l) 10 = if Lib.indexByte l 10 == -1 then -1 else Lib.indexByte l 10 + 1 := by
        rw [Lib.indexByte, if_neg (by simpa using hb)]
      rcases ih with ⟨h2, h3⟩ | ⟨a, t, h2, h3, h4⟩
      · refine .inl ⟨by rw [h1, h2]; rfl, ?_⟩
        rw [List.mem_cons]
        rintro (e | e)
        · exact hb e.symm
        · exact h3 e
      · refine .inr ⟨b :: a, t, by rw [h2]; rfl, ?_, ?_⟩
        · rw [List.mem_cons]
          rintro (e | e)
          · exact hb e.symm
          · exact h3 e
        · rw [h1, h4, if_neg (by rw [beq_iff_eq]; omega), List.length_cons]
          omega
theorem linesL_flat (s : Str) : (linesL s).flatten = s := by
  induction s with
  | nil => rfl
  | cons b s ih =>
    unfold linesL
    split
    · rename_i hb
      rw [List.flatten_cons, ih, hb]
      rfl
    · cases hs : linesL s with
      | nil => rw [linesL_nil hs]; rfl
      | cons p r =>
        rw [hs, List.flatten_cons] at ih
        simp only
        rw [List.flatten_cons, List.cons_append, ih]
theorem mem_flat_len {α : Type} {x : List α} : ∀ {L : List (List α)}, x ∈ L → x.length ≤ L.flatten.length
  | y :: L, h => by
    rw [List.flatten_cons, List.length_append]
    rcases List.mem_cons.1 h with rfl | h
    · omega
    · have := mem_flat_len h
      omega
theorem linesL_mem {s x : Str} (h : x ∈ linesL s) : x.length ≤ s.length := by
  have := mem_flat_len h
  rw [linesL_flat] at this
  exact this
/-- how much is left -/
def boxLen (Bx : Nat) (w : World) : Nat := match w.cell? ⟨Bx, 0, none⟩ with | some (.string s) => s.size | _ => 0
theorem boxLen_of {t : TypeId} {Bx : Nat} {w : World} {s : Str} (h : Boxed w Bx t (.string (bs s))) : boxLen Bx w = s.length := by
  unfold boxLen
  rw [h.cell]
  exact bs_size
def AnsL {α : Type} (J Jx : List α → World → Prop) (t : TypeId) (Bx : Nat) (pre : List α) (x : α) (W : World) (b : Bool) (W' : World) : Prop := (b = true ∧ J (pre ++ [x]) W' ∧ KpB t Bx W W') ∨ (b = false ∧ Jx (pre ++ [x]) W')
end Go.Ap
namespace Go.Proofs.YtngdmpkoedpgdaaGreatDoor
open Go.RowKit Go.Ap Go.Shelf Go.Proofs

attribute [local go_sem] Oper.semAt_some bs_toList empty_toList bs_size bs_extract
set_option maxRecDepth 100000 in
set_option maxHeartbeats 8000000 in
theorem lines_it (s : Str) (m : Nat) (hm : 1 ≤ m) (w : World) (Bx : Nat) (hs : s.length ≤ 65536) (hbx : Boxed w Bx 9 (.string (bs s))) :
    SeqWrites Fence.wide m Tryz.prog 157 #[.pointer (some ⟨Bx, 0, none⟩)] (fun x : {x : Str // x ∈ linesL s} => #[Value.string (bs x.1)]) (KpB 9 Bx) (StB 9 Bx) (fun ys => ys.map (·.1) = linesL s) (fun ys => ys.map (·.1) <+: linesL s) (linesL s).length w := by
  intro l J Jx W hW hJ hJx hSt hKp hY h0
  have HJ := Lib.hid hJ
  have HST := Lib.hid hSt
  have HS := Lib.hid hs
  have HBX0 := Lib.hid (hKp.2 _ hbx)
  have HH0 := Lib.hid h0
  have HY := Lib.hid (show ∀ pre (x : {x : Str // x ∈ linesL s}) W, J pre W → pre.length < (linesL s).length → YieldAt Fence.wide (m - 1) Tryz.prog l #[.string (bs x.1)] W fun en W' => ∃ b, en = .returned (.bool b) ∧ AnsL J Jx 9 Bx pre x W b W' from fun pre x W h1 h2 => (hY pre x W h1 h2).mono fun en W' h => by
    rcases h with ⟨h, h3⟩ | ⟨h, h3⟩
    · exact ⟨true, h, .inl ⟨rfl, h3⟩⟩
    · exact ⟨false, h, .inr ⟨rfl, h3⟩⟩)
  clear hY hJ hSt hKp h0 hbx hJx hs
  refine callsIn_of_wp Tryz.func157 rfl trivial ?_ rfl
  simp only [Tryz.ntmps157, List.size_toArray, List.length_cons, List.length_nil, Nat.reduceAdd, Nat.reduceSub, Array.replicate_succ, Array.replicate_zero, List.push_toArray, List.append_toArray, List.nil_append, List.cons_append]
  gi_wp2
  gi_loopw [3] (fun _ wr => ∃ (pre : List {x : Str // x ∈ linesL s}) (rest : Str), pre.map (·.1) ++ linesL rest = linesL s ∧ J pre wr ∧ Boxed wr Bx 9 (.string (bs rest))) (fun _ wr => boxLen Bx wr)
  case atStart => exact ⟨[], s, rfl, HH0.out, HBX0.out⟩
  case round =>
    obtain ⟨wo, rfl⟩ : ∃ wo : World, wo = wr := ⟨_, rfl⟩
    obtain ⟨pre, rest, hpre, hJp, hbx⟩ := hrel
    have HPRE := Lib.hid hpre
    have HJP := Lib.hid hJp
    have HBX := Lib.hid hbx
    have HLEN := Lib.hid (boxLen_of hbx)
    have g0 := hbx.cell
    have gf := hbx.frozen
    clear hpre hJp hbx
    by_cases hr0 : rest = []
    · subst hr0
      have HZ := Lib.hid (show pre.map (·.1) = linesL s by have := HPRE.out; simpa [linesL] using this)
      gi_wp2_with (fail)
      go_end0
      exact ⟨⟨_, rfl⟩, .inl ⟨pre, HZ.out, HJP.out⟩⟩
    · have hrl : 0 < rest.length := List.length_pos_iff.2 hr0
      have d0 : decide ((0 : Int) < (rest.length : Int)) = true := decide_eq_true (by omega)
      have d0' : decide (0 < rest.length) = true := decide_eq_true hrl
      have HRL := Lib.hid hrl
      have hrs : rest.length ≤ 65536 := by
        have key := congrArg List.flatten HPRE.out
        rw [List.flatten_append, linesL_flat, linesL_flat] at key
        have := congrArg List.length key
        rw [List.length_append] at this
        have := HS.out
        omega
      have HPL := Lib.hid (show pre.length < (linesL s).length by
        have hh := congrArg List.length HPRE.out
        rw [List.length_append, List.length_map] at hh
        have : linesL rest ≠ [] := fun e => hr0 (linesL_nil e)
        have := List.length_pos_iff.2 this
        omega)
      have HI := Lib.hid (Tryz.strings_IndexByte (bs rest) 10 wo)
      rw [show (bs rest).data.toList = rest by simp [bs]] at HI
      rcases index10 rest with ⟨h1, h2⟩ | ⟨a, t, h1, h2, h3⟩
      · rw [show Lib.indexByte rest (Int.toNat 10).toUInt8 = -1 from h1] at HI
        have HLR := Lib.hid (linesL_no h2 hr0)
        have HMEM := Lib.hid (show rest ∈ linesL s from HPRE.out ▸ (by rw [HLR.out]; simp))
        have HB4 := Lib.hid (show Boxed (wo.setCell ⟨Bx, 0, none⟩ (.string { data := #[] })) Bx 9 (.string (bs [])) from HBX.out.set (.string { data := #[] }))
        have HJ4 := Lib.hid (HST.out pre wo (wo.setCell ⟨Bx, 0, none⟩ (.string { data := #[] })) HJP.out ⟨_, _, rfl, HBX.out⟩)
        have HNEXT := Lib.hid (show pre.map (·.1) ++ ([(⟨rest, HMEM.out⟩ : {x : Str // x ∈ linesL s})].map (·.1) ++ linesL []) = linesL s by have := HPRE.out; rw [HLR.out] at this; simpa [linesL] using this)
        clear h1 h2 hr0 hrl hrs
        gi_wp2_with (fail)
        refine ⟨trivial, (callsIn_wide.2 HI.out).mono ?_⟩
        rintro e2 w1 ⟨rfl, rfl⟩
        clear HI
        obtain ⟨fn, tmps, assign, body, hy, hR⟩ := HY.out pre ⟨rest, HMEM.out⟩ _ HJ4.out HPL.out
        gi_wp2_with (refine hR.mono ?_; rintro en W5 ⟨ans, rfl, hans⟩)
        all_goals clear hy hR
        all_goals have HANS := Lib.hid hans
        all_goals clear hans
        all_goals rcases HANS.out with ⟨rfl, hJ3, hk3⟩ | ⟨rfl, hJx3⟩
        all_goals clear HANS
        all_goals first
          | (exfalso; simp_all; done)
          | exact ⟨⟨pre ++ [⟨rest, HMEM.out⟩], [], by rw [List.map_append, List.append_assoc]; exact HNEXT.out, hJ3, hk3.2 _ HB4.out⟩, by rw [boxLen_of (hk3.2 _ HB4.out), HLEN.out]; exact HRL.out⟩
          | exact bodyPost_ret (results_none rfl _ _ _) rfl ⟨⟨_, rfl⟩, .inr ⟨_, ⟨linesL [], by rw [List.map_append, List.append_assoc]; exact HNEXT.out⟩, hJx3⟩⟩
      · rw [show Lib.indexByte rest (Int.toNat 10).toUInt8 = (a.length : Nat) from h3] at HI
        obtain ⟨n, hn⟩ : ∃ n, a.length = n := ⟨_, rfl⟩
        rw [hn] at HI
        have HLR := Lib.hid (show linesL rest = (a ++ [10]) :: linesL t by rw [h1]; exact linesL_app h2)
        have HMEM := Lib.hid (show a ++ [10] ∈ linesL s from HPRE.out ▸ (by rw [HLR.out]; simp))
        have HNEXT := Lib.hid (show pre.map (·.1) ++ ([(⟨a ++ [10], HMEM.out⟩ : {x : Str // x ∈ linesL s})].map (·.1) ++ linesL t) = linesL s by have := HPRE.out; rw [HLR.out] at this; simpa using this)
        have hlt : n + 1 ≤ rest.length := by rw [h1, List.length_append, List.length_cons]; omega
        have k1 : rest.take (n + 1) = a ++ [10] := by rw [h1, ← hn, show a ++ 10 :: t = (a ++ [10]) ++ t by simp, List.take_left' (by simp)]
        have k2 : rest.drop (n + 1) = t := by rw [h1, ← hn, show a ++ 10 :: t = (a ++ [10]) ++ t by simp, List.drop_left' (by simp)]
        have k3 : t.take (rest.length - (n + 1)) = t := by
          rw [List.take_of_length_le]
          have := congrArg List.length k2
          rw [List.length_drop] at this
          omega
        have HTL := Lib.hid (show t.length < rest.length by rw [h1, List.length_append, List.length_cons]; omega)
        have HB4 := Lib.hid (show Boxed (wo.drew.setCell ⟨Bx, 0, none⟩ (.string (bs t))) Bx 9 (.string (bs t)) from Boxed.set (.string (bs t)) (show Boxed wo.drew Bx _ _ from HBX.out))
        have HJ4 := Lib.hid (HST.out pre wo.drew (wo.drew.setCell ⟨Bx, 0, none⟩ (.string (bs t))) (HJ.out _ _ _ none HJP.out ⟨rfl, rfl, rfl, Nat.le_refl _, fun _ _ _ => rfl⟩ (by simp)) ⟨_, _, rfl, show Boxed wo.drew Bx _ _ from HBX.out⟩)
        have d1 : decide ((0 : Int) ≤ (n : Int)) = true := decide_eq_true (by omega)
        have s0 : (0 : Int) ≤ (n : Int) + 1 := by omega
        have s1 : (n : Int) + 1 ≤ (rest.length : Int) := by omega
        have v1 : IntKind.i64.wrap ((n : Int) + 1) = (n : Int) + 1 := IntWalk.i64_in _ (by omega)
        clear h1 h2 h3 hr0 hrl hn
        gi_wp2_with (fail)
        refine ⟨trivial, (callsIn_wide.2 HI.out).mono ?_⟩
        rintro e2 w1 ⟨rfl, rfl⟩
        clear HI
        gi_wp2_with (fail)
        clear g0 gf
        refine wpIn_region_heldA (fun W' => Boxed W' Bx 9 (.string (bs rest))) 9 1 [0, 1, 2, 3, 4, 5, 6, 7, 8] _ (fun _ => trivial) (by kernel_rfl) (by kernel_rfl) rfl rfl (show Boxed w1.drew Bx _ _ from HBX.out) ?_
        iterate 9
          apply wpTakes_consD rfl rfl (by rfl)
          case hy =>
            rintro W' hb'
            have e0 := hb'.cell
            clear hb'
            go_simp
            first | done | with_reducible rfl
          simp only [List.setIfInBounds_toArray, List.set_cons_zero, List.set_cons_succ]
        refine wpTakes_nil ?_
        refine wpAnyR_rest [9] (by kernel_rfl) ?_
        obtain ⟨W4, hW4⟩ : ∃ W, w1.drew.setCell ⟨Bx, 0, none⟩ (.string (bs t)) = W := ⟨_, rfl⟩
        rw [hW4] at HB4 HJ4
        have e0 := show w1.drew.cell? ⟨Bx, 0, none⟩ = some _ from HBX.out.cell
        have f0 := show w1.drew.frozen? ⟨Bx, 0, none⟩ = false from HBX.out.frozen
        refine wpSeqR_cons rfl ?_
        gi_wp2_with (fail)
        refine ⟨fun h => absurd h (by omega), ?_⟩
        refine wpSeqR_nilN ?_
        clear e0 f0
        have HJ5 := Lib.hid HJ4.out
        obtain ⟨fn, tmps, assign, body, hy, hR⟩ := HY.out pre ⟨a ++ [10], HMEM.out⟩ _ HJ4.out HPL.out
        clear hW4
        gi_wp2_with (refine hR.mono ?_; rintro en W5 ⟨ans, rfl, hans⟩)
        all_goals clear hy hR
        all_goals have HANS := Lib.hid hans
        all_goals clear hans
        all_goals rcases HANS.out with ⟨rfl, hJ3, hk3⟩ | ⟨rfl, hJx3⟩
        all_goals clear HANS
        all_goals first
          | (exfalso; simp_all; done)
          | exact ⟨⟨pre ++ [⟨a ++ [10], HMEM.out⟩], t, by rw [List.map_append, List.append_assoc]; exact HNEXT.out, hJ3, hk3.2 _ HB4.out⟩, by rw [boxLen_of (hk3.2 _ HB4.out), HLEN.out]; exact HTL.out⟩
          | exact bodyPost_ret (results_none rfl _ _ _) rfl ⟨⟨_, rfl⟩, .inr ⟨_, ⟨linesL t, by rw [List.map_append, List.append_assoc]; exact HNEXT.out⟩, hJx3⟩⟩
end Go.Proofs.YtngdmpkoedpgdaaGreatDoor
