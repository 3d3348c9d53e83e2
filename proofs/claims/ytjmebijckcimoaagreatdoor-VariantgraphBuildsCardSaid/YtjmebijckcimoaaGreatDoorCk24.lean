/-
 Check (program).
-/
import Derived.Test.YtjmebijckcimoaaGreatDoorVgk
import Derived.Test.YtjmebijckcimoaaGreatDoorSt24
import Derived.Test.YtjmebijckcimoaaGreatDoorAr
import Derived.Test.YtjmebijckcimoaaGreatDoorCn24
import Derived.Test.YtjmebijckcimoaaGreatDoorCl24

namespace Go.Proofs.YtjmebijckcimoaaGreatDoor
open Go.RowKit Go.Ap Go.Shelf Go.Proofs

attribute [local go_sem] Oper.semAt_some bs_toList empty_toList bs_size bs_extract
/-- a box that holds a graph -/
structure BoxG (W : World) (b : Nat) (a1 : Option Addr) (n1 c1 : Nat) (a2 : Option Addr) (n2 c2 : Nat) : Prop where
 k0 : W.cell? ⟨b, 0, none⟩ = some (.slice a1 n1 c1)
 k1 : W.cell? ⟨b, 1, none⟩ = some (.slice a2 n2 c2)
section
variable {W W' : World} {b : Nat} {a1 : Option Addr} {n1 c1 : Nat} {a2 : Option Addr} {n2 c2 : Nat}
theorem BoxG.below (h : BoxG W b a1 n1 c1 a2 n2 c2) (hb : Below W.heap.size W W') : BoxG W' b a1 n1 c1 a2 n2 c2 := ⟨cell_keep hb h.k0, cell_keep hb h.k1⟩
theorem BoxG.far {B : Nat} (h : BoxG W b a1 n1 c1 a2 n2 c2) (hb : Below B W W') (hl : b < B) : BoxG W' b a1 n1 c1 a2 n2 c2 :=
 ⟨by have := h.k0; unfold World.cell? at this ⊢; rwa [hb.block b hl], by have := h.k1; unfold World.cell? at this ⊢; rwa [hb.block b hl]⟩
theorem BoxG.new (w : World) (a1 : Option Addr) (n1 c1 : Nat) (a2 : Option Addr) (n2 c2 : Nat) : BoxG (w.alloc (.cells #[.slice a1 n1 c1, .slice a2 n2 c2] 31)) w.heap.size a1 n1 c1 a2 n2 c2 :=
 ⟨cell_fresh rfl rfl, cell_fresh rfl rfl⟩
end
theorem chk_small {ws : List Str} {al : List Vg.Arc} (h : ws.length < 2) : Vg.chkG ws al = 5 := by unfold Vg.chkG; rw [if_pos h]
theorem chk_words {ws : List Str} {al : List Vg.Arc} (h : ¬ws.length < 2) (h2 : ws.length ≤ 4096) (h3 : al.length ≤ 65536) (hw : ¬Vg.wordsOk ws) : Vg.chkG ws al = 1 := by
 unfold Vg.chkG; rw [if_neg h, if_neg (by omega), if_pos hw]
theorem chk_arcs {ws : List Str} {al : List Vg.Arc} (h : ¬ws.length < 2) (h2 : ws.length ≤ 4096) (h3 : al.length ≤ 65536) (hw : Vg.wordsOk ws) (ha : Vg.arcsGo ws.length none al ≠ 0) : Vg.chkG ws al = Vg.arcsGo ws.length none al := by
 unfold Vg.chkG; rw [if_neg h, if_neg (by omega), if_neg (fun h => h hw), if_pos ha]
theorem chk_flows {ws : List Str} {al : List Vg.Arc} (h : ¬ws.length < 2) (h2 : ws.length ≤ 4096) (h3 : al.length ≤ 65536) (hw : Vg.wordsOk ws) (ha : Vg.arcsGo ws.length none al = 0) (hf : Vg.Flows ((ws.length : Int) - 1) al) : Vg.chkG ws al = 0 := by
 unfold Vg.chkG; rw [if_neg h, if_neg (by omega), if_neg (fun h => h hw), if_neg (fun h => h ha), if_pos hf]
theorem chk_conflict {ws : List Str} {al : List Vg.Arc} (h : ¬ws.length < 2) (h2 : ws.length ≤ 4096) (h3 : al.length ≤ 65536) (hw : Vg.wordsOk ws) (ha : Vg.arcsGo ws.length none al = 0) (hf : ¬Vg.Flows ((ws.length : Int) - 1) al) : Vg.chkG ws al = 17 := by
 unfold Vg.chkG; rw [if_neg h, if_neg (by omega), if_neg (fun h => h hw), if_neg (fun h => h ha), if_neg hf]
/-- the ends of the arc before -/
def prevE (al : List Vg.Arc) (i : Nat) : Option Vg.En := if i = 0 then none else (al[i - 1]?).map (·.1)
theorem prevE_succ {al : List Vg.Arc} {i : Nat} {x : Vg.Arc} (h : al[i]? = some x) : prevE al (i + 1) = some x.1 := by
 unfold prevE
 rw [if_neg (Nat.succ_ne_zero i), Nat.add_sub_cancel, h]
 rfl
theorem arcs_step {n : Int} {al : List Vg.Arc} {i : Nat} {x : Vg.Arc} (h : al[i]? = some x) : Vg.arcsGo n (prevE al i) (al.drop i) = if Vg.arcC n (prevE al i) x ≠ 0 then Vg.arcC n (prevE al i) x else Vg.arcsGo n (prevE al (i + 1)) (al.drop (i + 1)) := by
 obtain ⟨hl, rfl⟩ := List.getElem?_eq_some_iff.1 h
 rw [List.drop_eq_getElem_cons hl, Vg.arcsGo, prevE_succ h]
theorem arcC_range {n f t : Int} {p : Option Vg.En} {src : List Int} (h : f < 0 ∨ n ≤ f ∨ t < 0 ∨ n ≤ t) : Vg.arcC n p ((f, t), src) = 2 := if_pos h
theorem arcC_order {n f t : Int} {p : Option Vg.En} {src : List Int} (h : ¬(f < 0 ∨ n ≤ f ∨ t < 0 ∨ n ≤ t)) (h2 : t ≤ f ∨ ∃ q, p = some q ∧ ¬Vg.ltE q (f, t)) : Vg.arcC n p ((f, t), src) = 10 := by
 unfold Vg.arcC; rw [if_neg h, if_pos h2]
theorem arcC_arg {n f t : Int} {p : Option Vg.En} {src : List Int} (h : ¬(f < 0 ∨ n ≤ f ∨ t < 0 ∨ n ≤ t)) (h2 : ¬(t ≤ f ∨ ∃ q, p = some q ∧ ¬Vg.ltE q (f, t))) (h3 : src = [] ∨ Vg.setGo none src ≠ 0 ∨ 32 ≤ src.getLastD 0) : Vg.arcC n p ((f, t), src) = 1 := by
 unfold Vg.arcC; rw [if_neg h, if_neg h2, if_pos h3]
theorem arcC_ok {n f t : Int} {p : Option Vg.En} {src : List Int} (h : ¬(f < 0 ∨ n ≤ f ∨ t < 0 ∨ n ≤ t)) (h2 : ¬(t ≤ f ∨ ∃ q, p = some q ∧ ¬Vg.ltE q (f, t))) (h3 : ¬(src = [] ∨ Vg.setGo none src ≠ 0 ∨ 32 ≤ src.getLastD 0)) : Vg.arcC n p ((f, t), src) = 0 := by
 unfold Vg.arcC; rw [if_neg h, if_neg h2, if_neg h3]
theorem last_nth {src : List Int} (_ : src ≠ []) : src.getLastD 0 = nth src (src.length - 1) := by
 rw [List.getLastD_eq_getLast?, List.getLast?_eq_getElem?]
 unfold nth
 rfl
set_option maxRecDepth 100000 in
set_option maxHeartbeats 8000000 in
theorem checkP (ws : List Str) (al : List Vg.Arc) (a1 : Option Addr) (n1 c1 : Nat) (a2 : Option Addr) (n2 c2 : Nat) (w : World) (h : GraphM w a1 n1 a2 n2 ws al) (hn1 : n1 ≤ 4096) (hn2 : n2 ≤ 65536) :
 Calls Tryz.prog 22 #[graphV a1 n1 c1 a2 n2 c2] w fun e w' => e = .returned (.int .i64 (Vg.chkG ws al)) ∧ Below w.heap.size w w' := by
 have hl1 := h.words.len
 have hl2 := h.arcs.len
 have HL1 := Lib.hid hl1
 have HL2 := Lib.hid hl2
 have HB4 := Lib.hid (balloc w (.cells #[.slice a1 n1 c1, .slice a2 n2 c2] 31))
 have HBX := Lib.hid (BoxG.new w a1 n1 c1 a2 n2 c2)
 have HH := Lib.hid (h.mono (Nat.le_refl _) HB4.out)
 by_cases h2 : n1 < 2
 · rw [chk_small (by rw [hl1]; exact h2)]
   have d0 : (n1 : Int) < 2 := by omega
   clear h hl1 hl2
   unfold graphV
   go_enter Tryz.func22, Tryz.ntmps22
   obtain ⟨k0, k1⟩ := HBX.out
   go_wp2_with (fail)
   go_ret
   exact ⟨rfl, HB4.out⟩
 · have HR1 := Lib.hid (chk_words (ws := ws) (al := al) (by rw [hl1]; exact h2) (by rw [hl1]; exact hn1) (by rw [hl2]; exact hn2))
   have HR2 := Lib.hid (chk_arcs (ws := ws) (al := al) (by rw [hl1]; exact h2) (by rw [hl1]; exact hn1) (by rw [hl2]; exact hn2))
   have HR3 := Lib.hid (chk_flows (ws := ws) (al := al) (by rw [hl1]; exact h2) (by rw [hl1]; exact hn1) (by rw [hl2]; exact hn2))
   have HR4 := Lib.hid (chk_conflict (ws := ws) (al := al) (by rw [hl1]; exact h2) (by rw [hl1]; exact hn1) (by rw [hl2]; exact hn2))
   obtain ⟨R, hR⟩ : ∃ R, Vg.chkG ws al = R := ⟨_, rfl⟩
   rw [hR] at HR1 HR2 HR3 HR4 ⊢
   rw [hl1] at HR2 HR3 HR4
   obtain ⟨G, hG⟩ : ∃ G, Vg.arcsGo n1 none al = G := ⟨_, rfl⟩
   rw [hG] at HR2 HR3 HR4
   have HG := Lib.hid hG
   have d0 : ¬((n1 : Int) < 2) := by omega
   have d1 : 2 ≤ n1 := by omega
   clear h hl1 hl2 hR hG
   unfold graphV
   go_enter Tryz.func22, Tryz.ntmps22
   obtain ⟨k0, k1⟩ := HBX.out
   go_wp2_with (fail)
   go_loop [37] (fun iv => ∃ i : Nat, i ≤ n1 ∧ iv = .int .i64 i ∧ ∀ (j : Nat) (hj : j < ws.length), j < i → (ws[j] = [] ↔ j = 0 ∨ j + 1 = ws.length)) (fun iv => n1 - (intOf iv).toNat)
   case atStart => exact ⟨0, Nat.zero_le _, rfl, fun j _ hj => absurd hj (Nat.not_lt_zero _)⟩
   case round =>
    obtain ⟨i, hi, rfl, hw⟩ := hrel
    have HW := Lib.hid hw
    clear hw
    by_cases hin : i < n1
    · obtain ⟨u, b3, o3, v3, hu, rfl, hc, rfl⟩ := Sl.at HH.out.words hin
      have HU := Lib.hid (List.getElem?_eq_some_iff.1 hu)
      have i1 : (i : Int) < (n1 : Int) := by omega
      -- leaves of loop 1
      replace hc : (w.alloc (.cells #[.slice (some ⟨b3, o3, none⟩) n1 c1, .slice a2 n2 c2] 31)).cell? ⟨b3, o3 + i, none⟩ = some (.string (bs u)) := hc
      clear hu
      by_cases hbu : u = []
      · have e2 : (u == []) = true := by simp [hbu]
        have e3 : u.isEmpty = true := by simp [hbu]
        by_cases hb0 : i = 0
        · obtain rfl := hb0
          rw [Nat.add_zero] at hc
          have e1 : ¬((0 : Int) = (n1 : Int) - 1) := by omega
          have HOK := Lib.hid (show (u = [] ↔ 0 = 0 ∨ 0 + 1 = n1) by simp [hbu])
          have HI := Lib.hid hi
          clear hi h2 hbu
          go_wp2_with (fail)
          refine ⟨⟨0 + 1, by omega, by simp <;> omega, fun j hj hji => ?_⟩, by simp [intOf]; omega⟩
          rcases Nat.lt_or_eq_of_le (Nat.le_of_lt_succ hji) with hlt | rfl
          · exact HW.out j hj hlt
          · rw [HU.out.2, HL1.out]; simpa using HOK.out
        · have e0 : ¬((i : Int) = 0) := by omega
          by_cases hb1 : i + 1 = n1
          · have e1 : (i : Int) = (n1 : Int) - 1 := by omega
            have HOK := Lib.hid (show (u = [] ↔ i = 0 ∨ i + 1 = n1) by simp [hbu, hb1])
            have HI := Lib.hid hi
            have e4 : ((i : Int) == 0) = false := beq_eq_false_iff_ne.2 e0
            have hc1 := hc
            rw [show i = n1 - 1 by omega] at hc1
            clear hi h2 hbu
            go_wp2_with (fail)
            refine ⟨⟨i + 1, by omega, by simp <;> omega, fun j hj hji => ?_⟩, by simp [intOf]; omega⟩
            rcases Nat.lt_or_eq_of_le (Nat.le_of_lt_succ hji) with hlt | rfl
            · exact HW.out j hj hlt
            · rw [HU.out.2, HL1.out]; simpa using HOK.out
          · have e1 : ¬((i : Int) = (n1 : Int) - 1) := by omega
            have HOK := Lib.hid (show ¬(u = [] ↔ i = 0 ∨ i + 1 = n1) by simp [hbu, hb0, hb1])
            have HI := Lib.hid hi
            have e4 : ((i : Int) == 0) = false := beq_eq_false_iff_ne.2 e0
            have e5 : ((i : Int) == (n1 : Int) - 1) = false := beq_eq_false_iff_ne.2 e1
            clear hi h2 hbu
            go_wp2_with (fail)
            go_ret
            refine ⟨ret_i (HR1.out fun hall => HOK.out ?_).symm, HB4.out⟩
            have := hall i HU.out.1
            rw [HU.out.2, HL1.out] at this
            simpa using this
      · have e2 : (u == []) = false := by cases u with | nil => exact absurd rfl hbu | cons => rfl
        have e3 : u.isEmpty = false := by cases u with | nil => exact absurd rfl hbu | cons => rfl
        by_cases hb0 : i = 0
        · obtain rfl := hb0
          rw [Nat.add_zero] at hc
          have e1 : ¬((0 : Int) = (n1 : Int) - 1) := by omega
          have HOK := Lib.hid (show ¬(u = [] ↔ 0 = 0 ∨ 0 + 1 = n1) by simp [hbu])
          have HI := Lib.hid hi
          clear hi h2 hbu
          go_wp2_with (fail)
          go_ret
          refine ⟨ret_i (HR1.out fun hall => HOK.out ?_).symm, HB4.out⟩
          have := hall 0 HU.out.1
          rw [HU.out.2, HL1.out] at this
          simpa using this
        · have e0 : ¬((i : Int) = 0) := by omega
          by_cases hb1 : i + 1 = n1
          · have e1 : (i : Int) = (n1 : Int) - 1 := by omega
            have HOK := Lib.hid (show ¬(u = [] ↔ i = 0 ∨ i + 1 = n1) by simp [hbu, hb1])
            have HI := Lib.hid hi
            have e4 : ((i : Int) == 0) = false := beq_eq_false_iff_ne.2 e0
            have hc1 := hc
            rw [show i = n1 - 1 by omega] at hc1
            clear hi h2 hbu
            go_wp2_with (fail)
            go_ret
            refine ⟨ret_i (HR1.out fun hall => HOK.out ?_).symm, HB4.out⟩
            have := hall i HU.out.1
            rw [HU.out.2, HL1.out] at this
            simpa using this
          · have e1 : ¬((i : Int) = (n1 : Int) - 1) := by omega
            have HOK := Lib.hid (show (u = [] ↔ i = 0 ∨ i + 1 = n1) by simp [hbu, hb0, hb1])
            have HI := Lib.hid hi
            have e4 : ((i : Int) == 0) = false := beq_eq_false_iff_ne.2 e0
            have e5 : ((i : Int) == (n1 : Int) - 1) = false := beq_eq_false_iff_ne.2 e1
            clear hi h2 hbu
            go_wp2_with (fail)
            refine ⟨⟨i + 1, by omega, by simp <;> omega, fun j hj hji => ?_⟩, by simp [intOf]; omega⟩
            rcases Nat.lt_or_eq_of_le (Nat.le_of_lt_succ hji) with hlt | rfl
            · exact HW.out j hj hlt
            · rw [HU.out.2, HL1.out]; simpa using HOK.out
    · -- behind loop 1
      obtain rfl : n1 = i := by omega
      have HWK := Lib.hid (show Vg.wordsOk ws from fun j hj => HW.out j hj (by have := HL1.out; omega))
      have HRA := Lib.hid (HR2.out HWK.out)
      have HRB := Lib.hid (HR3.out HWK.out)
      have HRC := Lib.hid (HR4.out HWK.out)
      clear HR1 HR2 HR3 HR4 HW HWK hi hin
      obtain ⟨W0, hW0⟩ : ∃ W, w.alloc (.cells #[.slice a1 n1 c1, .slice a2 n2 c2] 31) = W := ⟨_, rfl⟩
      rw [hW0] at HB4 HBX HH k0 k1 ⊢
      clear hW0
      go_wp2_with (fail)
      clear k0 k1
      go_loopw [57] (fun iv wr => ∃ i : Nat, i ≤ n2 ∧ iv = .int .i64 i ∧ Vg.arcsGo n1 (prevE al i) (al.drop i) = G ∧ Below W0.heap.size W0 wr) (fun iv _ => n2 - (intOf iv).toNat)
      case atStart => exact ⟨0, Nat.zero_le _, rfl, HG.out, Below.refl _ _⟩
      case round =>
       obtain ⟨wi, rfl⟩ : ∃ wi : World, wi = wr := ⟨_, rfl⟩
       obtain ⟨i, hi, rfl, hg, hb⟩ := hrel
       have HB := Lib.hid hb
       have HI := Lib.hid hi
       by_cases hin : i < n2
       · obtain ⟨x, b, off, a5, k5, hx, rfl, p0, p1, p2, hs⟩ := (HH.out.arcs.mono (Nat.le_refl _) hb).at hin
         have HPV := Lib.hid (show ∀ j, i = j + 1 → ∃ y a6 k6 m6, prevE al i = some y ∧ wi.cell? ⟨b, off + j * 3, none⟩ = some (.int .i64 y.1) ∧ wi.cell? ⟨b, off + j * 3 + 1, none⟩ = some (.int .i64 y.2) ∧ wi.cell? ⟨b, off + j * 3 + 2, none⟩ = some (.slice a6 m6 k6) from fun j hj => by
          subst hj
          obtain ⟨y, b', off', a6, k6, hy, he, q0, q1, q2, _⟩ := (HH.out.arcs.mono (Nat.le_refl _) hb).at (show j < n2 by omega)
          cases he
          exact ⟨y.1, a6, k6, _, prevE_succ hy, q0, q1, q2⟩)
         have HPZ := Lib.hid (show i = 0 → prevE al i = none from fun h => if_pos h)
         obtain ⟨⟨f, t⟩, src⟩ := x
         simp only at p0 p1 p2
         have HSI := Lib.hid (show Ints wi a5 src.length src from hs.src)
         obtain ⟨V, hV⟩ : ∃ V, Vg.arcC n1 (prevE al i) ((f, t), src) = V := ⟨_, rfl⟩
         rw [arcs_step hx, hV] at hg
         have HGB := Lib.hid (show V ≠ 0 → R = V from fun hne => by
          rw [if_pos hne] at hg
          rw [HRA.out (by rw [← hg]; exact hne), hg])
         have HGN := Lib.hid (show V = 0 → Vg.arcsGo n1 (prevE al (i + 1)) (al.drop (i + 1)) = G from fun he => by
          rwa [if_neg (by simp [he])] at hg)
         have HV := Lib.hid hV
         obtain ⟨m5, hm5⟩ : ∃ m, src.length = m := ⟨_, rfl⟩
         rw [hm5] at HSI p2
         have HM5 := Lib.hid hm5
         obtain ⟨X, hX⟩ : ∃ X, wi.heap.size = X := ⟨_, rfl⟩
         have K := Lib.hid (show BlkK (wi.alloc (.cells #[.int .i64 f, .int .i64 t, .slice a5 m5 k5] 48)) X #[.int .i64 f, .int .i64 t, .slice a5 m5 k5] 48 by rw [← hX]; exact BlkK.new wi _ _)
         have HB2 := Lib.hid (bstep hb (balloc wi (.cells #[.int .i64 f, .int .i64 t, .slice a5 m5 k5] 48)))
         have HBA := Lib.hid (balloc wi (.cells #[.int .i64 f, .int .i64 t, .slice a5 m5 k5] 48))
         obtain ⟨WA, hWA⟩ : ∃ W, wi.alloc (.cells #[.int .i64 f, .int .i64 t, .slice a5 m5 k5] 48) = W := ⟨_, rfl⟩
         rw [hWA] at K HB2 HBA
         have x0 := K.out.cell (i := 0) (u := .int .i64 f) rfl
         have x1 := K.out.cell (i := 1) (u := .int .i64 t) rfl
         have i1 : (i : Int) < (n2 : Int) := by omega
         clear hx hg hs hm5 hV hb hi
         by_cases hr : f < 0 ∨ (n1 : Int) ≤ f ∨ t < 0 ∨ (n1 : Int) ≤ t
         · have HRR := Lib.hid (HGB.out (by rw [← HV.out, arcC_range hr]; decide))
           rw [← HV.out, arcC_range hr] at HRR
           rcases hr with r1 | hr
           · go_wp2_with (fail)
             go_ret
             exact ⟨ret_i HRR.out.symm, bstep HB4.out HB2.out⟩
           · by_cases r1 : f < 0
             · go_wp2_with (fail)
               go_ret
               exact ⟨ret_i HRR.out.symm, bstep HB4.out HB2.out⟩
             rcases hr with r2 | hr
             · go_wp2_with (fail)
               go_ret
               exact ⟨ret_i HRR.out.symm, bstep HB4.out HB2.out⟩
             · by_cases r2 : (n1 : Int) ≤ f
               · go_wp2_with (fail)
                 go_ret
                 exact ⟨ret_i HRR.out.symm, bstep HB4.out HB2.out⟩
               by_cases r3 : t < 0
               · go_wp2_with (fail)
                 go_ret
                 exact ⟨ret_i HRR.out.symm, bstep HB4.out HB2.out⟩
               · have r4 : (n1 : Int) ≤ t := by omega
                 go_wp2_with (fail)
                 go_ret
                 exact ⟨ret_i HRR.out.symm, bstep HB4.out HB2.out⟩
         · have HNR := Lib.hid hr
           have r1 : ¬(f < 0) := by omega
           have r2 : ¬((n1 : Int) ≤ f) := by omega
           have r3 : ¬(t < 0) := by omega
           have r4 : ¬((n1 : Int) ≤ t) := by omega
           clear hr
           go_wp2_with (fail)
           clear x0 x1 r1 r2 r3 r4 p0 p1 p2
           have HX0 := Lib.hid K.out.drew
           by_cases hft : t ≤ f
           · have HFT := Lib.hid hft
             have HSX := Lib.hid (show BlkK WA.drew X #[.int .i64 f, .int .i64 t, .slice a5 m5 k5] 48 from HX0.out)
             refine (wpIn_wide (n := 20)).1 ?_
             refine wpIn_region_planM (fun W' => BlkK W' X #[.int .i64 f, .int .i64 t, .slice a5 m5 k5] 48) 21 (.take 0 <| .take 1 <| .take 2 <| .take 3 <| .take 4 <| .take 5 <| .take 6 <| .take 7 <| .take 8 <| .take 9 <| .take 10 <| .take 11 <| .take 12 <| .take 13 <| .take 14 <| .take 15 <| .one 16 <| .take 17 <| .take 18 <| .take 19 <| .take 20 <| .fin) (fun _ => trivial) (by kernel_rfl) (by kernel_rfl) (HX0.out) ?_
             apply pm_take rfl rfl (by rfl)
             case hy =>
              rintro W' hb'
              clear hb'
              go_simp
              first | done | with_reducible rfl
             simp only [List.setIfInBounds_toArray, List.set_cons_zero, List.set_cons_succ]
             apply pm_take rfl rfl (by rfl)
             case hy =>
              rintro W' hb'
              have x0 : W'.cell? ⟨X, 0, none⟩ = some (.int .i64 f) := hb'.cell (i := 0) rfl
              have x1 : W'.cell? ⟨X, 1, none⟩ = some (.int .i64 t) := hb'.cell (i := 1) rfl
              clear hb'
              go_simp
              first | done | with_reducible rfl
             simp only [List.setIfInBounds_toArray, List.set_cons_zero, List.set_cons_succ]
             apply pm_take rfl rfl (by rfl)
             case hy =>
              rintro W' hb'
              clear hb'
              go_simp
              first | done | with_reducible rfl
             simp only [List.setIfInBounds_toArray, List.set_cons_zero, List.set_cons_succ]
             apply pm_take rfl rfl (by rfl)
             case hy =>
              rintro W' hb'
              have x0 : W'.cell? ⟨X, 0, none⟩ = some (.int .i64 f) := hb'.cell (i := 0) rfl
              have x1 : W'.cell? ⟨X, 1, none⟩ = some (.int .i64 t) := hb'.cell (i := 1) rfl
              clear hb'
              go_simp
              first | done | with_reducible rfl
             simp only [List.setIfInBounds_toArray, List.set_cons_zero, List.set_cons_succ]
             iterate 2
              apply pm_take rfl rfl (by rfl)
              case hy =>
               rintro W' hb'
               clear hb'
               go_simp
               first | done | with_reducible rfl
              simp only [List.setIfInBounds_toArray, List.set_cons_zero, List.set_cons_succ]
             iterate 3
              apply pm_no (j := 5) (t := 89) (b := true) (c := false) rfl rfl rfl rfl rfl (by simp) rfl
              simp only [List.setIfInBounds_toArray, List.set_cons_zero, List.set_cons_succ]
             iterate 7
              apply pm_un (j := 8) (t := 92) rfl rfl rfl rfl rfl (by simp)
              simp only [List.setIfInBounds_toArray, List.set_cons_zero, List.set_cons_succ]
             refine pm_one rfl ?_
             gi_wp2_with (fail)
             all_goals first | (exfalso; cases ‹some undef = some (Value.bool _)›; done) | skip
             rename_i ax xo ho
             refine ⟨trivial, ax _ _ ?_⟩
             gi_wp2_with (fail)
             refine ⟨fun _ => HSX.out, ?_⟩
             apply pm_un (j := 8) (t := 92) rfl rfl rfl rfl rfl (by simp)
             simp only [List.setIfInBounds_toArray, List.set_cons_zero, List.set_cons_succ]
             apply pm_no (j := 5) (t := 89) (b := true) (c := false) rfl rfl rfl rfl rfl (by simp) rfl
             simp only [List.setIfInBounds_toArray, List.set_cons_zero, List.set_cons_succ]
             iterate 2
              apply pm_take rfl rfl (by rfl)
              case hy =>
               rintro W' hb'
               clear hb'
               go_simp
               first | done | with_reducible rfl
              simp only [List.setIfInBounds_toArray, List.set_cons_zero, List.set_cons_succ]
             refine pm_fin ?_
             gi_wp2_with (fail)
             go_wp2_with (fail)
             go_ret
             have hV := HV.out
             rw [arcC_order HNR.out (.inl hft)] at hV
             exact ⟨ret_i (by rw [HGB.out (by rw [← hV]; decide), hV]), bstep HB4.out (below_drew' HB2.out)⟩
           · by_cases hi0 : i = 0
             · have HN2 := Lib.hid (show ¬(t ≤ f ∨ ∃ q, prevE al i = some q ∧ ¬Vg.ltE q (f, t)) by rw [HPZ.out hi0]; simp; omega)
               have i0 : ¬((0 : Int) < (i : Int)) := by omega
               have HSX := Lib.hid (show BlkK WA.drew X #[.int .i64 f, .int .i64 t, .slice a5 m5 k5] 48 from HX0.out)
               refine (wpIn_wide (n := 20)).1 ?_
               refine wpIn_region_planM (fun W' => BlkK W' X #[.int .i64 f, .int .i64 t, .slice a5 m5 k5] 48) 21 (.take 0 <| .take 1 <| .take 2 <| .take 3 <| .take 4 <| .take 5 <| .take 6 <| .take 7 <| .take 8 <| .take 9 <| .take 10 <| .take 11 <| .take 12 <| .take 13 <| .take 14 <| .take 15 <| .one 16 <| .take 17 <| .take 18 <| .take 19 <| .take 20 <| .fin) (fun _ => trivial) (by kernel_rfl) (by kernel_rfl) (HX0.out) ?_
               apply pm_take rfl rfl (by rfl)
               case hy =>
                rintro W' hb'
                clear hb'
                go_simp
                first | done | with_reducible rfl
               simp only [List.setIfInBounds_toArray, List.set_cons_zero, List.set_cons_succ]
               apply pm_take rfl rfl (by rfl)
               case hy =>
                rintro W' hb'
                have x0 : W'.cell? ⟨X, 0, none⟩ = some (.int .i64 f) := hb'.cell (i := 0) rfl
                have x1 : W'.cell? ⟨X, 1, none⟩ = some (.int .i64 t) := hb'.cell (i := 1) rfl
                clear hb'
                go_simp
                first | done | with_reducible rfl
               simp only [List.setIfInBounds_toArray, List.set_cons_zero, List.set_cons_succ]
               apply pm_take rfl rfl (by rfl)
               case hy =>
                rintro W' hb'
                clear hb'
                go_simp
                first | done | with_reducible rfl
               simp only [List.setIfInBounds_toArray, List.set_cons_zero, List.set_cons_succ]
               apply pm_take rfl rfl (by rfl)
               case hy =>
                rintro W' hb'
                have x0 : W'.cell? ⟨X, 0, none⟩ = some (.int .i64 f) := hb'.cell (i := 0) rfl
                have x1 : W'.cell? ⟨X, 1, none⟩ = some (.int .i64 t) := hb'.cell (i := 1) rfl
                clear hb'
                go_simp
                first | done | with_reducible rfl
               simp only [List.setIfInBounds_toArray, List.set_cons_zero, List.set_cons_succ]
               iterate 2
                apply pm_take rfl rfl (by rfl)
                case hy =>
                 rintro W' hb'
                 clear hb'
                 go_simp
                 first | done | with_reducible rfl
                simp only [List.setIfInBounds_toArray, List.set_cons_zero, List.set_cons_succ]
               iterate 3
                apply pm_gd (j := 5) (t := 89) (b := false) (c := false) rfl rfl rfl rfl rfl (by simp) rfl
                case hy =>
                 rintro W' hb'
                 clear hb'
                 go_simp
                 first | done | with_reducible rfl
                simp only [List.setIfInBounds_toArray, List.set_cons_zero, List.set_cons_succ]
               iterate 7
                apply pm_no (j := 8) (t := 92) (b := false) (c := true) rfl rfl rfl rfl rfl (by simp) rfl
                simp only [List.setIfInBounds_toArray, List.set_cons_zero, List.set_cons_succ]
               refine pm_one rfl ?_
               gi_wp2_with (fail)
               rename_i ax
               refine ⟨trivial, ax _ _ ?_⟩
               gi_wp2_with (fail)
               refine ⟨fun _ => HSX.out, ?_⟩
               apply pm_no (j := 8) (t := 92) (b := false) (c := true) rfl rfl rfl rfl rfl (by simp) rfl
               simp only [List.setIfInBounds_toArray, List.set_cons_zero, List.set_cons_succ]
               apply pm_gd (j := 5) (t := 89) (b := false) (c := false) rfl rfl rfl rfl rfl (by simp) rfl
               case hy =>
                rintro W' hb'
                clear hb'
                go_simp
                first | done | with_reducible rfl
               simp only [List.setIfInBounds_toArray, List.set_cons_zero, List.set_cons_succ]
               iterate 2
                apply pm_take rfl rfl (by rfl)
                case hy =>
                 rintro W' hb'
                 clear hb'
                 go_simp
                 first | done | with_reducible rfl
                simp only [List.setIfInBounds_toArray, List.set_cons_zero, List.set_cons_succ]
               refine pm_fin ?_
               have HSX := Lib.hid (show BlkK WA.drew X #[.int .i64 f, .int .i64 t, .slice a5 m5 k5] 48 ∧ Below WA.heap.size WA WA.drew from ⟨HX0.out, bdrewN WA 1⟩)
               generalize WA.drew = W6 at HSX ⊢
               gi_wp2_with (fail)
               have x2 : W6.cell? ⟨X, 2, none⟩ = some (.slice a5 m5 k5) := HSX.out.1.cell (i := 2) rfl
               have HB6 := Lib.hid (bstep HB2.out HSX.out.2)
               have HI6 := Lib.hid (show Ints W6 a5 m5 src from HSI.out.mono (Nat.le_refl _) (bstep HBA.out HSX.out.2))
               have hsm := HI6.out.small
               by_cases hs0 : m5 = 0
               · have hV := HV.out
                 rw [arcC_arg HNR.out HN2.out (.inl (List.eq_nil_of_length_eq_zero (by rw [HM5.out]; exact hs0)))] at hV
                 have HRR := Lib.hid (show R = 1 by rw [HGB.out (by rw [← hV]; decide), hV])
                 have hs1 : (m5 : Int) = 0 := by omega
                 clear hV
                 go_wp2_with (fail)
                 go_ret
                 exact ⟨ret_i HRR.out.symm, bstep HB4.out HB6.out⟩
               · have hs1 : ¬((m5 : Int) = 0) := by omega
                 have hs2 : ((m5 : Int) == 0) = false := beq_eq_false_iff_ne.2 hs1
                 have HSN := Lib.hid (show src ≠ [] from fun h => hs0 (by rw [← HM5.out, h]; rfl))
                 have HSP := Lib.hid (setP a5 m5 k5 src W6 HI6.out)
                 obtain ⟨q, hq⟩ : ∃ q, Vg.setGo none src = q := ⟨_, rfl⟩
                 rw [hq] at HSP
                 have HQ := Lib.hid hq
                 obtain ⟨b5, o5, hae, hc5⟩ := HI6.out.at (by omega)
                 have cl := hc5 (m5 - 1) (by omega)
                 subst hae
                 obtain ⟨z, hz⟩ : ∃ z, nth src (m5 - 1) = z := ⟨_, rfl⟩
                 rw [hz] at cl
                 have HZ := Lib.hid (show src.getLastD 0 = z by rw [last_nth HSN.out, HM5.out, hz])
                 have hm1 : 1 ≤ m5 := by omega
                 clear hc5 hq hz hs0
                 by_cases hq0 : q = 0
                 · have e0 : (q != 0) = false := by simp [hq0]
                   by_cases hz32 : 32 ≤ z
                   · have hV := HV.out
                     rw [arcC_arg HNR.out HN2.out (.inr (.inr (by rw [HZ.out]; exact hz32)))] at hV
                     have HRR := Lib.hid (show R = 1 by rw [HGB.out (by rw [← hV]; decide), hV])
                     clear hV hq0
                     go_wp2_with (fail)
                     refine HSP.out.mono ?_
                     rintro e W7 ⟨rfl, rfl⟩
                     go_wp2_with (fail)
                     go_ret
                     exact ⟨ret_i HRR.out.symm, bstep HB4.out HB6.out⟩
                   · have hV := HV.out
                     rw [arcC_ok HNR.out HN2.out (by
                      rintro (h | h | h)
                      · exact HSN.out h
                      · exact h (by rw [HQ.out]; exact hq0)
                      · exact hz32 (by rw [← HZ.out]; exact h))] at hV
                     have HNX := Lib.hid (HGN.out hV.symm)
                     clear hV hq0
                     go_wp2_with (fail)
                     refine HSP.out.mono ?_
                     rintro e W7 ⟨rfl, rfl⟩
                     go_wp2_with (fail)
                     go_roundw
                     case rel => exact ⟨_, by omega, by first | (simp; done) | (simp; omega), HNX.out, HB6.out⟩
                     case measure => simp [intOf]; omega
                 · have e0 : (q != 0) = true := by simp [hq0]
                   have hV := HV.out
                   rw [arcC_arg HNR.out HN2.out (.inr (.inl (by rw [HQ.out]; exact hq0)))] at hV
                   have HRR := Lib.hid (show R = 1 by rw [HGB.out (by rw [← hV]; decide), hV])
                   clear hV hq0
                   go_wp2_with (fail)
                   refine HSP.out.mono ?_
                   rintro e W7 ⟨rfl, rfl⟩
                   go_wp2_with (fail)
                   go_ret
                   exact ⟨ret_i HRR.out.symm, bstep HB4.out HB6.out⟩
             · obtain ⟨j, rfl⟩ : ∃ j, i = j + 1 := ⟨i - 1, by omega⟩
               obtain ⟨y, a6, k6, m6, hy, y0, y1, y2⟩ := HPV.out j rfl
               have HY0 := Lib.hid (cell_keep HBA.out y0)
               have HY1 := Lib.hid (cell_keep HBA.out y1)
               have HY2 := Lib.hid (cell_keep HBA.out y2)
               have HK1 := Lib.hid (HBX.out.below HB2.out).k1
               have HOR := Lib.hid (fun W => orderA y (f, t) (.slice a6 m6 k6) (.slice a5 m5 k5) W)
               have HCE := Lib.hid (@Vg.cE_neg y (f, t))
               obtain ⟨r, hr⟩ : ∃ r, Vg.cE y (f, t) = r := ⟨_, rfl⟩
               rw [hr] at HOR HCE
               have HY := Lib.hid hy
               have i0 : (0 : Int) < ((j + 1 : Nat) : Int) := by omega
               have hjb : j < 65536 := by omega
               have hwj : IntKind.i64.wrap (j : Int) = (j : Int) := IntWalk.i64_in _ (by omega)
               have hjn : (j : Int) < (n2 : Int) := by omega
               have HSX := Lib.hid (show BlkK WA.drew X #[.int .i64 f, .int .i64 t, .slice a5 m5 k5] 48 ∧ Below WA.heap.size WA WA.drew from ⟨HX0.out, bdrewN WA 1⟩)
               clear hr hy y0 y1 y2
               refine (wpIn_wide (n := 20)).1 ?_
               refine wpIn_region_planM (fun W' => BlkK W' X #[.int .i64 f, .int .i64 t, .slice a5 m5 k5] 48 ∧ Below WA.heap.size WA W') 21 (.take 0 <| .take 1 <| .take 2 <| .take 3 <| .take 4 <| .take 5 <| .take 6 <| .take 7 <| .take 8 <| .take 9 <| .take 10 <| .take 11 <| .take 12 <| .take 13 <| .take 14 <| .take 15 <| .one 16 <| .take 17 <| .take 18 <| .take 19 <| .take 20 <| .fin) (fun _ => trivial) (by kernel_rfl) (by kernel_rfl) (HSX.out) ?_
               apply pm_take rfl rfl (by rfl)
               case hy =>
                rintro W' hb'
                clear hb'
                go_simp
                first | done | with_reducible rfl
               simp only [List.setIfInBounds_toArray, List.set_cons_zero, List.set_cons_succ]
               apply pm_take rfl rfl (by rfl)
               case hy =>
                rintro W' hb'
                have x0 : W'.cell? ⟨X, 0, none⟩ = some (.int .i64 f) := hb'.1.cell (i := 0) rfl
                have x1 : W'.cell? ⟨X, 1, none⟩ = some (.int .i64 t) := hb'.1.cell (i := 1) rfl
                have x2 : W'.cell? ⟨X, 2, none⟩ = some (.slice a5 m5 k5) := hb'.1.cell (i := 2) rfl
                have x3 := cell_keep hb'.2 HK1.out
                have x4 := cell_keep hb'.2 HY0.out
                have x5 := cell_keep hb'.2 HY1.out
                have x6 := cell_keep hb'.2 HY2.out
                clear hb'
                go_simp
                first | done | with_reducible rfl
               simp only [List.setIfInBounds_toArray, List.set_cons_zero, List.set_cons_succ]
               apply pm_take rfl rfl (by rfl)
               case hy =>
                rintro W' hb'
                clear hb'
                go_simp
                first | done | with_reducible rfl
               simp only [List.setIfInBounds_toArray, List.set_cons_zero, List.set_cons_succ]
               apply pm_take rfl rfl (by rfl)
               case hy =>
                rintro W' hb'
                have x0 : W'.cell? ⟨X, 0, none⟩ = some (.int .i64 f) := hb'.1.cell (i := 0) rfl
                have x1 : W'.cell? ⟨X, 1, none⟩ = some (.int .i64 t) := hb'.1.cell (i := 1) rfl
                have x2 : W'.cell? ⟨X, 2, none⟩ = some (.slice a5 m5 k5) := hb'.1.cell (i := 2) rfl
                have x3 := cell_keep hb'.2 HK1.out
                have x4 := cell_keep hb'.2 HY0.out
                have x5 := cell_keep hb'.2 HY1.out
                have x6 := cell_keep hb'.2 HY2.out
                clear hb'
                go_simp
                first | done | with_reducible rfl
               simp only [List.setIfInBounds_toArray, List.set_cons_zero, List.set_cons_succ]
               iterate 2
                apply pm_take rfl rfl (by rfl)
                case hy =>
                 rintro W' hb'
                 clear hb'
                 go_simp
                 first | done | with_reducible rfl
                simp only [List.setIfInBounds_toArray, List.set_cons_zero, List.set_cons_succ]
               iterate 3
                apply pm_gd (j := 5) (t := 89) (b := false) (c := false) rfl rfl rfl rfl rfl (by simp) rfl
                case hy =>
                 rintro W' hb'
                 clear hb'
                 go_simp
                 first | done | with_reducible rfl
                simp only [List.setIfInBounds_toArray, List.set_cons_zero, List.set_cons_succ]
               apply pm_gd (j := 8) (t := 92) (b := true) (c := true) rfl rfl rfl rfl rfl (by simp) rfl
               case hy =>
                rintro W' hb'
                clear hb'
                go_simp
                first | done | with_reducible rfl
               simp only [List.setIfInBounds_toArray, List.set_cons_zero, List.set_cons_succ]
               apply pm_gd (j := 8) (t := 92) (b := true) (c := true) rfl rfl rfl rfl rfl (by simp) rfl
               case hy =>
                rintro W' hb'
                have x0 : W'.cell? ⟨X, 0, none⟩ = some (.int .i64 f) := hb'.1.cell (i := 0) rfl
                have x1 : W'.cell? ⟨X, 1, none⟩ = some (.int .i64 t) := hb'.1.cell (i := 1) rfl
                have x2 : W'.cell? ⟨X, 2, none⟩ = some (.slice a5 m5 k5) := hb'.1.cell (i := 2) rfl
                have x3 := cell_keep hb'.2 HK1.out
                have x4 := cell_keep hb'.2 HY0.out
                have x5 := cell_keep hb'.2 HY1.out
                have x6 := cell_keep hb'.2 HY2.out
                clear hb'
                go_simp
                first | done | with_reducible rfl
               simp only [List.setIfInBounds_toArray, List.set_cons_zero, List.set_cons_succ]
               iterate 3
                apply pm_gd (j := 8) (t := 92) (b := true) (c := true) rfl rfl rfl rfl rfl (by simp) rfl
                case hy =>
                 rintro W' hb'
                 clear hb'
                 go_simp
                 first | done | with_reducible rfl
                simp only [List.setIfInBounds_toArray, List.set_cons_zero, List.set_cons_succ]
               iterate 2
                apply pm_gd (j := 8) (t := 92) (b := true) (c := true) rfl rfl rfl rfl rfl (by simp) rfl
                case hy =>
                 rintro W' hb'
                 have x0 : W'.cell? ⟨X, 0, none⟩ = some (.int .i64 f) := hb'.1.cell (i := 0) rfl
                 have x1 : W'.cell? ⟨X, 1, none⟩ = some (.int .i64 t) := hb'.1.cell (i := 1) rfl
                 have x2 : W'.cell? ⟨X, 2, none⟩ = some (.slice a5 m5 k5) := hb'.1.cell (i := 2) rfl
                 have x3 := cell_keep hb'.2 HK1.out
                 have x4 := cell_keep hb'.2 HY0.out
                 have x5 := cell_keep hb'.2 HY1.out
                 have x6 := cell_keep hb'.2 HY2.out
                 clear hb'
                 go_simp
                 first | done | with_reducible rfl
                simp only [List.setIfInBounds_toArray, List.set_cons_zero, List.set_cons_succ]
               refine pm_one rfl ?_
               gi_wp2_with (fail)
               refine ⟨trivial, (callsIn_wide.2 (HOR.out _)).mono ?_⟩
               rintro e W6 ⟨rfl, hl6⟩
               have HSX := Lib.hid (show BlkK W6 X #[.int .i64 f, .int .i64 t, .slice a5 m5 k5] 48 ∧ Below WA.heap.size WA W6 from ⟨HSX.out.1.lw hl6, bstep HSX.out.2 hl6.below⟩)
               clear hl6
               gi_wp2_with (fail)
               refine ⟨fun _ => HSX.out, ?_⟩
               apply pm_gd (j := 8) (t := 92) (b := true) (c := true) rfl rfl rfl rfl rfl (by simp) rfl
               case hy =>
                rintro W' hb'
                clear hb'
                go_simp
                first | done | with_reducible rfl
               simp only [List.setIfInBounds_toArray, List.set_cons_zero, List.set_cons_succ]
               apply pm_gd (j := 5) (t := 89) (b := false) (c := false) rfl rfl rfl rfl rfl (by simp) rfl
               case hy =>
                rintro W' hb'
                clear hb'
                go_simp
                first | done | with_reducible rfl
               simp only [List.setIfInBounds_toArray, List.set_cons_zero, List.set_cons_succ]
               iterate 2
                apply pm_take rfl rfl (by rfl)
                case hy =>
                 rintro W' hb'
                 clear hb'
                 go_simp
                 first | done | with_reducible rfl
                simp only [List.setIfInBounds_toArray, List.set_cons_zero, List.set_cons_succ]
               refine pm_fin ?_
               gi_wp2_with (fail)
               by_cases hr0 : 0 ≤ r
               · go_wp2_with (fail)
                 go_ret
                 have hV := HV.out
                 rw [arcC_order HNR.out (.inr ⟨y, HY.out, fun hlt => by have := HCE.out.2 hlt; omega⟩)] at hV
                 exact ⟨ret_i (by rw [HGB.out (by rw [← hV]; decide), hV]), bstep HB4.out (bstep HB2.out HSX.out.2)⟩
               · have HN2 := Lib.hid (show ¬(t ≤ f ∨ ∃ q, prevE al (j + 1) = some q ∧ ¬Vg.ltE q (f, t)) by
                  rintro (h | ⟨q, hq, hn⟩)
                  · omega
                  · rw [HY.out] at hq
                    cases hq
                    exact hn (HCE.out.1 (by omega)))
                 have x2 : W6.cell? ⟨X, 2, none⟩ = some (.slice a5 m5 k5) := HSX.out.1.cell (i := 2) rfl
                 have HB6 := Lib.hid (bstep HB2.out HSX.out.2)
                 have HI6 := Lib.hid (show Ints W6 a5 m5 src from HSI.out.mono (Nat.le_refl _) (bstep HBA.out HSX.out.2))
                 have hsm := HI6.out.small
                 by_cases hs0 : m5 = 0
                 · have hV := HV.out
                   rw [arcC_arg HNR.out HN2.out (.inl (List.eq_nil_of_length_eq_zero (by rw [HM5.out]; exact hs0)))] at hV
                   have HRR := Lib.hid (show R = 1 by rw [HGB.out (by rw [← hV]; decide), hV])
                   have hs1 : (m5 : Int) = 0 := by omega
                   clear hV
                   go_wp2_with (fail)
                   go_ret
                   exact ⟨ret_i HRR.out.symm, bstep HB4.out HB6.out⟩
                 · have hs1 : ¬((m5 : Int) = 0) := by omega
                   have hs2 : ((m5 : Int) == 0) = false := beq_eq_false_iff_ne.2 hs1
                   have HSN := Lib.hid (show src ≠ [] from fun h => hs0 (by rw [← HM5.out, h]; rfl))
                   have HSP := Lib.hid (setP a5 m5 k5 src W6 HI6.out)
                   obtain ⟨q, hq⟩ : ∃ q, Vg.setGo none src = q := ⟨_, rfl⟩
                   rw [hq] at HSP
                   have HQ := Lib.hid hq
                   obtain ⟨b5, o5, hae, hc5⟩ := HI6.out.at (by omega)
                   have cl := hc5 (m5 - 1) (by omega)
                   subst hae
                   obtain ⟨z, hz⟩ : ∃ z, nth src (m5 - 1) = z := ⟨_, rfl⟩
                   rw [hz] at cl
                   have HZ := Lib.hid (show src.getLastD 0 = z by rw [last_nth HSN.out, HM5.out, hz])
                   have hm1 : 1 ≤ m5 := by omega
                   clear hc5 hq hz hs0
                   by_cases hq0 : q = 0
                   · have e0 : (q != 0) = false := by simp [hq0]
                     by_cases hz32 : 32 ≤ z
                     · have hV := HV.out
                       rw [arcC_arg HNR.out HN2.out (.inr (.inr (by rw [HZ.out]; exact hz32)))] at hV
                       have HRR := Lib.hid (show R = 1 by rw [HGB.out (by rw [← hV]; decide), hV])
                       clear hV hq0
                       go_wp2_with (fail)
                       refine HSP.out.mono ?_
                       rintro e W7 ⟨rfl, rfl⟩
                       go_wp2_with (fail)
                       go_ret
                       exact ⟨ret_i HRR.out.symm, bstep HB4.out HB6.out⟩
                     · have hV := HV.out
                       rw [arcC_ok HNR.out HN2.out (by
                        rintro (h | h | h)
                        · exact HSN.out h
                        · exact h (by rw [HQ.out]; exact hq0)
                        · exact hz32 (by rw [← HZ.out]; exact h))] at hV
                       have HNX := Lib.hid (HGN.out hV.symm)
                       clear hV hq0
                       go_wp2_with (fail)
                       refine HSP.out.mono ?_
                       rintro e W7 ⟨rfl, rfl⟩
                       go_wp2_with (fail)
                       go_roundw
                       case rel => exact ⟨_, by omega, by first | (simp; done) | (simp; omega), HNX.out, HB6.out⟩
                       case measure => simp [intOf]; omega
                   · have e0 : (q != 0) = true := by simp [hq0]
                     have hV := HV.out
                     rw [arcC_arg HNR.out HN2.out (.inr (.inl (by rw [HQ.out]; exact hq0)))] at hV
                     have HRR := Lib.hid (show R = 1 by rw [HGB.out (by rw [← hV]; decide), hV])
                     clear hV hq0
                     go_wp2_with (fail)
                     refine HSP.out.mono ?_
                     rintro e W7 ⟨rfl, rfl⟩
                     go_wp2_with (fail)
                     go_ret
                     exact ⟨ret_i HRR.out.symm, bstep HB4.out HB6.out⟩
       · obtain rfl : n2 = i := by omega
         have hg0 : G = 0 := by
          rw [List.drop_eq_nil_of_le (by rw [HL2.out]; exact Nat.le_refl _)] at hg
          rw [← hg]
          rfl
         have HRB' := Lib.hid (HRB.out hg0)
         have HRC' := Lib.hid (HRC.out hg0)
         have HAV := Lib.hid (Vg.arcsGo_zero.1 (HG.out.trans hg0))
         clear HRA HRB HRC hg hi hin HG
         have HMK := Lib.hid (make_tab n1 hn1)
         have HMB := Lib.hid (make_bools24 n1 hn1)
         clear hg0 hb
         go_wp2_with (fail)
         refine (wpIn_wide (n := 20)).1 ?_
         refine wpIn_region_planN (fun W' => Below wi.heap.size wi W') (.take 0 <| .take 2 <| .two 1 3 (.take 4 <| .one 3 <| .take 5 <| .fin) (.one 1 <| .take 4 <| .take 5 <| .fin)) (fun _ => trivial) (by kernel_rfl) (by kernel_rfl) (bdrewN wi 1) ?_
         iterate 2
          apply plan_take rfl rfl (by rfl)
          case hy =>
           rintro W' hb'
           clear hb'
           go_simp
           first | done | with_reducible rfl
          simp only [List.setIfInBounds_toArray, List.set_cons_zero, List.set_cons_succ]
         apply plan_two_key rfl rfl
         case h1 =>
          intro KEY
          have hmk := HMK.out
          gi_wp2_with (fail)
          refine ⟨bstep (bdrewN wi 1) (balloc wi.drew (.cells (tabN n1 32 fun _ _ => 0).toArray 88)), ?_⟩
          apply plan_take rfl rfl (by rfl)
          case hy =>
           rintro W' hb'
           clear hb'
           go_simp
           first | done | with_reducible rfl
          simp only [List.setIfInBounds_toArray, List.set_cons_zero, List.set_cons_succ]
          refine plan_one rfl ?_
          gi_wp2_with (fail)
          refine ⟨(tabs1 wi n1).below, ?_⟩
          apply plan_take rfl rfl (by rfl)
          case hy =>
           rintro W' hb'
           clear hb'
           go_simp
           first | done | with_reducible rfl
          simp only [List.setIfInBounds_toArray, List.set_cons_zero, List.set_cons_succ]
          refine plan_fin ?_
          have HT : TabsT wi ((wi.alloc (.cells (tabN n1 32 fun _ _ => 0).toArray 88)).alloc (.cells (tabN n1 32 fun _ _ => 0).toArray 88)).drew wi.heap.size (wi.heap.size + 1) n1 := tabs1 wi n1
          revert HT
          generalize ((wi.alloc (.cells (tabN n1 32 fun _ _ => 0).toArray 88)).alloc (.cells (tabN n1 32 fun _ _ => 0).toArray 88)).drew = W5
          generalize hS2 : wi.heap.size + 1 = bL
          generalize hS1 : wi.heap.size = bE
          clear hS1 hS2 hmk
          revert bE
          revert bL
          revert W5
          exact KEY
         case h2 =>
          intro KEY
          have hmk := HMK.out
          gi_wp2_with (fail)
          refine ⟨bstep (bdrewN wi 1) (balloc wi.drew (.cells (tabN n1 32 fun _ _ => 0).toArray 88)), ?_⟩
          refine plan_one rfl ?_
          gi_wp2_with (fail)
          refine ⟨(tabs1 wi n1).below, ?_⟩
          iterate 2
           apply plan_take rfl rfl (by rfl)
           case hy =>
            rintro W' hb'
            clear hb'
            go_simp
            first | done | with_reducible rfl
           simp only [List.setIfInBounds_toArray, List.set_cons_zero, List.set_cons_succ]
          refine plan_fin ?_
          have HT : TabsT wi ((wi.alloc (.cells (tabN n1 32 fun _ _ => 0).toArray 88)).alloc (.cells (tabN n1 32 fun _ _ => 0).toArray 88)).drew (wi.heap.size + 1) wi.heap.size n1 := tabs2 wi n1
          revert HT
          generalize ((wi.alloc (.cells (tabN n1 32 fun _ _ => 0).toArray 88)).alloc (.cells (tabN n1 32 fun _ _ => 0).toArray 88)).drew = W5
          generalize hS1 : wi.heap.size + 1 = bE
          generalize hS2 : wi.heap.size = bL
          clear hS1 hS2 hmk
          revert bE
          revert bL
          revert W5
          exact KEY
         intro W5 bL bE HT
         gi_wp2_with (fail)
         have hmb := HMB.out
         have HBT := Lib.hid (HB.out.trans (HT.below.mono HB.out.size))
         have HC0 := Lib.hid (CkS.new HT)
         have HNE := Lib.hid HT.ne
         have hE5 := HT.ent.lt
         have hL5 := HT.lef.lt
         have HgE := Lib.hid (show W0.heap.size ≤ bE by have := HT.geE; have := HB.out.size; omega)
         have HgL := Lib.hid (show W0.heap.size ≤ bL by have := HT.geL; have := HB.out.size; omega)
         have HB8 := Lib.hid (bstep (bstep HBT.out (balloc W5 (.cells (boolN n1 fun _ => false).toArray 4))) (balloc (W5.alloc (.cells (boolN n1 fun _ => false).toArray 4)) (.cells zb32 87)))
         have k1 := (HBX.out.below HB8.out).k1
         unfold zb32 at k1 HC0 HB8
         clear HT
         go_wp2_with (fail)
         clear k1
         obtain ⟨bS, hbS⟩ : ∃ b, W5.heap.size = b := ⟨_, rfl⟩
         rw [hbS] at HC0 hE5 hL5 ⊢
         have HgS := Lib.hid (show W0.heap.size ≤ bS by have := HBT.out.size; omega)
         replace HC0 := Lib.hid (show CkS _ bE bL bS (bS + 1) n1 (al.take 0) by rw [List.take_zero]; exact HC0.out)
         clear hbS hmb HMK HMB HBT
         generalize ((W5.alloc (.cells (boolN n1 fun _ => false).toArray 4)).alloc (.cells #[.bool false, .bool false, .bool false, .bool false, .bool false, .bool false, .bool false, .bool false, .bool false, .bool false, .bool false, .bool false, .bool false, .bool false, .bool false, .bool false, .bool false, .bool false, .bool false, .bool false, .bool false, .bool false, .bool false, .bool false, .bool false, .bool false, .bool false, .bool false, .bool false, .bool false, .bool false, .bool false] 87)) = W8 at HC0 HB8 ⊢
         go_loopw [136] (fun iv wr => ∃ i : Nat, i ≤ n2 ∧ iv = .int .i64 i ∧ CkS wr bE bL bS (bS + 1) n1 (al.take i) ∧ Below W0.heap.size W0 wr) (fun iv _ => n2 - (intOf iv).toNat)
         case atStart => exact ⟨0, Nat.zero_le _, rfl, HC0.out, HB8.out⟩
         case round =>
          obtain ⟨wi, rfl⟩ : ∃ wi : World, wi = wr := ⟨_, rfl⟩
          obtain ⟨i, hi, rfl, hc, hb⟩ := hrel
          have HB := Lib.hid hb
          have HC := Lib.hid hc
          by_cases hin : i < n2
          · obtain ⟨x, b, off, a5, k5, hx, rfl, q0, q1, q2, hs⟩ := HH.out.arcs.at hin
            obtain ⟨⟨f0, t0⟩, src⟩ := x
            obtain ⟨⟨r1, r2, r3⟩, r4, r5, r6⟩ := HAV.out.1 _ (List.mem_of_getElem? hx)
            simp only at q0 q1 q2 r1 r2 r3 r4 r5 r6
            obtain ⟨f, rfl⟩ : ∃ f : Nat, f0 = f := ⟨f0.toNat, by omega⟩
            obtain ⟨t, rfl⟩ : ∃ t : Nat, t0 = t := ⟨t0.toNat, by omega⟩
            have hfn : f < n1 := by omega
            have htn : t < n1 := by omega
            have i1 : (i : Int) < (n2 : Int) := by omega
            have i2 : (f : Int) < (n1 : Int) := by omega
            have i3 : (t : Int) < (n1 : Int) := by omega
            have HFN := Lib.hid hfn
            have HTN := Lib.hid htn
            have HIN := Lib.hid hin
            have HTK := Lib.hid (show al.take (i + 1) = al.take i ++ [(((f : Int), (t : Int)), src)] by rw [List.take_add_one, hx]; rfl)
            have HSI := Lib.hid (show Ints W0 a5 src.length src from hs.src)
            have HSR := Lib.hid r6
            have HSA := Lib.hid r4
            obtain ⟨m5, hm5⟩ : ∃ m, src.length = m := ⟨_, rfl⟩
            rw [hm5] at HSI q2
            have HM5 := Lib.hid hm5
            have hsm := HSI.out.small
            have p0 := cell_keep hb q0
            have p1 := cell_keep hb q1
            have p2 := cell_keep hb q2
            have hgl := hc.goo.lt
            obtain ⟨X, hX⟩ : ∃ X, wi.heap.size = X := ⟨_, rfl⟩
            rw [hX] at hgl
            have hW0X := HgS.out
            have kb := balloc wi (.cells #[.int .i64 (f : Int), .int .i64 (t : Int), .slice a5 m5 k5] 48)
            have K := Lib.hid (show BlkK (wi.alloc (.cells #[.int .i64 (f : Int), .int .i64 (t : Int), .slice a5 m5 k5] 48)) X #[.int .i64 (f : Int), .int .i64 (t : Int), .slice a5 m5 k5] 48 by rw [← hX]; exact BlkK.new wi _ _)
            have HB2 := Lib.hid (bstep hb kb)
            have HC2 := Lib.hid ((hc.below kb).ends (f := f) (t := t) (by omega) (by omega) (by omega))
            have HS2 := Lib.hid (hc.below kb).som
            obtain ⟨WA, hWA⟩ : ∃ W, wi.alloc (.cells #[.int .i64 (f : Int), .int .i64 (t : Int), .slice a5 m5 k5] 48) = W := ⟨_, rfl⟩
            rw [hWA] at K HB2 HC2 HS2
            clear kb hx r1 r2 r3 r4 r5 r6 q0 q1 q2 hs hm5 hc hb hi hfn htn
            go_wp2_with (fail)
            clear p0 p1 p2
            refine (wpIn_wide (n := 20)).1 ?_
            refine wpIn_region_planM (fun W' => BlkK W' X #[.int .i64 (f : Int), .int .i64 (t : Int), .slice a5 m5 k5] 48) 10 (.take 0 <| .take 1 <| .take 2 <| .take 3 <| .take 4 <| .take 5 <| .take 6 <| .one 7 <| .take 8 <| .one 9 <| .fin) (fun _ => trivial) (by kernel_rfl) (by kernel_rfl) (K.out.drew) ?_
            iterate 2
             apply pm_take rfl rfl (by rfl)
             case hy =>
              rintro W' hb'
              clear hb'
              go_simp
              first | done | with_reducible rfl
             simp only [List.setIfInBounds_toArray, List.set_cons_zero, List.set_cons_succ]
            apply pm_take rfl rfl (by rfl)
            case hy =>
             rintro W' hb'
             have x0 : W'.cell? ⟨X, 0, none⟩ = some (.int .i64 (f : Int)) := hb'.cell (i := 0) rfl
             have x1 : W'.cell? ⟨X, 1, none⟩ = some (.int .i64 (t : Int)) := hb'.cell (i := 1) rfl
             clear hb'
             go_simp
             first | done | with_reducible rfl
            simp only [List.setIfInBounds_toArray, List.set_cons_zero, List.set_cons_succ]
            iterate 2
             apply pm_take rfl rfl (by rfl)
             case hy =>
              rintro W' hb'
              clear hb'
              go_simp
              first | done | with_reducible rfl
             simp only [List.setIfInBounds_toArray, List.set_cons_zero, List.set_cons_succ]
            apply pm_take rfl rfl (by rfl)
            case hy =>
             rintro W' hb'
             have x0 : W'.cell? ⟨X, 0, none⟩ = some (.int .i64 (f : Int)) := hb'.cell (i := 0) rfl
             have x1 : W'.cell? ⟨X, 1, none⟩ = some (.int .i64 (t : Int)) := hb'.cell (i := 1) rfl
             clear hb'
             go_simp
             first | done | with_reducible rfl
            simp only [List.setIfInBounds_toArray, List.set_cons_zero, List.set_cons_succ]
            apply pm_take rfl rfl (by rfl)
            case hy =>
             rintro W' hb'
             clear hb'
             go_simp
             first | done | with_reducible rfl
            simp only [List.setIfInBounds_toArray, List.set_cons_zero, List.set_cons_succ]
            refine pm_one rfl ?_
            have z0 := HS2.out.drew.cell (i := f) (by rw [List.getElem?_toArray, boolN_at _ HFN.out])
            have z1 := HS2.out.drew.hard (i := f)
            gi_wp2_with (fail)
            refine ⟨fun _ => K.out.drew.other24 (j := f) (v := .bool true) (by omega), ?_⟩
            clear z0 z1
            apply pm_take rfl rfl (by rfl)
            case hy =>
             rintro W' hb'
             clear hb'
             go_simp
             first | done | with_reducible rfl
            simp only [List.setIfInBounds_toArray, List.set_cons_zero, List.set_cons_succ]
            refine pm_one rfl ?_
            have z0 := (HS2.out.put (i := f) (v := .bool true)).drew.cell (i := t) (by rw [List.setIfInBounds_toArray, boolN_set, List.getElem?_toArray, boolN_at _ HTN.out])
            have z1 := (HS2.out.put (i := f) (v := .bool true)).drew.hard (i := t)
            gi_wp2_with (fail)
            refine ⟨fun _ => (K.out.drew.other24 (j := f) (v := .bool true) (by omega)).other24 (j := t) (v := .bool true) (by omega), ?_⟩
            clear z0 z1
            refine pm_fin ?_
            gi_wp2_with (fail)
            have HC3 := Lib.hid (show CkS ((WA.setCell ⟨bS, f, none⟩ (.bool true)).setCell ⟨bS, t, none⟩ (.bool true)).drew bE bL bS (bS + 1) n1 (al.take i ++ [(((f : Int), (t : Int)), src.take 0)]) by rw [List.take_zero]; exact HC2.out.drew)
            have K3 := Lib.hid (show BlkK ((WA.setCell ⟨bS, f, none⟩ (.bool true)).setCell ⟨bS, t, none⟩ (.bool true)).drew X #[.int .i64 (f : Int), .int .i64 (t : Int), .slice a5 m5 k5] 48 from (K.out.other24 (j := f) (v := .bool true) (by omega)).other24 (j := t) (v := .bool true) (by omega))
            have HB3 := Lib.hid (show Below W0.heap.size W0 ((WA.setCell ⟨bS, f, none⟩ (.bool true)).setCell ⟨bS, t, none⟩ (.bool true)).drew from below_drew' ((HB2.out.setCell (p := ⟨bS, f, none⟩) HgS.out _).setCell (p := ⟨bS, t, none⟩) HgS.out _))
            generalize ((WA.setCell ⟨bS, f, none⟩ (.bool true)).setCell ⟨bS, t, none⟩ (.bool true)).drew = W3 at HC3 K3 HB3 ⊢
            clear hWA hX
            have x2 := K3.out.cell (i := 2) (u := .slice a5 m5 k5) rfl
            go_wp2_with (fail)
            clear x2 HC2 HS2 K
            go_loopw [151] (fun jv wr => ∃ j : Nat, j ≤ m5 ∧ jv = .int .i64 j ∧ CkS wr bE bL bS (bS + 1) n1 (al.take i ++ [(((f : Int), (t : Int)), src.take j)]) ∧ BlkK wr X #[.int .i64 (f : Int), .int .i64 (t : Int), .slice a5 m5 k5] 48 ∧ Below W0.heap.size W0 wr) (fun jv _ => m5 - (intOf jv).toNat)
            case atStart => exact ⟨0, Nat.zero_le _, rfl, HC3.out, K3.out, HB3.out⟩
            case round =>
             obtain ⟨wj, rfl⟩ : ∃ wj : World, wj = wr := ⟨_, rfl⟩
             obtain ⟨j, hj, rfl, hcj, hkj, hbj⟩ := hrel
             have HBJ := Lib.hid hbj
             have HCJ := Lib.hid hcj
             have HKJ := Lib.hid hkj
             by_cases hjm : j < m5
             · obtain ⟨y, b6, o6, v6, hy, rfl, hcy, rfl, _⟩ := Sl.at (HSI.out.mono (Nat.le_refl _) hbj) hjm
               obtain ⟨g1, g2⟩ := HSR.out y (List.mem_of_getElem? hy)
               obtain ⟨s, rfl⟩ : ∃ s : Nat, y = s := ⟨y.toNat, by omega⟩
               have hs32 : s < 32 := by omega
               have HFR := Lib.hid (take_fresh HSA.out hy)
               have HTJ := Lib.hid (show src.take (j + 1) = src.take j ++ [(s : Int)] by rw [List.take_add_one, hy]; rfl)
               have hl' : (al.take i ++ [(((f : Int), (t : Int)), src.take j)]).length ≤ 65537 := by
                have := HIN.out
                simp
                omega
               have HNX := Lib.hid (hcj.src HFR.out hs32 HFN.out HTN.out HNE.out (by omega) (by omega) (by omega) (by omega) (by omega))
               have hcl := hcj.lef.cell (i := f * 32 + s) (by rw [List.getElem?_toArray, tabN_at _ HFN.out hs32])
               have hce := hcj.ent.cell (i := t * 32 + s) (by rw [List.getElem?_toArray, tabN_at _ HTN.out hs32])
               have hcg := hcj.goo.cell (i := s) (by rw [List.getElem?_toArray, boolN_at _ hs32])
               have hfg := hcj.goo.hard (i := s)
               have hbc := outE_le (s : Int) (f : Int) (al.take i ++ [(((f : Int), (t : Int)), src.take j)])
               have hbd := inE_le (s : Int) (t : Int) (al.take i ++ [(((f : Int), (t : Int)), src.take j)])
               obtain ⟨c, hcc⟩ : ∃ c, Vg.outE (Vg.endsOf s (al.take i ++ [(((f : Int), (t : Int)), src.take j)])) f = c := ⟨_, rfl⟩
               obtain ⟨d, hdd⟩ : ∃ d, Vg.inE (Vg.endsOf s (al.take i ++ [(((f : Int), (t : Int)), src.take j)])) t = d := ⟨_, rfl⟩
               rw [hcc] at hcl hbc HNX
               rw [hdd] at hce hbd HNX
               obtain ⟨zc, hzc⟩ : ∃ z, c + 1 = z := ⟨_, rfl⟩
               obtain ⟨zd, hzd⟩ : ∃ z, d + 1 = z := ⟨_, rfl⟩
               rw [hzc, hzd] at HNX
               have HZC := Lib.hid (show IntKind.i64.wrap ((c : Int) + 1) = (zc : Int) by rw [IntWalk.i64_in _ (by omega)]; omega)
               have HZD := Lib.hid (show IntKind.i64.wrap ((d : Int) + 1) = (zd : Int) by rw [IntWalk.i64_in _ (by omega)]; omega)
               have HL6 := Lib.hid (hcj.lef.other24 (c := bS + 1) (j := s) (v := .bool true) (by omega))
               have HE6 := Lib.hid ((hcj.ent.other24 (c := bS + 1) (j := s) (v := .bool true) (by omega)).other24 (c := bL) (j := f * 32 + s) (v := .int .i64 (zc : Int)) HNE.out)
               have HK6 := Lib.hid (hkj.other24 (c := bS + 1) (j := s) (v := .bool true) (by omega))
               have HK7 := Lib.hid ((hkj.other24 (c := bS + 1) (j := s) (v := .bool true) (by omega)).other24 (c := bL) (j := f * 32 + s) (v := .int .i64 (zc : Int)) (by omega))
               have HK8 := Lib.hid (((hkj.other24 (c := bS + 1) (j := s) (v := .bool true) (by omega)).other24 (c := bL) (j := f * 32 + s) (v := .int .i64 (zc : Int)) (by omega)).other24 (c := bE) (j := t * 32 + s) (v := .int .i64 (zd : Int)) (by omega))
               have HCL := Lib.hid (HL6.out.cell (i := f * 32 + s) (by rw [List.getElem?_toArray, tabN_at _ HFN.out hs32, hcc]))
               have HCE := Lib.hid (HE6.out.cell (i := t * 32 + s) (by rw [List.getElem?_toArray, tabN_at _ HTN.out hs32, hdd]))
               have HBN := Lib.hid (((hbj.setCell (p := ⟨bS + 1, s, none⟩) (u := .bool true) (by have := HgS.out; simp; omega)).setCell (p := ⟨bL, f * 32 + s, none⟩) (u := .int .i64 (zc : Int)) HgL.out).setCell (p := ⟨bE, t * 32 + s, none⟩) (u := .int .i64 (zd : Int)) HgE.out)
               have j1 : (j : Int) < (m5 : Int) := by omega
               have j2 : (s : Int) < 32 := by omega
               clear hcc hdd hzc hzd hcl hce hcj hkj hbj hbc hbd hl' hy g1 g2 hj hs32 hjm
               go_wp2_with (fail)
               clear hcg hfg hcy
               refine (wpIn_wide (n := 20)).1 ?_
               refine wpIn_region_planM (fun W' => BlkK W' X #[.int .i64 (f : Int), .int .i64 (t : Int), .slice (some ⟨b6, o6, none⟩) m5 k5] 48 ∧ W'.cell? ⟨bL, f * 32 + s, none⟩ = some (.int .i64 (c : Int))) 10 (.take 0 <| .take 1 <| .take 2 <| .take 3 <| .take 4 <| .take 5 <| .take 6 <| .take 7 <| .take 8 <| .take 9 <| .one 10 <| .fin) (fun _ => trivial) (by kernel_rfl) (by kernel_rfl) ((show BlkK (wj.setCell ⟨bS + 1, s, none⟩ (.bool true)).drew X #[.int .i64 (f : Int), .int .i64 (t : Int), .slice (some ⟨b6, o6, none⟩) m5 k5] 48 ∧ (wj.setCell ⟨bS + 1, s, none⟩ (.bool true)).drew.cell? ⟨bL, f * 32 + s, none⟩ = some (.int .i64 (c : Int)) from ⟨HK6.out.drew, HCL.out⟩)) ?_
               iterate 2
                apply pm_take rfl rfl (by rfl)
                case hy =>
                 rintro W' hb'
                 clear hb'
                 go_simp
                 first | done | with_reducible rfl
                simp only [List.setIfInBounds_toArray, List.set_cons_zero, List.set_cons_succ]
               apply pm_take rfl rfl (by rfl)
               case hy =>
                rintro W' hb'
                have x0 : W'.cell? ⟨X, 0, none⟩ = some (.int .i64 (f : Int)) := hb'.1.cell (i := 0) rfl
                have x1 := hb'.2
                clear hb'
                go_simp
                first | done | with_reducible rfl
               simp only [List.setIfInBounds_toArray, List.set_cons_zero, List.set_cons_succ]
               iterate 3
                apply pm_take rfl rfl (by rfl)
                case hy =>
                 rintro W' hb'
                 clear hb'
                 go_simp
                 first | done | with_reducible rfl
                simp only [List.setIfInBounds_toArray, List.set_cons_zero, List.set_cons_succ]
               apply pm_take rfl rfl (by rfl)
               case hy =>
                rintro W' hb'
                have x0 : W'.cell? ⟨X, 0, none⟩ = some (.int .i64 (f : Int)) := hb'.1.cell (i := 0) rfl
                have x1 := hb'.2
                clear hb'
                go_simp
                first | done | with_reducible rfl
               simp only [List.setIfInBounds_toArray, List.set_cons_zero, List.set_cons_succ]
               apply pm_take rfl rfl (by rfl)
               case hy =>
                rintro W' hb'
                have e1 := HZC.out
                clear hb'
                go_simp
                first | done | with_reducible rfl
               simp only [List.setIfInBounds_toArray, List.set_cons_zero, List.set_cons_succ]
               iterate 2
                apply pm_take rfl rfl (by rfl)
                case hy =>
                 rintro W' hb'
                 clear hb'
                 go_simp
                 first | done | with_reducible rfl
                simp only [List.setIfInBounds_toArray, List.set_cons_zero, List.set_cons_succ]
               refine pm_one rfl ?_
               have z0 := ((show BlkK (wj.setCell ⟨bS + 1, s, none⟩ (.bool true)).drew X #[.int .i64 (f : Int), .int .i64 (t : Int), .slice (some ⟨b6, o6, none⟩) m5 k5] 48 ∧ (wj.setCell ⟨bS + 1, s, none⟩ (.bool true)).drew.cell? ⟨bL, f * 32 + s, none⟩ = some (.int .i64 (c : Int)) from ⟨HK6.out.drew, HCL.out⟩)).2
               have z1 := HL6.out.drew.hard (i := f * 32 + s)
               gi_wp2_with (fail)
               refine ⟨fun h => absurd h (by omega), ?_⟩
               clear z0 z1
               refine pm_fin ?_
               gi_wp2_with (fail)
               go_wp2_with (fail)
               refine (wpIn_wide (n := 20)).1 ?_
               refine wpIn_region_planM (fun W' => BlkK W' X #[.int .i64 (f : Int), .int .i64 (t : Int), .slice (some ⟨b6, o6, none⟩) m5 k5] 48 ∧ W'.cell? ⟨bE, t * 32 + s, none⟩ = some (.int .i64 (d : Int))) 10 (.take 0 <| .take 1 <| .take 2 <| .take 3 <| .take 4 <| .take 5 <| .take 6 <| .take 7 <| .take 8 <| .take 9 <| .one 10 <| .fin) (fun _ => trivial) (by kernel_rfl) (by kernel_rfl) ((show BlkK ((wj.setCell ⟨bS + 1, s, none⟩ (.bool true)).setCell ⟨bL, f * 32 + s, none⟩ (.int .i64 (zc : Int))).drew X #[.int .i64 (f : Int), .int .i64 (t : Int), .slice (some ⟨b6, o6, none⟩) m5 k5] 48 ∧ ((wj.setCell ⟨bS + 1, s, none⟩ (.bool true)).setCell ⟨bL, f * 32 + s, none⟩ (.int .i64 (zc : Int))).drew.cell? ⟨bE, t * 32 + s, none⟩ = some (.int .i64 (d : Int)) from ⟨HK7.out.drew, HCE.out⟩)) ?_
               iterate 2
                apply pm_take rfl rfl (by rfl)
                case hy =>
                 rintro W' hb'
                 clear hb'
                 go_simp
                 first | done | with_reducible rfl
                simp only [List.setIfInBounds_toArray, List.set_cons_zero, List.set_cons_succ]
               apply pm_take rfl rfl (by rfl)
               case hy =>
                rintro W' hb'
                have x0 : W'.cell? ⟨X, 1, none⟩ = some (.int .i64 (t : Int)) := hb'.1.cell (i := 1) rfl
                have x1 := hb'.2
                clear hb'
                go_simp
                first | done | with_reducible rfl
               simp only [List.setIfInBounds_toArray, List.set_cons_zero, List.set_cons_succ]
               iterate 3
                apply pm_take rfl rfl (by rfl)
                case hy =>
                 rintro W' hb'
                 clear hb'
                 go_simp
                 first | done | with_reducible rfl
                simp only [List.setIfInBounds_toArray, List.set_cons_zero, List.set_cons_succ]
               apply pm_take rfl rfl (by rfl)
               case hy =>
                rintro W' hb'
                have x0 : W'.cell? ⟨X, 1, none⟩ = some (.int .i64 (t : Int)) := hb'.1.cell (i := 1) rfl
                have x1 := hb'.2
                clear hb'
                go_simp
                first | done | with_reducible rfl
               simp only [List.setIfInBounds_toArray, List.set_cons_zero, List.set_cons_succ]
               apply pm_take rfl rfl (by rfl)
               case hy =>
                rintro W' hb'
                have e1 := HZD.out
                clear hb'
                go_simp
                first | done | with_reducible rfl
               simp only [List.setIfInBounds_toArray, List.set_cons_zero, List.set_cons_succ]
               iterate 2
                apply pm_take rfl rfl (by rfl)
                case hy =>
                 rintro W' hb'
                 clear hb'
                 go_simp
                 first | done | with_reducible rfl
                simp only [List.setIfInBounds_toArray, List.set_cons_zero, List.set_cons_succ]
               refine pm_one rfl ?_
               have z0 := ((show BlkK ((wj.setCell ⟨bS + 1, s, none⟩ (.bool true)).setCell ⟨bL, f * 32 + s, none⟩ (.int .i64 (zc : Int))).drew X #[.int .i64 (f : Int), .int .i64 (t : Int), .slice (some ⟨b6, o6, none⟩) m5 k5] 48 ∧ ((wj.setCell ⟨bS + 1, s, none⟩ (.bool true)).setCell ⟨bL, f * 32 + s, none⟩ (.int .i64 (zc : Int))).drew.cell? ⟨bE, t * 32 + s, none⟩ = some (.int .i64 (d : Int)) from ⟨HK7.out.drew, HCE.out⟩)).2
               have z1 := HE6.out.drew.hard (i := t * 32 + s)
               gi_wp2_with (fail)
               refine ⟨fun h => absurd h (by omega), ?_⟩
               clear z0 z1
               refine pm_fin ?_
               gi_wp2_with (fail)
               go_wp2_with (fail)
               go_roundw
               case rel => exact ⟨j + 1, by omega, by simp, by rw [HTJ.out]; exact HNX.out.drew.drew, HK8.out.drew.drew, below_drew' (below_drew' HBN.out)⟩
               case measure => simp [intOf]; omega
             · obtain rfl : m5 = j := by omega
               rw [show src.take m5 = src from List.take_of_length_le (by rw [HM5.out]; exact Nat.le_refl _), ← HTK.out] at hcj
               have HCN := Lib.hid hcj
               clear hcj hkj hbj hj hjm
               go_wp2_with (fail)
               go_roundw
               case rel => exact ⟨i + 1, by have := HIN.out; omega, by simp, HCN.out, HBJ.out⟩
               case measure => have := HIN.out; simp [intOf]; omega
          · obtain rfl : n2 = i := by omega
            rw [List.take_of_length_le (by rw [HL2.out]; exact Nat.le_refl _)] at hc
            have HCA := Lib.hid hc
            have HBI := Lib.hid hb
            clear HC HB hc hb hi hin
            obtain ⟨g, hgd⟩ : ∃ g : Nat → Bool, (fun s : Nat => decide (∃ a ∈ al, (s : Int) ∈ a.2)) = g := ⟨_, rfl⟩
            have HGD := Lib.hid (show ∀ s, g s = decide (∃ a ∈ al, (s : Int) ∈ a.2) from fun s => by rw [← hgd])
            have hgo := HCA.out.goo
            rw [hgd] at hgo
            obtain ⟨GA, hGA⟩ : ∃ A, (boolN 32 g).toArray = A := ⟨_, rfl⟩
            rw [hGA] at hgo
            have HGO := Lib.hid hgo
            have HGA := Lib.hid (show ∀ s, s < 32 → GA[s]? = some (.bool (g s)) from fun s hs => by rw [← hGA, List.getElem?_toArray, boolN_at _ hs])
            have HGS := Lib.hid (show (Tryz.prog.info? 87).map (·.size) = some GA.size by rw [← hGA, List.size_toArray, boolN_len]; kernel_rfl)
            clear hgd hgo hGA
            go_wp2_with (refine wpList_load_row rfl _ _ rfl (bS + 1) rfl 87 GA (0, 0) _ HGO.out Tryz.underlying87 rfl HGS.out ?_)
            go_loopw [180] (fun iv wr => ∃ s : Nat, s ≤ 32 ∧ iv = .int .i64 s ∧ CkS wr bE bL bS (bS + 1) n1 al ∧ Below W0.heap.size W0 wr ∧ ∀ s' : Nat, s' < s → (Vg.endsOf s' al ≠ [] → Vg.outE (Vg.endsOf s' al) 0 = 1) ∧ ∀ k : Nat, 0 < k → k + 1 < n1 → (∃ a ∈ al, a.1.1 = (k : Int) ∨ a.1.2 = (k : Int)) ∧ Vg.inE (Vg.endsOf s' al) k ≤ 1 ∧ Vg.inE (Vg.endsOf s' al) k = Vg.outE (Vg.endsOf s' al) k) (fun iv _ => 32 - (intOf iv).toNat)
            case atStart => exact ⟨0, Nat.zero_le _, rfl, HCA.out, HBI.out, fun s' h => absurd h (Nat.not_lt_zero _)⟩
            case round =>
             obtain ⟨ws', rfl⟩ : ∃ ws' : World, ws' = wr := ⟨_, rfl⟩
             obtain ⟨s, hs, rfl, hcw, hbw, hok⟩ := hrel
             have HOK := Lib.hid hok
             have HCW := Lib.hid hcw
             have HBW := Lib.hid hbw
             clear hok hcw hbw
             by_cases hs32 : s < 32
             · have HS32 := Lib.hid hs32
               have s1 : (s : Int) < 32 := by omega
               have hcl := HCW.out.lef.cell (i := 0 * 32 + s) (by rw [List.getElem?_toArray, tabN_at _ (by omega) hs32])
               obtain ⟨c, hc⟩ : ∃ c, Vg.outE (Vg.endsOf s al) 0 = c := ⟨_, rfl⟩
               rw [Nat.zero_mul, Nat.zero_add, show (((0 : Nat) : Int)) = 0 from rfl, hc] at hcl
               have HC := Lib.hid hc
               have hix := index_goes hs32 (HGA.out s hs32) ws'
               have HGI := Lib.hid (show g s = true ↔ Vg.endsOf s al ≠ [] by rw [HGD.out, decide_eq_true_iff, Vg.goes_iff])
               have i0 : (0 : Int) < (n1 : Int) := by omega
               clear hc hs32
               obtain ⟨b, hb⟩ : ∃ b, g s = b := ⟨_, rfl⟩
               rw [hb] at hix HGI
               clear hb
               cases b with
               | false =>
                have HFI := Lib.hid (show Vg.endsOf s al ≠ [] → Vg.outE (Vg.endsOf s al) 0 = 1 from fun h => absurd (HGI.out.2 h) (by decide))
                go_wp2_with (fail)
                clear hix hcl
                go_loopw [18] (fun kv wr => ∃ k : Nat, 1 ≤ k ∧ k + 1 ≤ n1 ∧ kv = .int .i64 k ∧ CkS wr bE bL bS (bS + 1) n1 al ∧ Below W0.heap.size W0 wr ∧ ∀ k' : Nat, 0 < k' → k' < k → (∃ a ∈ al, a.1.1 = (k' : Int) ∨ a.1.2 = (k' : Int)) ∧ Vg.inE (Vg.endsOf s al) k' ≤ 1 ∧ Vg.inE (Vg.endsOf s al) k' = Vg.outE (Vg.endsOf s al) k') (fun kv _ => n1 - (intOf kv).toNat)
                case atStart => exact ⟨1, Nat.le_refl _, d1, rfl, HCW.out, HBW.out, fun k' h1 h2 => by omega⟩
                case round =>
                 obtain ⟨wk, rfl⟩ : ∃ wk : World, wk = wr := ⟨_, rfl⟩
                 obtain ⟨k, hk0, hk1, rfl, hck, hbk, hokk⟩ := hrel
                 have HCK := Lib.hid hck
                 have HBK := Lib.hid hbk
                 have HOKK := Lib.hid hokk
                 clear hck hbk hokk
                 by_cases hkn : k + 1 < n1
                 · have k1 : (k : Int) < (n1 : Int) := by omega
                   have k2 : (k : Int) < (n1 : Int) - 1 := by omega
                   have hkl : k < n1 := by omega
                   obtain ⟨v, hv⟩ : ∃ v, decide (∃ a ∈ al, a.1.1 = (k : Int) ∨ a.1.2 = (k : Int)) = v := ⟨_, rfl⟩
                   obtain ⟨c1, hc1⟩ : ∃ c, Vg.inE (Vg.endsOf s al) k = c := ⟨_, rfl⟩
                   obtain ⟨c2, hc2⟩ : ∃ c, Vg.outE (Vg.endsOf s al) k = c := ⟨_, rfl⟩
                   have HS0 := Lib.hid (HCK.out.som.cell (i := k) (by rw [List.getElem?_toArray, boolN_at _ hkl, hv]))
                   have HS1 := Lib.hid (HCK.out.ent.cell (i := k * 32 + s) (by rw [List.getElem?_toArray, tabN_at _ hkl HS32.out, hc1]))
                   have HS2 := Lib.hid (HCK.out.lef.cell (i := k * 32 + s) (by rw [List.getElem?_toArray, tabN_at _ hkl HS32.out, hc2]))
                   have HV := Lib.hid hv
                   have HC1 := Lib.hid hc1
                   have HC2 := Lib.hid hc2
                   have HKN := Lib.hid hkn
                   have HKP := Lib.hid hk0
                   clear hv hc1 hc2 hkn hkl hk1
                   go_wp2_with (fail)
                   cases v with
                   | false =>
                    refine (wpIn_wide (n := 20)).1 ?_
                    refine wpIn_region_planM (fun W' => Below wk.heap.size wk W') 29 (.take 0 <| .take 1 <| .take 2 <| .take 3 <| .take 4 <| .take 5 <| .take 6 <| .take 7 <| .take 8 <| .take 9 <| .take 10 <| .take 11 <| .take 12 <| .take 13 <| .take 14 <| .take 15 <| .take 16 <| .take 17 <| .take 18 <| .take 19 <| .take 20 <| .take 21 <| .take 22 <| .take 23 <| .take 24 <| .take 25 <| .take 26 <| .take 27 <| .take 28 <| .fin) (fun _ => trivial) (by kernel_rfl) (by kernel_rfl) (bdrewN wk 1) ?_
                    iterate 3
                     apply pm_take rfl rfl (by rfl)
                     case hy =>
                      rintro W' hb'
                      clear hb'
                      go_simp
                      first | done | with_reducible rfl
                     simp only [List.setIfInBounds_toArray, List.set_cons_zero, List.set_cons_succ]
                    apply pm_take rfl rfl (by rfl)
                    case hy =>
                     rintro W' hb'
                     have e0 := cell_keep hb' HS0.out
                     have e1 := cell_keep hb' HS1.out
                     have e2 := cell_keep hb' HS2.out
                     clear hb'
                     go_simp
                     first | done | with_reducible rfl
                    simp only [List.setIfInBounds_toArray, List.set_cons_zero, List.set_cons_succ]
                    iterate 2
                     apply pm_take rfl rfl (by rfl)
                     case hy =>
                      rintro W' hb'
                      clear hb'
                      go_simp
                      first | done | with_reducible rfl
                     simp only [List.setIfInBounds_toArray, List.set_cons_zero, List.set_cons_succ]
                    iterate 7
                     apply pm_no (j := 5) (t := 204) (b := true) (c := false) rfl rfl rfl rfl rfl (by simp) rfl
                     simp only [List.setIfInBounds_toArray, List.set_cons_zero, List.set_cons_succ]
                    iterate 2
                     apply pm_take rfl rfl (by rfl)
                     case hy =>
                      rintro W' hb'
                      clear hb'
                      go_simp
                      first | done | with_reducible rfl
                     simp only [List.setIfInBounds_toArray, List.set_cons_zero, List.set_cons_succ]
                    iterate 13
                     apply pm_no (j := 14) (t := 213) (b := true) (c := false) rfl rfl rfl rfl rfl (by simp) rfl
                     simp only [List.setIfInBounds_toArray, List.set_cons_zero, List.set_cons_succ]
                    apply pm_take rfl rfl (by rfl)
                    case hy =>
                     rintro W' hb'
                     clear hb'
                     go_simp
                     first | done | with_reducible rfl
                    simp only [List.setIfInBounds_toArray, List.set_cons_zero, List.set_cons_succ]
                    refine pm_fin ?_
                    gi_wp2_with (fail)
                    go_wp2_with (fail)
                    go_ret
                    exact ⟨ret_i (HRC'.out fun hF => by obtain ⟨a, ha, hx⟩ := hF.1 k (by have := HKP.out; omega) (by have := HKN.out; omega); exact of_decide_eq_false HV.out ⟨a, ha, hx⟩).symm, below_drew' (bstep HB4.out HBK.out)⟩
                   | true =>
                    by_cases hgt : 1 < c1
                    · have hg1 : (1 : Int) < (c1 : Int) := by omega
                      refine (wpIn_wide (n := 20)).1 ?_
                      refine wpIn_region_planM (fun W' => Below wk.heap.size wk W') 29 (.take 0 <| .take 1 <| .take 2 <| .take 3 <| .take 4 <| .take 5 <| .take 6 <| .take 7 <| .take 8 <| .take 9 <| .take 10 <| .take 11 <| .take 12 <| .take 13 <| .take 14 <| .take 15 <| .take 16 <| .take 17 <| .take 18 <| .take 19 <| .take 20 <| .take 21 <| .take 22 <| .take 23 <| .take 24 <| .take 25 <| .take 26 <| .take 27 <| .take 28 <| .fin) (fun _ => trivial) (by kernel_rfl) (by kernel_rfl) (bdrewN wk 1) ?_
                      iterate 3
                       apply pm_take rfl rfl (by rfl)
                       case hy =>
                        rintro W' hb'
                        clear hb'
                        go_simp
                        first | done | with_reducible rfl
                       simp only [List.setIfInBounds_toArray, List.set_cons_zero, List.set_cons_succ]
                      apply pm_take rfl rfl (by rfl)
                      case hy =>
                       rintro W' hb'
                       have e0 := cell_keep hb' HS0.out
                       have e1 := cell_keep hb' HS1.out
                       have e2 := cell_keep hb' HS2.out
                       clear hb'
                       go_simp
                       first | done | with_reducible rfl
                      simp only [List.setIfInBounds_toArray, List.set_cons_zero, List.set_cons_succ]
                      iterate 2
                       apply pm_take rfl rfl (by rfl)
                       case hy =>
                        rintro W' hb'
                        clear hb'
                        go_simp
                        first | done | with_reducible rfl
                       simp only [List.setIfInBounds_toArray, List.set_cons_zero, List.set_cons_succ]
                      iterate 5
                       apply pm_gd (j := 5) (t := 204) (b := false) (c := false) rfl rfl rfl rfl rfl (by simp) rfl
                       case hy =>
                        rintro W' hb'
                        clear hb'
                        go_simp
                        first | done | with_reducible rfl
                       simp only [List.setIfInBounds_toArray, List.set_cons_zero, List.set_cons_succ]
                      apply pm_gd (j := 5) (t := 204) (b := false) (c := false) rfl rfl rfl rfl rfl (by simp) rfl
                      case hy =>
                       rintro W' hb'
                       have e0 := cell_keep hb' HS0.out
                       have e1 := cell_keep hb' HS1.out
                       have e2 := cell_keep hb' HS2.out
                       clear hb'
                       go_simp
                       first | done | with_reducible rfl
                      simp only [List.setIfInBounds_toArray, List.set_cons_zero, List.set_cons_succ]
                      apply pm_gd (j := 5) (t := 204) (b := false) (c := false) rfl rfl rfl rfl rfl (by simp) rfl
                      case hy =>
                       rintro W' hb'
                       clear hb'
                       go_simp
                       first | done | with_reducible rfl
                      simp only [List.setIfInBounds_toArray, List.set_cons_zero, List.set_cons_succ]
                      iterate 2
                       apply pm_take rfl rfl (by rfl)
                       case hy =>
                        rintro W' hb'
                        clear hb'
                        go_simp
                        first | done | with_reducible rfl
                       simp only [List.setIfInBounds_toArray, List.set_cons_zero, List.set_cons_succ]
                      iterate 13
                       apply pm_no (j := 14) (t := 213) (b := true) (c := false) rfl rfl rfl rfl rfl (by simp) rfl
                       simp only [List.setIfInBounds_toArray, List.set_cons_zero, List.set_cons_succ]
                      apply pm_take rfl rfl (by rfl)
                      case hy =>
                       rintro W' hb'
                       clear hb'
                       go_simp
                       first | done | with_reducible rfl
                      simp only [List.setIfInBounds_toArray, List.set_cons_zero, List.set_cons_succ]
                      refine pm_fin ?_
                      gi_wp2_with (fail)
                      go_wp2_with (fail)
                      go_ret
                      exact ⟨ret_i (HRC'.out fun hF => by have := ((hF.2 s HS32.out).2 k (by have := HKP.out; omega) (by have := HKN.out; omega)).1; rw [HC1.out] at this; omega).symm, below_drew' (bstep HB4.out HBK.out)⟩
                    · have hg1 : ¬((1 : Int) < (c1 : Int)) := by omega
                      by_cases hne : c1 = c2
                      · subst hne
                        have hb0 : ((c1 : Int) != (c1 : Int)) = false := by simp
                        refine (wpIn_wide (n := 20)).1 ?_
                        refine wpIn_region_planM (fun W' => Below wk.heap.size wk W') 29 (.take 0 <| .take 1 <| .take 2 <| .take 3 <| .take 4 <| .take 5 <| .take 6 <| .take 7 <| .take 8 <| .take 9 <| .take 10 <| .take 11 <| .take 12 <| .take 13 <| .take 14 <| .take 15 <| .take 16 <| .take 17 <| .take 18 <| .take 19 <| .take 20 <| .take 21 <| .take 22 <| .take 23 <| .take 24 <| .take 25 <| .take 26 <| .take 27 <| .take 28 <| .fin) (fun _ => trivial) (by kernel_rfl) (by kernel_rfl) (bdrewN wk 1) ?_
                        iterate 3
                         apply pm_take rfl rfl (by rfl)
                         case hy =>
                          rintro W' hb'
                          clear hb'
                          go_simp
                          first | done | with_reducible rfl
                         simp only [List.setIfInBounds_toArray, List.set_cons_zero, List.set_cons_succ]
                        apply pm_take rfl rfl (by rfl)
                        case hy =>
                         rintro W' hb'
                         have e0 := cell_keep hb' HS0.out
                         have e1 := cell_keep hb' HS1.out
                         have e2 := cell_keep hb' HS2.out
                         clear hb'
                         go_simp
                         first | done | with_reducible rfl
                        simp only [List.setIfInBounds_toArray, List.set_cons_zero, List.set_cons_succ]
                        iterate 2
                         apply pm_take rfl rfl (by rfl)
                         case hy =>
                          rintro W' hb'
                          clear hb'
                          go_simp
                          first | done | with_reducible rfl
                         simp only [List.setIfInBounds_toArray, List.set_cons_zero, List.set_cons_succ]
                        iterate 5
                         apply pm_gd (j := 5) (t := 204) (b := false) (c := false) rfl rfl rfl rfl rfl (by simp) rfl
                         case hy =>
                          rintro W' hb'
                          clear hb'
                          go_simp
                          first | done | with_reducible rfl
                         simp only [List.setIfInBounds_toArray, List.set_cons_zero, List.set_cons_succ]
                        apply pm_gd (j := 5) (t := 204) (b := false) (c := false) rfl rfl rfl rfl rfl (by simp) rfl
                        case hy =>
                         rintro W' hb'
                         have e0 := cell_keep hb' HS0.out
                         have e1 := cell_keep hb' HS1.out
                         have e2 := cell_keep hb' HS2.out
                         clear hb'
                         go_simp
                         first | done | with_reducible rfl
                        simp only [List.setIfInBounds_toArray, List.set_cons_zero, List.set_cons_succ]
                        apply pm_gd (j := 5) (t := 204) (b := false) (c := false) rfl rfl rfl rfl rfl (by simp) rfl
                        case hy =>
                         rintro W' hb'
                         clear hb'
                         go_simp
                         first | done | with_reducible rfl
                        simp only [List.setIfInBounds_toArray, List.set_cons_zero, List.set_cons_succ]
                        iterate 2
                         apply pm_take rfl rfl (by rfl)
                         case hy =>
                          rintro W' hb'
                          clear hb'
                          go_simp
                          first | done | with_reducible rfl
                         simp only [List.setIfInBounds_toArray, List.set_cons_zero, List.set_cons_succ]
                        iterate 5
                         apply pm_gd (j := 14) (t := 213) (b := false) (c := false) rfl rfl rfl rfl rfl (by simp) rfl
                         case hy =>
                          rintro W' hb'
                          clear hb'
                          go_simp
                          first | done | with_reducible rfl
                         simp only [List.setIfInBounds_toArray, List.set_cons_zero, List.set_cons_succ]
                        apply pm_gd (j := 14) (t := 213) (b := false) (c := false) rfl rfl rfl rfl rfl (by simp) rfl
                        case hy =>
                         rintro W' hb'
                         have e0 := cell_keep hb' HS0.out
                         have e1 := cell_keep hb' HS1.out
                         have e2 := cell_keep hb' HS2.out
                         clear hb'
                         go_simp
                         first | done | with_reducible rfl
                        simp only [List.setIfInBounds_toArray, List.set_cons_zero, List.set_cons_succ]
                        iterate 5
                         apply pm_gd (j := 14) (t := 213) (b := false) (c := false) rfl rfl rfl rfl rfl (by simp) rfl
                         case hy =>
                          rintro W' hb'
                          clear hb'
                          go_simp
                          first | done | with_reducible rfl
                         simp only [List.setIfInBounds_toArray, List.set_cons_zero, List.set_cons_succ]
                        apply pm_gd (j := 14) (t := 213) (b := false) (c := false) rfl rfl rfl rfl rfl (by simp) rfl
                        case hy =>
                         rintro W' hb'
                         have e0 := cell_keep hb' HS0.out
                         have e1 := cell_keep hb' HS1.out
                         have e2 := cell_keep hb' HS2.out
                         clear hb'
                         go_simp
                         first | done | with_reducible rfl
                        simp only [List.setIfInBounds_toArray, List.set_cons_zero, List.set_cons_succ]
                        apply pm_gd (j := 14) (t := 213) (b := false) (c := false) rfl rfl rfl rfl rfl (by simp) rfl
                        case hy =>
                         rintro W' hb'
                         clear hb'
                         go_simp
                         first | done | with_reducible rfl
                        simp only [List.setIfInBounds_toArray, List.set_cons_zero, List.set_cons_succ]
                        apply pm_take rfl rfl (by rfl)
                        case hy =>
                         rintro W' hb'
                         clear hb'
                         go_simp
                         first | done | with_reducible rfl
                        simp only [List.setIfInBounds_toArray, List.set_cons_zero, List.set_cons_succ]
                        refine pm_fin ?_
                        gi_wp2_with (fail)
                        go_wp2_with (fail)
                        go_roundw
                        case rel =>
                         refine ⟨k + 1, by omega, by have := HKN.out; omega, by simp, HCK.out.drew, below_drew' HBK.out, fun k' h1 h2 => ?_⟩
                         rcases Nat.lt_or_eq_of_le (Nat.le_of_lt_succ h2) with hlt | rfl
                         · exact HOKK.out k' h1 hlt
                         · exact ⟨of_decide_eq_true HV.out, by rw [HC1.out]; omega, by rw [HC1.out, HC2.out]⟩
                        case measure => have := HKN.out; simp [intOf]; omega
                      · have hb0 : ((c1 : Int) != (c2 : Int)) = true := bne_iff_ne.2 (by omega)
                        refine (wpIn_wide (n := 20)).1 ?_
                        refine wpIn_region_planM (fun W' => Below wk.heap.size wk W') 29 (.take 0 <| .take 1 <| .take 2 <| .take 3 <| .take 4 <| .take 5 <| .take 6 <| .take 7 <| .take 8 <| .take 9 <| .take 10 <| .take 11 <| .take 12 <| .take 13 <| .take 14 <| .take 15 <| .take 16 <| .take 17 <| .take 18 <| .take 19 <| .take 20 <| .take 21 <| .take 22 <| .take 23 <| .take 24 <| .take 25 <| .take 26 <| .take 27 <| .take 28 <| .fin) (fun _ => trivial) (by kernel_rfl) (by kernel_rfl) (bdrewN wk 1) ?_
                        iterate 3
                         apply pm_take rfl rfl (by rfl)
                         case hy =>
                          rintro W' hb'
                          clear hb'
                          go_simp
                          first | done | with_reducible rfl
                         simp only [List.setIfInBounds_toArray, List.set_cons_zero, List.set_cons_succ]
                        apply pm_take rfl rfl (by rfl)
                        case hy =>
                         rintro W' hb'
                         have e0 := cell_keep hb' HS0.out
                         have e1 := cell_keep hb' HS1.out
                         have e2 := cell_keep hb' HS2.out
                         clear hb'
                         go_simp
                         first | done | with_reducible rfl
                        simp only [List.setIfInBounds_toArray, List.set_cons_zero, List.set_cons_succ]
                        iterate 2
                         apply pm_take rfl rfl (by rfl)
                         case hy =>
                          rintro W' hb'
                          clear hb'
                          go_simp
                          first | done | with_reducible rfl
                         simp only [List.setIfInBounds_toArray, List.set_cons_zero, List.set_cons_succ]
                        iterate 5
                         apply pm_gd (j := 5) (t := 204) (b := false) (c := false) rfl rfl rfl rfl rfl (by simp) rfl
                         case hy =>
                          rintro W' hb'
                          clear hb'
                          go_simp
                          first | done | with_reducible rfl
                         simp only [List.setIfInBounds_toArray, List.set_cons_zero, List.set_cons_succ]
                        apply pm_gd (j := 5) (t := 204) (b := false) (c := false) rfl rfl rfl rfl rfl (by simp) rfl
                        case hy =>
                         rintro W' hb'
                         have e0 := cell_keep hb' HS0.out
                         have e1 := cell_keep hb' HS1.out
                         have e2 := cell_keep hb' HS2.out
                         clear hb'
                         go_simp
                         first | done | with_reducible rfl
                        simp only [List.setIfInBounds_toArray, List.set_cons_zero, List.set_cons_succ]
                        apply pm_gd (j := 5) (t := 204) (b := false) (c := false) rfl rfl rfl rfl rfl (by simp) rfl
                        case hy =>
                         rintro W' hb'
                         clear hb'
                         go_simp
                         first | done | with_reducible rfl
                        simp only [List.setIfInBounds_toArray, List.set_cons_zero, List.set_cons_succ]
                        iterate 2
                         apply pm_take rfl rfl (by rfl)
                         case hy =>
                          rintro W' hb'
                          clear hb'
                          go_simp
                          first | done | with_reducible rfl
                         simp only [List.setIfInBounds_toArray, List.set_cons_zero, List.set_cons_succ]
                        iterate 5
                         apply pm_gd (j := 14) (t := 213) (b := false) (c := false) rfl rfl rfl rfl rfl (by simp) rfl
                         case hy =>
                          rintro W' hb'
                          clear hb'
                          go_simp
                          first | done | with_reducible rfl
                         simp only [List.setIfInBounds_toArray, List.set_cons_zero, List.set_cons_succ]
                        apply pm_gd (j := 14) (t := 213) (b := false) (c := false) rfl rfl rfl rfl rfl (by simp) rfl
                        case hy =>
                         rintro W' hb'
                         have e0 := cell_keep hb' HS0.out
                         have e1 := cell_keep hb' HS1.out
                         have e2 := cell_keep hb' HS2.out
                         clear hb'
                         go_simp
                         first | done | with_reducible rfl
                        simp only [List.setIfInBounds_toArray, List.set_cons_zero, List.set_cons_succ]
                        iterate 5
                         apply pm_gd (j := 14) (t := 213) (b := false) (c := false) rfl rfl rfl rfl rfl (by simp) rfl
                         case hy =>
                          rintro W' hb'
                          clear hb'
                          go_simp
                          first | done | with_reducible rfl
                         simp only [List.setIfInBounds_toArray, List.set_cons_zero, List.set_cons_succ]
                        apply pm_gd (j := 14) (t := 213) (b := false) (c := false) rfl rfl rfl rfl rfl (by simp) rfl
                        case hy =>
                         rintro W' hb'
                         have e0 := cell_keep hb' HS0.out
                         have e1 := cell_keep hb' HS1.out
                         have e2 := cell_keep hb' HS2.out
                         clear hb'
                         go_simp
                         first | done | with_reducible rfl
                        simp only [List.setIfInBounds_toArray, List.set_cons_zero, List.set_cons_succ]
                        apply pm_gd (j := 14) (t := 213) (b := false) (c := false) rfl rfl rfl rfl rfl (by simp) rfl
                        case hy =>
                         rintro W' hb'
                         clear hb'
                         go_simp
                         first | done | with_reducible rfl
                        simp only [List.setIfInBounds_toArray, List.set_cons_zero, List.set_cons_succ]
                        apply pm_take rfl rfl (by rfl)
                        case hy =>
                         rintro W' hb'
                         clear hb'
                         go_simp
                         first | done | with_reducible rfl
                        simp only [List.setIfInBounds_toArray, List.set_cons_zero, List.set_cons_succ]
                        refine pm_fin ?_
                        gi_wp2_with (fail)
                        go_wp2_with (fail)
                        go_ret
                        exact ⟨ret_i (HRC'.out fun hF => by have := ((hF.2 s HS32.out).2 k (by have := HKP.out; omega) (by have := HKN.out; omega)).2; rw [HC1.out, HC2.out] at this; exact hne this).symm, below_drew' (bstep HB4.out HBK.out)⟩
                 · obtain rfl : n1 = k + 1 := by omega
                   have k2 : ¬((k : Int) < ((k + 1 : Nat) : Int) - 1) := by omega
                   go_wp2_with (fail)
                   go_roundw
                   case rel =>
                    refine ⟨s + 1, by have := HS32.out; omega, by simp, HCK.out, HBK.out, fun s' h => ?_⟩
                    rcases Nat.lt_or_eq_of_le (Nat.le_of_lt_succ h) with hlt | rfl
                    · exact HOK.out s' hlt
                    · exact ⟨HFI.out, fun k' h1 h2 => HOKK.out k' h1 (by omega)⟩
                   case measure => have := HS32.out; simp [intOf]; omega
               | true =>
                by_cases hc1 : c = 1
                · have HFI := Lib.hid (show Vg.endsOf s al ≠ [] → Vg.outE (Vg.endsOf s al) 0 = 1 from fun _ => by rw [HC.out, hc1])
                  subst hc1
                  go_wp2_with (fail)
                  clear hix hcl
                  go_loopw [18] (fun kv wr => ∃ k : Nat, 1 ≤ k ∧ k + 1 ≤ n1 ∧ kv = .int .i64 k ∧ CkS wr bE bL bS (bS + 1) n1 al ∧ Below W0.heap.size W0 wr ∧ ∀ k' : Nat, 0 < k' → k' < k → (∃ a ∈ al, a.1.1 = (k' : Int) ∨ a.1.2 = (k' : Int)) ∧ Vg.inE (Vg.endsOf s al) k' ≤ 1 ∧ Vg.inE (Vg.endsOf s al) k' = Vg.outE (Vg.endsOf s al) k') (fun kv _ => n1 - (intOf kv).toNat)
                  case atStart => exact ⟨1, Nat.le_refl _, d1, rfl, HCW.out, HBW.out, fun k' h1 h2 => by omega⟩
                  case round =>
                   obtain ⟨wk, rfl⟩ : ∃ wk : World, wk = wr := ⟨_, rfl⟩
                   obtain ⟨k, hk0, hk1, rfl, hck, hbk, hokk⟩ := hrel
                   have HCK := Lib.hid hck
                   have HBK := Lib.hid hbk
                   have HOKK := Lib.hid hokk
                   clear hck hbk hokk
                   by_cases hkn : k + 1 < n1
                   · have k1 : (k : Int) < (n1 : Int) := by omega
                     have k2 : (k : Int) < (n1 : Int) - 1 := by omega
                     have hkl : k < n1 := by omega
                     obtain ⟨v, hv⟩ : ∃ v, decide (∃ a ∈ al, a.1.1 = (k : Int) ∨ a.1.2 = (k : Int)) = v := ⟨_, rfl⟩
                     obtain ⟨c1, hc1⟩ : ∃ c, Vg.inE (Vg.endsOf s al) k = c := ⟨_, rfl⟩
                     obtain ⟨c2, hc2⟩ : ∃ c, Vg.outE (Vg.endsOf s al) k = c := ⟨_, rfl⟩
                     have HS0 := Lib.hid (HCK.out.som.cell (i := k) (by rw [List.getElem?_toArray, boolN_at _ hkl, hv]))
                     have HS1 := Lib.hid (HCK.out.ent.cell (i := k * 32 + s) (by rw [List.getElem?_toArray, tabN_at _ hkl HS32.out, hc1]))
                     have HS2 := Lib.hid (HCK.out.lef.cell (i := k * 32 + s) (by rw [List.getElem?_toArray, tabN_at _ hkl HS32.out, hc2]))
                     have HV := Lib.hid hv
                     have HC1 := Lib.hid hc1
                     have HC2 := Lib.hid hc2
                     have HKN := Lib.hid hkn
                     have HKP := Lib.hid hk0
                     clear hv hc1 hc2 hkn hkl hk1
                     go_wp2_with (fail)
                     cases v with
                     | false =>
                      refine (wpIn_wide (n := 20)).1 ?_
                      refine wpIn_region_planM (fun W' => Below wk.heap.size wk W') 29 (.take 0 <| .take 1 <| .take 2 <| .take 3 <| .take 4 <| .take 5 <| .take 6 <| .take 7 <| .take 8 <| .take 9 <| .take 10 <| .take 11 <| .take 12 <| .take 13 <| .take 14 <| .take 15 <| .take 16 <| .take 17 <| .take 18 <| .take 19 <| .take 20 <| .take 21 <| .take 22 <| .take 23 <| .take 24 <| .take 25 <| .take 26 <| .take 27 <| .take 28 <| .fin) (fun _ => trivial) (by kernel_rfl) (by kernel_rfl) (bdrewN wk 1) ?_
                      iterate 3
                       apply pm_take rfl rfl (by rfl)
                       case hy =>
                        rintro W' hb'
                        clear hb'
                        go_simp
                        first | done | with_reducible rfl
                       simp only [List.setIfInBounds_toArray, List.set_cons_zero, List.set_cons_succ]
                      apply pm_take rfl rfl (by rfl)
                      case hy =>
                       rintro W' hb'
                       have e0 := cell_keep hb' HS0.out
                       have e1 := cell_keep hb' HS1.out
                       have e2 := cell_keep hb' HS2.out
                       clear hb'
                       go_simp
                       first | done | with_reducible rfl
                      simp only [List.setIfInBounds_toArray, List.set_cons_zero, List.set_cons_succ]
                      iterate 2
                       apply pm_take rfl rfl (by rfl)
                       case hy =>
                        rintro W' hb'
                        clear hb'
                        go_simp
                        first | done | with_reducible rfl
                       simp only [List.setIfInBounds_toArray, List.set_cons_zero, List.set_cons_succ]
                      iterate 7
                       apply pm_no (j := 5) (t := 204) (b := true) (c := false) rfl rfl rfl rfl rfl (by simp) rfl
                       simp only [List.setIfInBounds_toArray, List.set_cons_zero, List.set_cons_succ]
                      iterate 2
                       apply pm_take rfl rfl (by rfl)
                       case hy =>
                        rintro W' hb'
                        clear hb'
                        go_simp
                        first | done | with_reducible rfl
                       simp only [List.setIfInBounds_toArray, List.set_cons_zero, List.set_cons_succ]
                      iterate 13
                       apply pm_no (j := 14) (t := 213) (b := true) (c := false) rfl rfl rfl rfl rfl (by simp) rfl
                       simp only [List.setIfInBounds_toArray, List.set_cons_zero, List.set_cons_succ]
                      apply pm_take rfl rfl (by rfl)
                      case hy =>
                       rintro W' hb'
                       clear hb'
                       go_simp
                       first | done | with_reducible rfl
                      simp only [List.setIfInBounds_toArray, List.set_cons_zero, List.set_cons_succ]
                      refine pm_fin ?_
                      gi_wp2_with (fail)
                      go_wp2_with (fail)
                      go_ret
                      exact ⟨ret_i (HRC'.out fun hF => by obtain ⟨a, ha, hx⟩ := hF.1 k (by have := HKP.out; omega) (by have := HKN.out; omega); exact of_decide_eq_false HV.out ⟨a, ha, hx⟩).symm, below_drew' (bstep HB4.out HBK.out)⟩
                     | true =>
                      by_cases hgt : 1 < c1
                      · have hg1 : (1 : Int) < (c1 : Int) := by omega
                        refine (wpIn_wide (n := 20)).1 ?_
                        refine wpIn_region_planM (fun W' => Below wk.heap.size wk W') 29 (.take 0 <| .take 1 <| .take 2 <| .take 3 <| .take 4 <| .take 5 <| .take 6 <| .take 7 <| .take 8 <| .take 9 <| .take 10 <| .take 11 <| .take 12 <| .take 13 <| .take 14 <| .take 15 <| .take 16 <| .take 17 <| .take 18 <| .take 19 <| .take 20 <| .take 21 <| .take 22 <| .take 23 <| .take 24 <| .take 25 <| .take 26 <| .take 27 <| .take 28 <| .fin) (fun _ => trivial) (by kernel_rfl) (by kernel_rfl) (bdrewN wk 1) ?_
                        iterate 3
                         apply pm_take rfl rfl (by rfl)
                         case hy =>
                          rintro W' hb'
                          clear hb'
                          go_simp
                          first | done | with_reducible rfl
                         simp only [List.setIfInBounds_toArray, List.set_cons_zero, List.set_cons_succ]
                        apply pm_take rfl rfl (by rfl)
                        case hy =>
                         rintro W' hb'
                         have e0 := cell_keep hb' HS0.out
                         have e1 := cell_keep hb' HS1.out
                         have e2 := cell_keep hb' HS2.out
                         clear hb'
                         go_simp
                         first | done | with_reducible rfl
                        simp only [List.setIfInBounds_toArray, List.set_cons_zero, List.set_cons_succ]
                        iterate 2
                         apply pm_take rfl rfl (by rfl)
                         case hy =>
                          rintro W' hb'
                          clear hb'
                          go_simp
                          first | done | with_reducible rfl
                         simp only [List.setIfInBounds_toArray, List.set_cons_zero, List.set_cons_succ]
                        iterate 5
                         apply pm_gd (j := 5) (t := 204) (b := false) (c := false) rfl rfl rfl rfl rfl (by simp) rfl
                         case hy =>
                          rintro W' hb'
                          clear hb'
                          go_simp
                          first | done | with_reducible rfl
                         simp only [List.setIfInBounds_toArray, List.set_cons_zero, List.set_cons_succ]
                        apply pm_gd (j := 5) (t := 204) (b := false) (c := false) rfl rfl rfl rfl rfl (by simp) rfl
                        case hy =>
                         rintro W' hb'
                         have e0 := cell_keep hb' HS0.out
                         have e1 := cell_keep hb' HS1.out
                         have e2 := cell_keep hb' HS2.out
                         clear hb'
                         go_simp
                         first | done | with_reducible rfl
                        simp only [List.setIfInBounds_toArray, List.set_cons_zero, List.set_cons_succ]
                        apply pm_gd (j := 5) (t := 204) (b := false) (c := false) rfl rfl rfl rfl rfl (by simp) rfl
                        case hy =>
                         rintro W' hb'
                         clear hb'
                         go_simp
                         first | done | with_reducible rfl
                        simp only [List.setIfInBounds_toArray, List.set_cons_zero, List.set_cons_succ]
                        iterate 2
                         apply pm_take rfl rfl (by rfl)
                         case hy =>
                          rintro W' hb'
                          clear hb'
                          go_simp
                          first | done | with_reducible rfl
                         simp only [List.setIfInBounds_toArray, List.set_cons_zero, List.set_cons_succ]
                        iterate 13
                         apply pm_no (j := 14) (t := 213) (b := true) (c := false) rfl rfl rfl rfl rfl (by simp) rfl
                         simp only [List.setIfInBounds_toArray, List.set_cons_zero, List.set_cons_succ]
                        apply pm_take rfl rfl (by rfl)
                        case hy =>
                         rintro W' hb'
                         clear hb'
                         go_simp
                         first | done | with_reducible rfl
                        simp only [List.setIfInBounds_toArray, List.set_cons_zero, List.set_cons_succ]
                        refine pm_fin ?_
                        gi_wp2_with (fail)
                        go_wp2_with (fail)
                        go_ret
                        exact ⟨ret_i (HRC'.out fun hF => by have := ((hF.2 s HS32.out).2 k (by have := HKP.out; omega) (by have := HKN.out; omega)).1; rw [HC1.out] at this; omega).symm, below_drew' (bstep HB4.out HBK.out)⟩
                      · have hg1 : ¬((1 : Int) < (c1 : Int)) := by omega
                        by_cases hne : c1 = c2
                        · subst hne
                          have hb0 : ((c1 : Int) != (c1 : Int)) = false := by simp
                          refine (wpIn_wide (n := 20)).1 ?_
                          refine wpIn_region_planM (fun W' => Below wk.heap.size wk W') 29 (.take 0 <| .take 1 <| .take 2 <| .take 3 <| .take 4 <| .take 5 <| .take 6 <| .take 7 <| .take 8 <| .take 9 <| .take 10 <| .take 11 <| .take 12 <| .take 13 <| .take 14 <| .take 15 <| .take 16 <| .take 17 <| .take 18 <| .take 19 <| .take 20 <| .take 21 <| .take 22 <| .take 23 <| .take 24 <| .take 25 <| .take 26 <| .take 27 <| .take 28 <| .fin) (fun _ => trivial) (by kernel_rfl) (by kernel_rfl) (bdrewN wk 1) ?_
                          iterate 3
                           apply pm_take rfl rfl (by rfl)
                           case hy =>
                            rintro W' hb'
                            clear hb'
                            go_simp
                            first | done | with_reducible rfl
                           simp only [List.setIfInBounds_toArray, List.set_cons_zero, List.set_cons_succ]
                          apply pm_take rfl rfl (by rfl)
                          case hy =>
                           rintro W' hb'
                           have e0 := cell_keep hb' HS0.out
                           have e1 := cell_keep hb' HS1.out
                           have e2 := cell_keep hb' HS2.out
                           clear hb'
                           go_simp
                           first | done | with_reducible rfl
                          simp only [List.setIfInBounds_toArray, List.set_cons_zero, List.set_cons_succ]
                          iterate 2
                           apply pm_take rfl rfl (by rfl)
                           case hy =>
                            rintro W' hb'
                            clear hb'
                            go_simp
                            first | done | with_reducible rfl
                           simp only [List.setIfInBounds_toArray, List.set_cons_zero, List.set_cons_succ]
                          iterate 5
                           apply pm_gd (j := 5) (t := 204) (b := false) (c := false) rfl rfl rfl rfl rfl (by simp) rfl
                           case hy =>
                            rintro W' hb'
                            clear hb'
                            go_simp
                            first | done | with_reducible rfl
                           simp only [List.setIfInBounds_toArray, List.set_cons_zero, List.set_cons_succ]
                          apply pm_gd (j := 5) (t := 204) (b := false) (c := false) rfl rfl rfl rfl rfl (by simp) rfl
                          case hy =>
                           rintro W' hb'
                           have e0 := cell_keep hb' HS0.out
                           have e1 := cell_keep hb' HS1.out
                           have e2 := cell_keep hb' HS2.out
                           clear hb'
                           go_simp
                           first | done | with_reducible rfl
                          simp only [List.setIfInBounds_toArray, List.set_cons_zero, List.set_cons_succ]
                          apply pm_gd (j := 5) (t := 204) (b := false) (c := false) rfl rfl rfl rfl rfl (by simp) rfl
                          case hy =>
                           rintro W' hb'
                           clear hb'
                           go_simp
                           first | done | with_reducible rfl
                          simp only [List.setIfInBounds_toArray, List.set_cons_zero, List.set_cons_succ]
                          iterate 2
                           apply pm_take rfl rfl (by rfl)
                           case hy =>
                            rintro W' hb'
                            clear hb'
                            go_simp
                            first | done | with_reducible rfl
                           simp only [List.setIfInBounds_toArray, List.set_cons_zero, List.set_cons_succ]
                          iterate 5
                           apply pm_gd (j := 14) (t := 213) (b := false) (c := false) rfl rfl rfl rfl rfl (by simp) rfl
                           case hy =>
                            rintro W' hb'
                            clear hb'
                            go_simp
                            first | done | with_reducible rfl
                           simp only [List.setIfInBounds_toArray, List.set_cons_zero, List.set_cons_succ]
                          apply pm_gd (j := 14) (t := 213) (b := false) (c := false) rfl rfl rfl rfl rfl (by simp) rfl
                          case hy =>
                           rintro W' hb'
                           have e0 := cell_keep hb' HS0.out
                           have e1 := cell_keep hb' HS1.out
                           have e2 := cell_keep hb' HS2.out
                           clear hb'
                           go_simp
                           first | done | with_reducible rfl
                          simp only [List.setIfInBounds_toArray, List.set_cons_zero, List.set_cons_succ]
                          iterate 5
                           apply pm_gd (j := 14) (t := 213) (b := false) (c := false) rfl rfl rfl rfl rfl (by simp) rfl
                           case hy =>
                            rintro W' hb'
                            clear hb'
                            go_simp
                            first | done | with_reducible rfl
                           simp only [List.setIfInBounds_toArray, List.set_cons_zero, List.set_cons_succ]
                          apply pm_gd (j := 14) (t := 213) (b := false) (c := false) rfl rfl rfl rfl rfl (by simp) rfl
                          case hy =>
                           rintro W' hb'
                           have e0 := cell_keep hb' HS0.out
                           have e1 := cell_keep hb' HS1.out
                           have e2 := cell_keep hb' HS2.out
                           clear hb'
                           go_simp
                           first | done | with_reducible rfl
                          simp only [List.setIfInBounds_toArray, List.set_cons_zero, List.set_cons_succ]
                          apply pm_gd (j := 14) (t := 213) (b := false) (c := false) rfl rfl rfl rfl rfl (by simp) rfl
                          case hy =>
                           rintro W' hb'
                           clear hb'
                           go_simp
                           first | done | with_reducible rfl
                          simp only [List.setIfInBounds_toArray, List.set_cons_zero, List.set_cons_succ]
                          apply pm_take rfl rfl (by rfl)
                          case hy =>
                           rintro W' hb'
                           clear hb'
                           go_simp
                           first | done | with_reducible rfl
                          simp only [List.setIfInBounds_toArray, List.set_cons_zero, List.set_cons_succ]
                          refine pm_fin ?_
                          gi_wp2_with (fail)
                          go_wp2_with (fail)
                          go_roundw
                          case rel =>
                           refine ⟨k + 1, by omega, by have := HKN.out; omega, by simp, HCK.out.drew, below_drew' HBK.out, fun k' h1 h2 => ?_⟩
                           rcases Nat.lt_or_eq_of_le (Nat.le_of_lt_succ h2) with hlt | rfl
                           · exact HOKK.out k' h1 hlt
                           · exact ⟨of_decide_eq_true HV.out, by rw [HC1.out]; omega, by rw [HC1.out, HC2.out]⟩
                          case measure => have := HKN.out; simp [intOf]; omega
                        · have hb0 : ((c1 : Int) != (c2 : Int)) = true := bne_iff_ne.2 (by omega)
                          refine (wpIn_wide (n := 20)).1 ?_
                          refine wpIn_region_planM (fun W' => Below wk.heap.size wk W') 29 (.take 0 <| .take 1 <| .take 2 <| .take 3 <| .take 4 <| .take 5 <| .take 6 <| .take 7 <| .take 8 <| .take 9 <| .take 10 <| .take 11 <| .take 12 <| .take 13 <| .take 14 <| .take 15 <| .take 16 <| .take 17 <| .take 18 <| .take 19 <| .take 20 <| .take 21 <| .take 22 <| .take 23 <| .take 24 <| .take 25 <| .take 26 <| .take 27 <| .take 28 <| .fin) (fun _ => trivial) (by kernel_rfl) (by kernel_rfl) (bdrewN wk 1) ?_
                          iterate 3
                           apply pm_take rfl rfl (by rfl)
                           case hy =>
                            rintro W' hb'
                            clear hb'
                            go_simp
                            first | done | with_reducible rfl
                           simp only [List.setIfInBounds_toArray, List.set_cons_zero, List.set_cons_succ]
                          apply pm_take rfl rfl (by rfl)
                          case hy =>
                           rintro W' hb'
                           have e0 := cell_keep hb' HS0.out
                           have e1 := cell_keep hb' HS1.out
                           have e2 := cell_keep hb' HS2.out
                           clear hb'
                           go_simp
                           first | done | with_reducible rfl
                          simp only [List.setIfInBounds_toArray, List.set_cons_zero, List.set_cons_succ]
                          iterate 2
                           apply pm_take rfl rfl (by rfl)
                           case hy =>
                            rintro W' hb'
                            clear hb'
                            go_simp
                            first | done | with_reducible rfl
                           simp only [List.setIfInBounds_toArray, List.set_cons_zero, List.set_cons_succ]
                          iterate 5
                           apply pm_gd (j := 5) (t := 204) (b := false) (c := false) rfl rfl rfl rfl rfl (by simp) rfl
                           case hy =>
                            rintro W' hb'
                            clear hb'
                            go_simp
                            first | done | with_reducible rfl
                           simp only [List.setIfInBounds_toArray, List.set_cons_zero, List.set_cons_succ]
                          apply pm_gd (j := 5) (t := 204) (b := false) (c := false) rfl rfl rfl rfl rfl (by simp) rfl
                          case hy =>
                           rintro W' hb'
                           have e0 := cell_keep hb' HS0.out
                           have e1 := cell_keep hb' HS1.out
                           have e2 := cell_keep hb' HS2.out
                           clear hb'
                           go_simp
                           first | done | with_reducible rfl
                          simp only [List.setIfInBounds_toArray, List.set_cons_zero, List.set_cons_succ]
                          apply pm_gd (j := 5) (t := 204) (b := false) (c := false) rfl rfl rfl rfl rfl (by simp) rfl
                          case hy =>
                           rintro W' hb'
                           clear hb'
                           go_simp
                           first | done | with_reducible rfl
                          simp only [List.setIfInBounds_toArray, List.set_cons_zero, List.set_cons_succ]
                          iterate 2
                           apply pm_take rfl rfl (by rfl)
                           case hy =>
                            rintro W' hb'
                            clear hb'
                            go_simp
                            first | done | with_reducible rfl
                           simp only [List.setIfInBounds_toArray, List.set_cons_zero, List.set_cons_succ]
                          iterate 5
                           apply pm_gd (j := 14) (t := 213) (b := false) (c := false) rfl rfl rfl rfl rfl (by simp) rfl
                           case hy =>
                            rintro W' hb'
                            clear hb'
                            go_simp
                            first | done | with_reducible rfl
                           simp only [List.setIfInBounds_toArray, List.set_cons_zero, List.set_cons_succ]
                          apply pm_gd (j := 14) (t := 213) (b := false) (c := false) rfl rfl rfl rfl rfl (by simp) rfl
                          case hy =>
                           rintro W' hb'
                           have e0 := cell_keep hb' HS0.out
                           have e1 := cell_keep hb' HS1.out
                           have e2 := cell_keep hb' HS2.out
                           clear hb'
                           go_simp
                           first | done | with_reducible rfl
                          simp only [List.setIfInBounds_toArray, List.set_cons_zero, List.set_cons_succ]
                          iterate 5
                           apply pm_gd (j := 14) (t := 213) (b := false) (c := false) rfl rfl rfl rfl rfl (by simp) rfl
                           case hy =>
                            rintro W' hb'
                            clear hb'
                            go_simp
                            first | done | with_reducible rfl
                           simp only [List.setIfInBounds_toArray, List.set_cons_zero, List.set_cons_succ]
                          apply pm_gd (j := 14) (t := 213) (b := false) (c := false) rfl rfl rfl rfl rfl (by simp) rfl
                          case hy =>
                           rintro W' hb'
                           have e0 := cell_keep hb' HS0.out
                           have e1 := cell_keep hb' HS1.out
                           have e2 := cell_keep hb' HS2.out
                           clear hb'
                           go_simp
                           first | done | with_reducible rfl
                          simp only [List.setIfInBounds_toArray, List.set_cons_zero, List.set_cons_succ]
                          apply pm_gd (j := 14) (t := 213) (b := false) (c := false) rfl rfl rfl rfl rfl (by simp) rfl
                          case hy =>
                           rintro W' hb'
                           clear hb'
                           go_simp
                           first | done | with_reducible rfl
                          simp only [List.setIfInBounds_toArray, List.set_cons_zero, List.set_cons_succ]
                          apply pm_take rfl rfl (by rfl)
                          case hy =>
                           rintro W' hb'
                           clear hb'
                           go_simp
                           first | done | with_reducible rfl
                          simp only [List.setIfInBounds_toArray, List.set_cons_zero, List.set_cons_succ]
                          refine pm_fin ?_
                          gi_wp2_with (fail)
                          go_wp2_with (fail)
                          go_ret
                          exact ⟨ret_i (HRC'.out fun hF => by have := ((hF.2 s HS32.out).2 k (by have := HKP.out; omega) (by have := HKN.out; omega)).2; rw [HC1.out, HC2.out] at this; exact hne this).symm, below_drew' (bstep HB4.out HBK.out)⟩
                   · obtain rfl : n1 = k + 1 := by omega
                     have k2 : ¬((k : Int) < ((k + 1 : Nat) : Int) - 1) := by omega
                     go_wp2_with (fail)
                     go_roundw
                     case rel =>
                      refine ⟨s + 1, by have := HS32.out; omega, by simp, HCK.out, HBK.out, fun s' h => ?_⟩
                      rcases Nat.lt_or_eq_of_le (Nat.le_of_lt_succ h) with hlt | rfl
                      · exact HOK.out s' hlt
                      · exact ⟨HFI.out, fun k' h1 h2 => HOKK.out k' h1 (by omega)⟩
                     case measure => have := HS32.out; simp [intOf]; omega
                · have hcb : ((c : Int) != 1) = true := bne_iff_ne.2 (by omega)
                  go_wp2_with (fail)
                  go_ret
                  exact ⟨ret_i (HRC'.out fun hF => hc1 (by rw [← HC.out]; exact (hF.2 s HS32.out).1 (HGI.out.1 (by simp)))).symm, bstep HB4.out HBW.out⟩
             · obtain rfl : s = 32 := by omega
               go_wp2_with (fail)
               go_ret
               refine ⟨ret_i (HRB'.out ⟨fun k h1 h2 => ?_, fun s hs => ⟨(HOK.out s hs).1, fun k h1 h2 => ?_⟩⟩).symm, bstep HB4.out HBW.out⟩
               · obtain ⟨k, rfl⟩ : ∃ k' : Nat, k = k' := ⟨k.toNat, by omega⟩
                 exact ((HOK.out 0 (by omega)).2 k (by omega) (by omega)).1
               · obtain ⟨k, rfl⟩ : ∃ k' : Nat, k = k' := ⟨k.toNat, by omega⟩
                 exact ((HOK.out s hs).2 k (by omega) (by omega)).2
end Go.Proofs.YtjmebijckcimoaaGreatDoor
