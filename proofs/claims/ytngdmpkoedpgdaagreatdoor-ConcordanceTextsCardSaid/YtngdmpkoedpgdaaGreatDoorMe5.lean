/-
  Lists of postings; a search in them; Merge in plain words.
-/
import Derived.Test.YtngdmpkoedpgdaaGreatDoorCo5
import Derived.Test.YtngdmpkoedpgdaaGreatDoorHp
namespace Go.Ap
open Go Go.RowKit
/-- a slice value that reads as postings -/
def PostsR (w : World) (v : Value) (l : List Post) : Prop := ∃ a n c, v = .slice a n c ∧ Posts w a n l
abbrev Posts2 := Sl PostsR
theorem Posts2.mono {w w' : World} {B : Nat} {a : Option Addr} {n : Nat} {ls : List (List Post)} (h : Posts2 w a n ls) (hB : w.heap.size ≤ B) (hb : Below B w w') : Posts2 w' a n ls :=
  Sl.mono h hB hb fun v x hr => by
    obtain ⟨a, n, c, rfl, hp⟩ := hr
    exact ⟨a, n, c, rfl, hp.mono hB hb⟩
/-- Merge in plain words -/
def mergeI (ls : List (List Post)) : List Post := idxM mkB (flatE ls.flatten)
def mergeC (ls : List (List Post)) : Int := if 64 < ls.length then 4 else if (ls.any fun l => !indexB l) = true then 1 else 0
theorem merge_two (es es' : List Entry) : mergeI [idxM mkB es, idxM mkB es'] = idxM mkB (es ++ es') :=
  idx_same fun x => by
    simp only [List.flatten_cons, List.flatten_nil, List.append_nil]
    rw [flatE_app, List.mem_append, List.mem_append, flatE_idx, flatE_idx]
theorem merge_swap (es es' : List Entry) : mergeI [idxM mkB es', idxM mkB es] = idxM mkB (es ++ es') := by
  rw [merge_two]
  exact idx_same fun x => by rw [List.mem_append, List.mem_append, or_comm]
theorem merge_self (es : List Entry) : mergeI [idxM mkB es, idxM mkB es] = idxM mkB es := by
  rw [merge_two]
  exact idx_same fun x => by rw [List.mem_append, or_self]
theorem mergeC_ok {ls : List (List Post)} (h1 : ls.length ≤ 64) (h2 : ∀ l ∈ ls, indexB l = true) : mergeC ls = 0 := by
  unfold mergeC
  rw [if_neg (by omega), if_neg]
  rw [Bool.not_eq_true, List.any_eq_false]
  intro l hl
  simp [h2 l hl]
/-- a row of lists of postings, cell by cell -/
theorem rowsV_posts {w : World} {a : Option Addr} {n : Nat} {ls : List (List Post)} (h : Posts2 w a n ls) : ∃ (qss : List (List PIt)), qss.map (fun qs => qs.map (·.1)) = ls ∧ RowsV 3 w a n (qss.map fun qs => (qs.length, qs.flatMap piC)) ∧ ∀ qs ∈ qss, ∀ p ∈ qs, ∃ a k, p.2 = .slice a p.1.2.length k ∧ PostS w a p.1 := by
  have key : ∀ k, k ≤ ls.length → ∃ (qss : List (List PIt)), qss.map (fun qs => qs.map (·.1)) = ls.take k ∧ (∀ (i : Nat) (qs : List PIt), qss[i]? = some qs → ∃ b o a1 c1, a = some ⟨b, o, none⟩ ∧ w.cell? ⟨b, o + i, none⟩ = some (.slice a1 qs.length c1) ∧ Reads 3 w a1 qs.length (qs.flatMap piC)) ∧ ∀ qs ∈ qss, ∀ p ∈ qs, ∃ a k, p.2 = .slice a p.1.2.length k ∧ PostS w a p.1 := fun k => by
    induction k with
    | zero => exact fun _ => ⟨[], by simp, fun i qs hi => by simp at hi, fun qs hq => by cases hq⟩
    | succ k ih =>
      intro hk
      obtain ⟨qss, h1, h2, h3⟩ := ih (by omega)
      have hx := List.getElem?_eq_getElem (show k < ls.length by omega)
      obtain ⟨b, o, v, ha, hc, a1, n1, c1, rfl, hp⟩ := h.cells k _ hx
      obtain ⟨qs, q1, q2, q3⟩ := reads_posts hp
      have hql : qs.length = n1 := by rw [← hp.len, ← q1, List.length_map]
      have hl : qss.length = k := by
        have := congrArg List.length h1
        rw [List.length_map, List.length_take] at this
        omega
      refine ⟨qss ++ [qs], by rw [List.map_append, h1, List.take_add_one, hx]; simp [q1], fun i x hi => ?_, fun x hx p hp => ?_⟩
      · by_cases hik : i < k
        · rw [List.getElem?_append_left (by omega)] at hi
          exact h2 i x hi
        · rw [List.getElem?_append_right (by omega), hl] at hi
          have : i = k := by
            have := (List.getElem?_eq_some_iff.1 hi).1
            simp at this
            omega
          subst this
          simp at hi
          subst hi
          exact ⟨b, o, a1, c1, ha, by rw [hql]; exact hc, by rw [hql]; exact q2⟩
      · rcases List.mem_append.1 hx with hx | hx
        · exact h3 x hx p hp
        · rw [List.mem_singleton] at hx
          subst hx
          exact q3 p hp
  obtain ⟨qss, h1, h2, h3⟩ := key ls.length (Nat.le_refl _)
  rw [List.take_length] at h1
  refine ⟨qss, h1, ⟨by rw [List.length_map, ← h.len, ← h1, List.length_map], h.small, fun k x hk => ?_⟩, h3⟩
  rw [List.getElem?_map, Option.map_eq_some_iff] at hk
  obtain ⟨qs, hq, rfl⟩ := hk
  exact h2 k qs hq
theorem sumN_posts (qss : List (List PIt)) : sumN (qss.map fun qs => (qs.length, qs.flatMap piC)) = (qss.map (fun qs => qs.map (·.1))).flatten.length := by
  unfold sumN
  rw [List.length_flatten, List.map_map, List.map_map]
  congr 1
  refine List.map_congr_left fun qs _ => ?_
  simp
theorem flatV_posts (qss : List (List PIt)) : flatV (qss.map fun qs => (qs.length, qs.flatMap piC)) = qss.flatten.flatMap piC := by
  unfold flatV
  rw [List.flatMap_map]
  induction qss with
  | nil => rfl
  | cons x r ih => rw [List.flatMap_cons, ih, List.flatten_cons, List.flatMap_append]
end Go.Ap
namespace Go.Proofs.YtngdmpkoedpgdaaGreatDoor
open Go.RowKit Go.Ap Go.Shelf Go.Proofs

attribute [local go_sem] Oper.semAt_some bs_toList empty_toList bs_size bs_extract
set_option maxHeartbeats 1000000 in
theorem idxPs2 (p : List Post → Bool) (a : Option Addr) (n c : Nat) (xs : List (List Post)) (g : Nat) (cap : Array Value) (w : World) (h : Posts2 w a n xs)
    (eg : ∀ args w, (callFunc g args).run Tryz.prog w = .ok (.enter g args) w)
    (hp : ∀ u ∈ xs, ∀ W a1 n1 c1, Posts W a1 n1 u → Below w.heap.size w W → Calls Tryz.prog g (#[.slice a1 n1 c1] ++ cap) W fun e w' => e = .returned (.bool (p u)) ∧ Below W.heap.size W w') :
    Calls Tryz.prog 113 #[.slice a n c, .func (.func g) #[] cap] w fun e w' => e = .returned (.int .i64 (idxF p xs)) ∧ Below w.heap.size w w' := by
  have hlen := h.len
  have hsm := h.small
  have HL := Lib.hid hlen
  have HP := Lib.hid hp
  have HX := Lib.hid h
  clear hlen hp h
  go_enter Tryz.func113, Tryz.ntmps113
  go_wp2_with (fail)
  go_loopw [8] (fun i wr => ∃ k : Nat, k ≤ n ∧ i = .int .i64 k ∧ Below w.heap.size w wr ∧ idxG (pAt p xs) (n - k) k = idxF p xs) (fun i _ => n - (intOf i).toNat)
  case atStart => exact ⟨0, by omega, rfl, Below.refl _ _, by unfold idxF; rw [HL.out]; rfl⟩
  case round =>
    obtain ⟨k, hk, rfl, hb, hch⟩ := hrel
    have HC := Lib.hid hch
    have HB := Lib.hid hb
    clear hch
    by_cases hlt : k < n
    · obtain ⟨t, b, off, v, ht, rfl, hcv, ⟨a1, n1, c1, rfl, hps⟩⟩ := Sl.at (Posts2.mono HX.out (Nat.le_refl _) hb) hlt
      obtain ⟨f, hf⟩ : ∃ f, n - k = f + 1 := ⟨n - k - 1, by omega⟩
      have HF := Lib.hid hf
      have HPA := Lib.hid (show pAt p xs k = p t by simp [pAt, ht])
      have HCALL := Lib.hid (HP.out t (List.mem_of_getElem? ht) wr a1 n1 c1 hps hb)
      clear hf ht hb hps
      go_wp2_with (fail)
      refine HCALL.out.mono ?_
      rintro e w' ⟨rfl, hb2⟩
      have HB2 := Lib.hid (bstep HB.out hb2)
      clear hb2
      cases hpx : p t
      all_goals
        have HPX := Lib.hid hpx
        clear hpx
        go_wp2_with (fail)
      · exact ⟨⟨k + 1, by omega, by go_num, HB2.out, by rw [← HC.out, HF.out, idxG_no (HPA.out.trans HPX.out), show n - (k + 1) = f by have := HF.out; omega]⟩, by simp [intOf]; omega⟩
      · go_ret
        exact ⟨ret_i (by rw [← HC.out, HF.out, idxG_yes (HPA.out.trans HPX.out)]), HB2.out⟩
    · go_wp2_with (fail)
      go_ret
      exact ⟨ret_i (by rw [← HC.out, show n - k = 0 by omega, idxG]), HB.out⟩
set_option maxHeartbeats 1000000 in
theorem contPs2 (p : List Post → Bool) (a : Option Addr) (n c : Nat) (xs : List (List Post)) (g : Nat) (cap : Array Value) (w : World) (h : Posts2 w a n xs)
    (eg : ∀ args w, (callFunc g args).run Tryz.prog w = .ok (.enter g args) w)
    (hp : ∀ u ∈ xs, ∀ W a1 n1 c1, Posts W a1 n1 u → Below w.heap.size w W → Calls Tryz.prog g (#[.slice a1 n1 c1] ++ cap) W fun e w' => e = .returned (.bool (p u)) ∧ Below W.heap.size W w') :
    Calls Tryz.prog 50 #[.slice a n c, .func (.func g) #[] cap] w fun e w' => e = .returned (.bool (xs.any p)) ∧ Below w.heap.size w w' := by
  have H := Lib.hid (idxPs2 p a n c xs g cap w h eg hp)
  clear hp eg h
  go_enter Tryz.func50, Tryz.ntmps50
  go_wp2_with (fail)
  refine H.out.mono ?_
  rintro e w1 ⟨rfl, hb⟩
  go_wp2_with (fail)
  go_ret
  exact ⟨ret_b (idxF_any p xs), hb⟩
theorem merge1 (l : List Post) (a : Option Addr) (n c : Nat) (w : World) (h : Posts w a n l) : Calls Tryz.prog 84 #[.slice a n c] w fun e w' => e = .returned (.bool (!indexB l)) ∧ Below w.heap.size w w' := by
  have HC := Lib.hid (indexP l a n c w h)
  generalize indexB l = v at *
  clear h
  go_enter Tryz.func84, Tryz.ntmps84
  go_wp2_with (fail)
  refine HC.out.mono ?_
  rintro e w' ⟨rfl, hb⟩
  go_wp2_with (fail)
  go_ret
  exact ⟨rfl, hb⟩
theorem badPosts (a : Option Addr) (n c : Nat) (ls : List (List Post)) (w : World) (h : Posts2 w a n ls) :
    Calls Tryz.prog 50 #[.slice a n c, .func (.func 84) #[] #[]] w fun e w' => e = .returned (.bool (ls.any fun l => !indexB l)) ∧ Below w.heap.size w w' :=
  contPs2 (fun l => !indexB l) a n c ls 84 #[] w h (enters_of Tryz.func84 (by kernel_rfl) rfl) (fun u _ W a1 n1 c1 hp _ => merge1 u a1 n1 c1 W hp)
/-- the postings of all lists, one after the other -/
theorem concP2 (a : Option Addr) (n c : Nat) (ls : List (List Post)) (w : World) (h : Posts2 w a n ls) (hl : ls.flatten.length ≤ 100000) :
    Calls Tryz.prog 85 #[.slice a n c] w fun e w' => ∃ v, e = .returned v ∧ OwnPs 37 w w' w.heap.size v ls.flatten ∧ Below w.heap.size w w' := by
  obtain ⟨qss, h1, h2, h3⟩ := rowsV_posts h
  have e1 := sumN_posts qss
  have e2 := flatV_posts qss
  rw [h1] at e1
  refine (concP a n c _ w h2 (by rw [e1]; exact hl)).mono ?_
  rintro e w' ⟨v, rfl, ho, hb⟩
  rw [e1, e2] at ho
  have hq : qss.flatten.map (·.1) = ls.flatten := by rw [← h1, List.map_flatten]
  refine ⟨v, rfl, ⟨qss.flatten, hq, ?_, fun p hp => ?_⟩, hb⟩
  · rw [show qss.flatten.length = ls.flatten.length by rw [← hq, List.length_map]]
    exact ho
  · obtain ⟨qs, hqs, hp⟩ := List.mem_flatten.1 hp
    exact h3 qs hqs p hp
end Go.Proofs.YtngdmpkoedpgdaaGreatDoor
