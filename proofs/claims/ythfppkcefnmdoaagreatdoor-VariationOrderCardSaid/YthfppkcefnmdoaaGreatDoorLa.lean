/-
  What the laws of the chapter call: sorted ints, counts of sources.
-/
import Derived.Test.YthfppkcefnmdoaaGreatDoorFu
import Derived.Test.YthfppkcefnmdoaaGreatDoorAw
import Derived.Test.YthfppkcefnmdoaaGreatDoorPl
namespace Go.Ap
def seenL (n : Nat) (done : List Int) : List Int := (List.range n).map fun z => if ((z : Nat) : Int) ∈ done then 1 else 0
theorem seenL_len (n : Nat) (done : List Int) : (seenL n done).length = n := by simp [seenL]
theorem seenL_nil (n : Nat) : seenL n [] = List.replicate n 0 := by
  apply List.ext_getElem
  · simp [seenL]
  · intro i h1 h2
    simp [seenL]
theorem seenL_nth {n z : Nat} {done : List Int} (hz : z < n) : nth (seenL n done) z = if (z : Int) ∈ done then 1 else 0 := by
  unfold nth seenL
  simp [hz]
theorem seenL_push {n z : Nat} {done : List Int} : (seenL n done).set z 1 = seenL n (done ++ [(z : Int)]) := by
  apply List.ext_getElem
  · simp [seenL]
  · intro i h1 h2
    rw [List.getElem_set]
    simp only [seenL, List.getElem_map, List.getElem_range, List.mem_append, List.mem_singleton]
    by_cases h : z = i
    · subst h; simp
    · have : ¬ ((i : Nat) : Int) = (z : Int) := by omega
      simp [h, this]
theorem seenL_full {n : Nat} {done : List Int} (h : ∀ z : Nat, z < n → (z : Int) ∈ done) : seenL n done = List.replicate n 1 := by
  apply List.ext_getElem
  · simp [seenL]
  · intro i h1 h2
    have := h i (by simpa [seenL] using h1)
    simp [seenL, this]
def doneL (rds : List Rdg) (i : Nat) : List Int := ((rds.take i).map (·.2)).flatten
theorem doneL_succ {rds : List Rdg} {i : Nat} {r : Rdg} (h : rds[i]? = some r) : doneL rds (i + 1) = doneL rds i ++ r.2 := by
  unfold doneL
  rw [List.take_add_one, h]
  simp
theorem doneL_mem {rds : List Rdg} {i : Nat} {z : Int} : z ∈ doneL rds i ↔ ∃ j q, j < i ∧ rds[j]? = some q ∧ z ∈ q.2 := by
  unfold doneL
  simp only [List.mem_flatten, List.mem_map]
  constructor
  · rintro ⟨_, ⟨q, hq, rfl⟩, hz⟩
    obtain ⟨j, hj⟩ := List.getElem?_of_mem hq
    rw [List.getElem?_take] at hj
    split at hj
    · exact ⟨j, q, by assumption, hj, hz⟩
    · cases hj
  · rintro ⟨j, q, hj, hq, hz⟩
    exact ⟨q.2, ⟨q, List.mem_of_getElem? (show (rds.take i)[j]? = some q by rw [List.getElem?_take, if_pos hj, hq]), rfl⟩, hz⟩
theorem RdsAt.fresh {W : Nat → List Str} {s : Nat} {rds : List Rdg} (h : RdsAt W s rds) {i j : Nat} {r : Rdg} {z : Int} (hr : rds[i]? = some r) (hz : r.2[j]? = some z) : z ∉ doneL rds i ++ r.2.take j := by
  rw [List.mem_append, not_or]
  refine ⟨fun hm => ?_, fun hm => ?_⟩
  · obtain ⟨k, q, hk, hq, hzq⟩ := doneL_mem.1 hm
    have := h.one hq hr hzq (List.mem_of_getElem? hz)
    omega
  · obtain ⟨k, hk⟩ := List.getElem?_of_mem hm
    rw [List.getElem?_take] at hk
    split at hk
    · rename_i hkj
      obtain ⟨h1, h2⟩ := List.getElem?_eq_some_iff.1 hk
      obtain ⟨h3, h4⟩ := List.getElem?_eq_some_iff.1 hz
      have := (List.pairwise_iff_getElem.1 (h.src r (List.mem_of_getElem? hr)).2.1) k j h1 h3 hkj
      omega
    · cases hk
theorem RdsAt.who {W : Nat → List Str} {s : Nat} {rds : List Rdg} (h : RdsAt W s rds) {i : Nat} {r : Rdg} {z : Int} (hr : rds[i]? = some r) (hz : z ∈ r.2) : whoE rds z = (((i : Nat) : Int), 0) := by
  rw [whoE, whoF_at hr hz fun j q hj hq hzq => by have := h.one hq hr hzq hz; omega]
theorem RdsAt.done {W : Nat → List Str} {s : Nat} {rds : List Rdg} (h : RdsAt W s rds) : seenL s (doneL rds rds.length) = List.replicate s 1 :=
  seenL_full fun z hz => by
    obtain ⟨r, hr, hzr⟩ := h.all z hz
    obtain ⟨i, hi⟩ := List.getElem?_of_mem hr
    exact doneL_mem.2 ⟨i, r, (List.getElem?_eq_some_iff.1 hi).1, hi, hzr⟩
theorem Arr.ints {W : Go.World} {B : Nat} {T : Go.TypeId} {xs : List Int} {n : Nat} (h : Arr W B T xs) (hn : xs.length = n) (hs : n ≤ 4611686018427387903) (hx : ∀ x ∈ xs, I64 x) : Ints W (some ⟨B, 0, none⟩) n xs :=
  ⟨hn, hs, fun k x hk => ⟨B, 0, .int .i64 x, rfl, by
    obtain ⟨h1, h2⟩ := List.getElem?_eq_some_iff.1 hk
    rw [Nat.zero_add, h.cell h1, nth_eq h1, h2], rfl, hx x (List.mem_of_getElem? hk)⟩⟩
end Go.Ap
namespace Go.Proofs.YthfppkcefnmdoaaGreatDoor
open Go.RowKit Go.Ap Go.Shelf Go.Proofs

attribute [local go_sem] Oper.semAt_some bs_toList empty_toList bs_size bs_extract
theorem sortedI (a : Option Addr) (n c : Nat) (xs : List Int) (w : World) (h : Ints w a n xs) (hp : xs.Pairwise (· < ·)) : Calls Tryz.prog 15 #[.slice a n c] w fun e w' => e = .returned (.bool true) ∧ ∃ q, w' = w.drewN q := by
  have hl := h.len
  have hs := h.small
  rcases Nat.eq_zero_or_pos n with h0 | h0
  · subst h0
    exact (AnyO.slices_IsSorted_int_none Tryz.issorted15 a c w).mono fun e w' ⟨he, hw⟩ => ⟨he, 0, hw⟩
  · obtain ⟨b, off, rfl, hc⟩ := h.at h0
    have hz : (xs.toArray).size = n := by simp [hl]
    have hg : ∀ i (hi : i < xs.length), xs.toArray[i]! = xs[i] := fun i hi => by simp [hi]
    have := AnyO.slices_IsSorted_int Tryz.issorted15 b off c xs.toArray w (fun i hi => by
      have hi' : i < xs.length := by simpa using hi
      rw [hc i (by omega), hg i hi', nth_eq hi']) (by rw [hz]; omega)
    rw [hz] at this
    refine this.mono fun e w' ⟨he, hw⟩ => ⟨?_, hw⟩
    rw [he]
    refine ret_b ((Lib.downOK_iff _ _ _).2 fun i hi => ?_)
    have h1 : i < xs.length := by omega
    have h2 : i + 1 < xs.length := by omega
    rw [hg i h1, hg (i + 1) h2]
    have h3 := (List.pairwise_iff_getElem.1 hp) i (i + 1) h1 h2 (by omega)
    rw [decide_eq_false_iff_not]
    omega
set_option maxHeartbeats 400000 in
theorem idxInt (p : Int → Bool) (a : Option Addr) (n c : Nat) (xs : List Int) (g : Nat) (cap : Array Value) (w : World) (h : Ints w a n xs)
    (eg : ∀ args w, (callFunc g args).run Tryz.prog w = .ok (.enter g args) w)
    (hp : ∀ q x, x ∈ xs → Calls Tryz.prog g (#[.int .i64 x] ++ cap) (w.drewN q) fun e w' => e = .returned (.bool (p x)) ∧ ∃ r, w' = (w.drewN q).drewN r) :
    Calls Tryz.prog 58 #[.slice a n c, .func (.func g) #[] cap] w fun e w' => e = .returned (.int .i64 (idxF p xs)) ∧ ∃ q, w' = w.drewN q := by
  have hlen := h.len
  have hsm := h.small
  have HL := Lib.hid hlen
  have HP := Lib.hid hp
  clear hlen hp
  go_enter Tryz.func58, Tryz.ntmps58
  go_wp2_with (fail)
  go_loopw [8] (fun i wr => ∃ (k q : Nat), k ≤ n ∧ i = .int .i64 k ∧ wr = w.drewN q ∧ idxG (pAt p xs) (n - k) k = idxF p xs) (fun i _ => n - (intOf i).toNat)
  case atStart => exact ⟨0, 0, by omega, rfl, rfl, by unfold idxF; rw [HL.out]; rfl⟩
  case round =>
    obtain ⟨k, q, hk, rfl, rfl, hch⟩ := hrel
    have HC := Lib.hid hch
    clear hch
    by_cases hlt : k < n
    · obtain ⟨x, b, off, v, hx, rfl, hc, hr, _⟩ := Sl.at h hlt
      subst hr
      obtain ⟨f, hf⟩ : ∃ f, n - k = f + 1 := ⟨n - k - 1, by omega⟩
      have HF := Lib.hid hf
      have hpa : pAt p xs k = p x := by simp [pAt, hx]
      have HPA := Lib.hid hpa
      have HX := Lib.hid (List.mem_of_getElem? hx)
      clear hf hx hpa
      go_wp2_with (fail)
      refine (HP.out q x HX.out).mono ?_
      rintro e w' ⟨rfl, r, rfl⟩
      cases hpx : p x
      all_goals
        have HPX := Lib.hid hpx
        clear hpx
        go_wp2_with (fail)
      · exact ⟨⟨k + 1, _, by omega, by go_num, rfl, by rw [← HC.out, HF.out, idxG_no (HPA.out.trans HPX.out), show n - (k + 1) = f by have := HF.out; omega]⟩, by simp [intOf]; omega⟩
      · go_ret
        exact ⟨ret_i (by rw [← HC.out, HF.out, idxG_yes (HPA.out.trans HPX.out)]), _, rfl⟩
    · go_wp2_with (fail)
      go_ret
      exact ⟨ret_i (by rw [← HC.out, show n - k = 0 by omega, idxG]), _, rfl⟩
set_option maxHeartbeats 400000 in
theorem contInt (p : Int → Bool) (a : Option Addr) (n c : Nat) (xs : List Int) (g : Nat) (cap : Array Value) (w : World) (h : Ints w a n xs)
    (eg : ∀ args w, (callFunc g args).run Tryz.prog w = .ok (.enter g args) w)
    (hp : ∀ q x, x ∈ xs → Calls Tryz.prog g (#[.int .i64 x] ++ cap) (w.drewN q) fun e w' => e = .returned (.bool (p x)) ∧ ∃ r, w' = (w.drewN q).drewN r) :
    Calls Tryz.prog 18 #[.slice a n c, .func (.func g) #[] cap] w fun e w' => e = .returned (.bool (xs.any p)) ∧ ∃ q, w' = w.drewN q := by
  have H := Lib.hid (idxInt p a n c xs g cap w h eg hp)
  clear hp eg
  go_enter Tryz.func18, Tryz.ntmps18
  go_wp2_with (fail)
  refine (H.out).mono ?_
  rintro e w' ⟨rfl, q, rfl⟩
  go_wp2_with (fail)
  go_ret
  exact ⟨ret_b (idxF_any p xs), _, rfl⟩
theorem notOne (x : Int) (w : World) : Calls Tryz.prog 19 #[.int .i64 x] w fun e w' => e = .returned (.bool (x != 1)) ∧ ∃ q, w' = w.drewN q := by
  go_enter Tryz.func19, Tryz.ntmps19
  go_wp2_with (fail)
  go_ret
  exact ⟨rfl, 0, rfl⟩
/-- all sources have been seen once -/
theorem allOne (B n : Nat) (T : TypeId) (c : Nat) (w : World) (h : Arr w B T (List.replicate n 1)) (hs : n ≤ 4611686018427387903) :
    Calls Tryz.prog 18 #[.slice (some ⟨B, 0, none⟩) n c, .func (.func 19) #[] #[]] w fun e w' => e = .returned (.bool false) ∧ ∃ q, w' = w.drewN q := by
  refine (contInt (fun x => x != 1) _ n c _ 19 #[] w (h.ints (by simp) hs fun x hx => by rw [(List.mem_replicate.1 hx).2]; exact ⟨by decide, by decide⟩) (enters_of Tryz.func19 (by kernel_rfl) rfl)
    (fun q x _ => notOne x _)).mono fun e w' ⟨he, hw⟩ => ⟨he.trans (ret_b ?_), hw⟩
  rw [List.any_eq_false]
  intro x hx
  rw [(List.mem_replicate.1 hx).2]
  decide
end Go.Proofs.YthfppkcefnmdoaaGreatDoor
