/-
  A list of places is right: the program's way.
-/
import Derived.Test.YthfppkcefnmdoaaGreatDoorUn
import Derived.Test.YthfppkcefnmdoaaGreatDoorNh
import Derived.Test.YthfppkcefnmdoaaGreatDoorFu
import Derived.Deep.RegionHeld3
namespace Go.Ap
open Go Go.RowKit
section
variable {P : Program} {ops : Array Oper} {S : World → Prop}
theorem wpTakes_skip {K : Act → Prop} {i : Nat} {is : List Nat} {oi : Oper} {a : Act} (ho : ops[i]? = some oi) (hw : Region.wanted oi (yielded ops a.tmps) = false)
    (h : wpTakes P ops S K is (a.put oi.dst undef)) : wpTakes P ops S K (i :: is) a := ⟨oi, undef, ho, .inr ⟨hw, rfl⟩, h⟩
end
def coverB (lo hi : Int) (u : Plc) : Bool := decide (u.lo ≤ lo) && decide (hi ≤ u.hi)
theorem idxF_anyU {α : Type} (p : α → Bool) (xs : List α) : decide (idxF p xs ≥ 0) = xs.any p := by
  rcases idxF_cases p xs with ⟨h1, h2⟩ | ⟨i, x, h1, _, h3, h4, _⟩
  · rw [h1]
    have : xs.any p = false := by
      rw [List.any_eq_false]
      exact fun x hx => by rw [h2 x hx]; simp
    rw [this]; rfl
  · rw [h1]
    have : xs.any p = true := List.any_eq_true.2 ⟨x, List.mem_of_getElem? h3, h4⟩
    rw [this]
    simp
end Go.Ap
namespace Go.Ap
open Go Go.RowKit
theorem wanted_gd {ops : Array Oper} {tmps : Array Value} {o oj : Oper} {j t : Nat} {b c : Bool} (hg : o.guard = some (j, c)) (hj : ops[j]? = some oj) (hd : oj.dst = some t) (hv : tmps[t]? = some (.bool b)) : Region.wanted o (yielded ops tmps) = (b == c) := by
  unfold Region.wanted
  rw [hg]
  simp only [yielded, hj, Option.bind_some, hd, hv]
  rfl
/-- a guarded operation that is not wanted -/
theorem wpTakes_no {P : Program} {ops : Array Oper} {S : World → Prop} {K : Act → Prop} {i j t : Nat} {is : List Nat} {oi oj : Oper} {b c : Bool} {a : Act} (ho : ops[i]? = some oi) (hg : oi.guard = some (j, c)) (hj : ops[j]? = some oj) (hd : oj.dst = some t) (hv : a.tmps[t]? = some (.bool b)) (hn : (b == c) = false)
    (h : wpTakes P ops S K is (a.put oi.dst undef)) : wpTakes P ops S K (i :: is) a := wpTakes_skip ho ((wanted_gd hg hj hd hv).trans hn) h
/-- a guarded operation that is wanted -/
theorem wpTakes_gd {P : Program} {ops : Array Oper} {S : World → Prop} {K : Act → Prop} {i j t : Nat} {is : List Nat} {oi oj : Oper} {b c : Bool} {v : Value} {a : Act} (ho : ops[i]? = some oi) (hg : oi.guard = some (j, c)) (hj : ops[j]? = some oj) (hd : oj.dst = some t) (hv : a.tmps[t]? = some (.bool b)) (hn : (b == c) = true)
    (hy : ∀ w, S w → (execOp a.eval oi).run P w = .ok (.value v) w) (h : wpTakes P ops S K is (a.put oi.dst v)) : wpTakes P ops S K (i :: is) a := wpTakes_cons ho ((wanted_gd hg hj hd hv).trans hn) hy h
/-- wpIn_region_heldR where the post hangs on the frame at a panic: the region does not panic -/
theorem wpIn_region_heldN {F : Fence} {P : Program} {ops : Array Oper} {n : Nat} {Q : Exit → Act → World → Prop} {id : Nat} {a : Act} {w : World} (S : World → Prop) (m : Nat) (is rs : List Nat) (hF : ∀ f, F.fn f) (hm : P.follows .mixedOrders = true) (hB : heldB ops m is rs = true)
    (hS : S w.drew) (h : wpTakes P ops S (fun a' => wpSeqR F n P ops (NoPanic Q) S m rs a' w.drew) is a) : (Code.region id ops true).wpIn F n P Q a w :=
  wpIn_mono (wpIn_region_heldR (Q := NoPanic Q) S m is rs hF hm hB (fun _ _ _ _ _ h => h.elim) hS h) NoPanic.imp
theorem wpTakes_nil {P : Program} {ops : Array Oper} {S : World → Prop} {K : Act → Prop} {a : Act} (h : K a) : wpTakes P ops S K [] a := h
theorem wpSeqR_nilN {F : Fence} {P : Program} {ops : Array Oper} {n m : Nat} {S : World → Prop} {Q : Exit → Act → World → Prop} {a : Act} {w : World} (h : Q .normal a w) : wpSeqR F n P ops (NoPanic Q) S m [] a w := h
theorem wpSeqR_nil {F : Fence} {P : Program} {ops : Array Oper} {n m : Nat} {S : World → Prop} {Q : Exit → Act → World → Prop} {a : Act} {w : World} (h : Q .normal a w) : wpSeqR F n P ops Q S m [] a w := h
theorem wanted_un {ops : Array Oper} {tmps : Array Value} {o oj : Oper} {j t : Nat} {c : Bool} (hg : o.guard = some (j, c)) (hj : ops[j]? = some oj) (hd : oj.dst = some t) (hv : tmps[t]? = some undef) : Region.wanted o (yielded ops tmps) = false := by
  unfold Region.wanted
  rw [hg]
  simp only [yielded, hj, Option.bind_some, hd, hv]
  rfl
/-- an operation whose guard was not wanted -/
theorem wpTakes_un {P : Program} {ops : Array Oper} {S : World → Prop} {K : Act → Prop} {i j t : Nat} {is : List Nat} {oi oj : Oper} {c : Bool} {a : Act} (ho : ops[i]? = some oi) (hg : oi.guard = some (j, c)) (hj : ops[j]? = some oj) (hd : oj.dst = some t) (hv : a.tmps[t]? = some undef)
    (h : wpTakes P ops S K is (a.put oi.dst undef)) : wpTakes P ops S K (i :: is) a := wpTakes_skip ho (wanted_un hg hj hd hv) h
section
variable {P : Program} {ops : Array Oper} {S : World → Prop} {K : Act → Prop} {i j t d : Nat} {is : List Nat} {oi oj : Oper} {b c : Bool} {v : Value} {a : Act}
theorem put_some (hd : oi.dst = some d) (v : Value) (a : Act) : a.put oi.dst v = { a with tmps := a.tmps.setIfInBounds d v } := by rw [hd]; rfl
theorem wpTakes_consD (ho : ops[i]? = some oi) (hd : oi.dst = some d) (hw : Region.wanted oi (yielded ops a.tmps) = true) (hy : ∀ w, S w → (execOp a.eval oi).run P w = .ok (.value v) w)
    (h : wpTakes P ops S K is { a with tmps := a.tmps.setIfInBounds d v }) : wpTakes P ops S K (i :: is) a := wpTakes_cons ho hw hy (by rw [put_some hd]; exact h)
theorem wpTakes_noD (ho : ops[i]? = some oi) (hd : oi.dst = some d) (hg : oi.guard = some (j, c)) (hj : ops[j]? = some oj) (hdj : oj.dst = some t) (hv : a.tmps[t]? = some (.bool b)) (hn : (b == c) = false)
    (h : wpTakes P ops S K is { a with tmps := a.tmps.setIfInBounds d undef }) : wpTakes P ops S K (i :: is) a := wpTakes_no ho hg hj hdj hv hn (by rw [put_some hd]; exact h)
theorem wpTakes_gdD (ho : ops[i]? = some oi) (hd : oi.dst = some d) (hg : oi.guard = some (j, c)) (hj : ops[j]? = some oj) (hdj : oj.dst = some t) (hv : a.tmps[t]? = some (.bool b)) (hn : (b == c) = true)
    (hy : ∀ w, S w → (execOp a.eval oi).run P w = .ok (.value v) w) (h : wpTakes P ops S K is { a with tmps := a.tmps.setIfInBounds d v }) : wpTakes P ops S K (i :: is) a := wpTakes_gd ho hg hj hdj hv hn hy (by rw [put_some hd]; exact h)
theorem wpTakes_unD (ho : ops[i]? = some oi) (hd : oi.dst = some d) (hg : oi.guard = some (j, c)) (hj : ops[j]? = some oj) (hdj : oj.dst = some t) (hv : a.tmps[t]? = some undef)
    (h : wpTakes P ops S K is { a with tmps := a.tmps.setIfInBounds d undef }) : wpTakes P ops S K (i :: is) a := wpTakes_un ho hg hj hdj hv (by rw [put_some hd]; exact h)
end
end Go.Ap
namespace Go.Proofs.YthfppkcefnmdoaaGreatDoor
open Go.RowKit Go.Ap Go.Shelf Go.Proofs

attribute [local go_sem] Oper.semAt_some bs_toList empty_toList bs_size bs_extract
set_option maxHeartbeats 1000000 in
theorem idxPl (p : Plc → Bool) (a : Option Addr) (n c : Nat) (xs : List Plc) (g : Nat) (cap : Array Value) (w : World) (h : Plcs w a n xs)
    (eg : ∀ args w, (callFunc g args).run Tryz.prog w = .ok (.enter g args) w)
    (hp : ∀ u ∈ xs, ∀ (a1 : Option Addr) (n1 k1 : Nat) W, Below w.heap.size w W → Calls Tryz.prog g (#[.agg #[.int .i64 u.lo, .int .i64 u.hi, .slice a1 n1 k1]] ++ cap) W fun e w' => e = .returned (.bool (p u)) ∧ Below W.heap.size W w') :
    Calls Tryz.prog 64 #[.slice a n c, .func (.func g) #[] cap] w fun e w' => e = .returned (.int .i64 (idxF p xs)) ∧ Below w.heap.size w w' := by
  have hlen := h.len
  have hsm := h.small
  have HL := Lib.hid hlen
  have HP := Lib.hid hp
  have HX := Lib.hid h
  clear hlen hp h
  go_enter Tryz.func64, Tryz.ntmps64
  go_wp2_with (fail)
  go_loopw [8] (fun i wr => ∃ k : Nat, k ≤ n ∧ i = .int .i64 k ∧ Below w.heap.size w wr ∧ idxG (pAt p xs) (n - k) k = idxF p xs) (fun i _ => n - (intOf i).toNat)
  case atStart => exact ⟨0, by omega, rfl, Below.refl _ _, by unfold idxF; rw [HL.out]; rfl⟩
  case round =>
    obtain ⟨k, hk, rfl, hb, hch⟩ := hrel
    have HC := Lib.hid hch
    have HB := Lib.hid hb
    clear hch
    by_cases hlt : k < n
    · obtain ⟨t, b, off, ht, rfl, ⟨a1, n1, k1, c0, c1, c2, _, _, _, _⟩⟩ := (HX.out.mono (Nat.le_refl _) hb).at hlt
      obtain ⟨f, hf⟩ : ∃ f, n - k = f + 1 := ⟨n - k - 1, by omega⟩
      have HF := Lib.hid hf
      have HPA := Lib.hid (show pAt p xs k = p t by simp [pAt, ht])
      have HCALL := Lib.hid (HP.out t (List.mem_of_getElem? ht) a1 n1 k1 wr hb)
      clear hf ht hb
      go_wp2_with (fail)
      refine HCALL.out.mono ?_
      rintro e w' ⟨rfl, hb2⟩
      have HB2 := Lib.hid (bstep HB.out hb2)
      clear hb2
      cases hpx : p t
      all_goals
        have HPX := Lib.hid hpx
        clear hpx
        go_wp2_with (fail)
      · exact ⟨⟨k + 1, by omega, by go_num, HB2.out, by rw [← HC.out, HF.out, idxG_no (HPA.out.trans HPX.out), show n - (k + 1) = f by have := HF.out; omega]⟩, by simp [intOf]; omega⟩
      · go_ret
        exact ⟨ret_i (by rw [← HC.out, HF.out, idxG_yes (HPA.out.trans HPX.out)]), HB2.out⟩
    · go_wp2_with (fail)
      go_ret
      exact ⟨ret_i (by rw [← HC.out, show n - k = 0 by omega, idxG]), HB.out⟩
set_option maxHeartbeats 1000000 in
theorem contPl (p : Plc → Bool) (a : Option Addr) (n c : Nat) (xs : List Plc) (g : Nat) (cap : Array Value) (w : World) (h : Plcs w a n xs)
    (eg : ∀ args w, (callFunc g args).run Tryz.prog w = .ok (.enter g args) w)
    (hp : ∀ u ∈ xs, ∀ (a1 : Option Addr) (n1 k1 : Nat) W, Below w.heap.size w W → Calls Tryz.prog g (#[.agg #[.int .i64 u.lo, .int .i64 u.hi, .slice a1 n1 k1]] ++ cap) W fun e w' => e = .returned (.bool (p u)) ∧ Below W.heap.size W w') :
    Calls Tryz.prog 24 #[.slice a n c, .func (.func g) #[] cap] w fun e w' => e = .returned (.bool (xs.any p)) ∧ Below w.heap.size w w' := by
  have HI := Lib.hid (idxPl p a n c xs g cap w h eg hp)
  have HA := Lib.hid (idxF_anyU p xs)
  generalize idxF p xs = q at *
  generalize xs.any p = r at *
  clear h hp
  go_enter Tryz.func24, Tryz.ntmps24
  go_wp2_with (fail)
  refine HI.out.mono ?_
  rintro e w1 ⟨rfl, hb⟩
  go_wp2_with (fail)
  go_ret
  exact ⟨by rw [← HA.out]; simp, hb⟩
set_option maxHeartbeats 1000000 in
theorem right1 (bf bt : Nat) (lo hi : Int) (u : Plc) (a : Option Addr) (n k : Nat) (w : World) (hf : w.cell? ⟨bf, 0, none⟩ = some (.int .i64 lo)) (ht : w.cell? ⟨bt, 0, none⟩ = some (.int .i64 hi)) :
    Calls Tryz.prog 88 #[.agg #[.int .i64 u.lo, .int .i64 u.hi, .slice a n k], .pointer (some ⟨bf, 0, none⟩), .pointer (some ⟨bt, 0, none⟩)] w fun e w' => e = .returned (.bool (coverB lo hi u)) ∧ Below w.heap.size w w' := by
  obtain ⟨ulo, uhi, rds⟩ := u
  unfold coverB
  simp only
  have HB := Lib.hid (balloc w (.cells #[.int .i64 ulo, .int .i64 uhi, .slice a n k] 36))
  have c0 := cell_keep HB.out hf
  have c1 := cell_keep HB.out ht
  by_cases h1 : ulo ≤ lo
  · go_enter Tryz.func88, Tryz.ntmps88
    go_wp2_with (fail)
    go_ret
    exact ⟨by simp [h1], HB.out⟩
  · have d1 : decide (ulo ≤ lo) = false := by simpa using h1
    go_enter Tryz.func88, Tryz.ntmps88
    go_wp2_with (fail)
    go_ret
    exact ⟨by simp, HB.out⟩
set_option maxHeartbeats 1000000 in
theorem find1U (bf : Nat) (z : Int) (u : Plc) (a : Option Addr) (n k : Nat) (w : World) (hf : w.cell? ⟨bf, 0, none⟩ = some (.int .i64 z)) :
    Calls Tryz.prog 68 #[.agg #[.int .i64 u.lo, .int .i64 u.hi, .slice a n k], .pointer (some ⟨bf, 0, none⟩)] w fun e w' => e = .returned (.bool (holdB z u)) ∧ Below w.heap.size w w' := by
  obtain ⟨ulo, uhi, rds⟩ := u
  unfold holdB
  simp only
  have HB := Lib.hid (balloc w (.cells #[.int .i64 ulo, .int .i64 uhi, .slice a n k] 36))
  have c0 := cell_keep HB.out hf
  by_cases h1 : ulo ≤ z
  · go_enter Tryz.func68, Tryz.ntmps68
    go_wp2_with (fail)
    go_ret
    exact ⟨by simp [h1], HB.out⟩
  · have d1 : decide (ulo ≤ z) = false := by simpa using h1
    go_enter Tryz.func68, Tryz.ntmps68
    go_wp2_with (fail)
    go_ret
    exact ⟨by simp, HB.out⟩
set_option maxHeartbeats 1000000 in
theorem findU (a : Option Addr) (n c : Nat) (xs : List Plc) (z : Int) (w : World) (h : Plcs w a n xs) :
    Calls Tryz.prog 36 #[.slice a n c, .int .i64 z] w fun e w' => e = .returned (.tuple #[.int .i64 (findE xs z).1, .int .i64 (findE xs z).2]) ∧ Below w.heap.size w w' := by
  have eg := enters_of Tryz.func68 (by kernel_rfl) rfl
  have HB := Lib.hid (balloc w (.cells #[.int .i64 z] 3))
  have HI := Lib.hid (idxPl (holdB z) a n c xs 68 #[.pointer (some ⟨w.heap.size, 0, none⟩)] _ (h.mono (Nat.le_refl _) HB.out) eg
    (fun u _ a1 n1 k1 W hb => find1U w.heap.size z u a1 n1 k1 W (cell_keep hb (cell_fresh rfl rfl))))
  unfold findE
  by_cases hz : z < 0
  · rw [if_pos hz]
    clear h
    go_enter Tryz.func36, Tryz.ntmps36
    go_wp2_with (fail)
    go_ret2
    exact ⟨rfl, HB.out⟩
  · rw [if_neg hz]
    generalize idxF (holdB z) xs = q at *
    have d1 : decide (z < 0) = false := by simpa using hz
    clear h
    go_enter Tryz.func36, Tryz.ntmps36
    go_wp2_with (fail)
    refine HI.out.mono ?_
    rintro e w1 ⟨rfl, hb⟩
    go_wp2_with (fail)
    go_ret2
    exact ⟨rfl, bstep HB.out hb⟩
set_option maxHeartbeats 4000000 in
theorem findR (a : Option Addr) (n c : Nat) (xs : List Plc) (z : Int) (w : World) (h : Plcs w a n xs) :
    Calls Tryz.prog 37 #[.slice a n c, .int .i64 z] w fun e w' => e = .returned (.tuple #[.int .i64 (findE xs z).1, .int .i64 (findE xs z).2]) ∧ Below w.heap.size w w' := by
  have hl := h.len
  have hs := h.small
  have HX := Lib.hid h
  have HL := Lib.hid hl
  clear h hl
  unfold findE
  by_cases hz : z < 0
  · rw [if_pos hz]
    go_enter Tryz.func37, Tryz.ntmps37
    go_wp2_with (fail)
    go_ret2
    exact ⟨rfl, Below.refl _ _⟩
  · rw [if_neg hz]
    have d1 : decide (z < 0) = false := by simpa using hz
    go_enter Tryz.func37, Tryz.ntmps37
    go_wp2_with (fail)
    go_loopw [6] (fun i wr => ∃ k : Nat, k ≤ n ∧ i = .int .i64 k ∧ wr = w ∧ ∀ j q, j < k → xs[j]? = some q → holdB z q = false) (fun i _ => n - (intOf i).toNat)
    case atStart => exact ⟨0, by omega, rfl, rfl, fun j q hj => by omega⟩
    case round =>
      obtain ⟨k, hk, rfl, rfl, hno⟩ := hrel
      have HNO := Lib.hid hno
      clear hno
      by_cases hlt : k < n
      · obtain ⟨t, b, off, ht, rfl, ⟨a1, n1, k1, c0, c1, c2, _, _, _, _⟩⟩ := HX.out.at hlt
        have HT := Lib.hid ht
        clear ht
        obtain ⟨ulo, uhi, rds⟩ := t
        simp only at c0 c1
        have i1 : (k : Int) < (n : Int) := by omega
        by_cases h1 : ulo ≤ z
        · by_cases h2 : z < uhi
          · have HF := Lib.hid (idxF_at HT.out (show holdB z ⟨ulo, uhi, rds⟩ = true by simp [holdB, h1, h2]) HNO.out)
            go_wp2_with (fail)
            go_ret2
            exact ⟨by rw [HF.out]; rfl, Below.refl _ _⟩
          · have d2 : decide (z < uhi) = false := by simpa using h2
            go_wp2_with (fail)
            go_roundw
            case rel => exact ⟨k + 1, by omega, by simp, by simp, fun j q hj hq => by
              rcases Nat.lt_or_ge j k with h | h
              · exact HNO.out j q h hq
              · obtain rfl : j = k := by omega
                rw [HT.out] at hq; cases hq; simp [holdB, h2]⟩
            case measure => simp [intOf]; omega
        · have d2 : decide (ulo ≤ z) = false := by simpa using h1
          go_wp2_with (fail)
          go_roundw
          case rel => exact ⟨k + 1, by omega, by simp, by simp, fun j q hj hq => by
            rcases Nat.lt_or_ge j k with h | h
            · exact HNO.out j q h hq
            · obtain rfl : j = k := by omega
              rw [HT.out] at hq; cases hq; simp [holdB, h1]⟩
          case measure => simp [intOf]; omega
      · obtain rfl : k = n := by omega
        have HF := Lib.hid (idxF_end (p := holdB z) (xs := xs) fun u hu => by
          obtain ⟨j, hj⟩ := List.getElem?_of_mem hu
          exact HNO.out j u (by have := (List.getElem?_eq_some_iff.1 hj).1; rw [HL.out] at this; exact this) hj)
        go_wp2_with (fail)
        go_ret2
        exact ⟨by rw [HF.out]; rfl, Below.refl _ _⟩
end Go.Proofs.YthfppkcefnmdoaaGreatDoor
