import Derived.Test.YtngdmpkoedpgdaaGreatDoorQa
import Derived.Lib.AppendZeros
import Derived.Test.YtngdmpkoedpgdaaGreatDoorHp
import Derived.Test.YtngdmpkoedpgdaaGreatDoorWo

/-
  slices.Grow of a nil slice; slices.Concat (words, numbers, postings).
-/


namespace Go.Ap
open Go Go.RowKit
theorem grown_zerosM {t : TypeId} {z : Value} {m : Nat} (hz : z.cells.size = m) (w : World) (n : Nat) (hn : n ≤ maxLen) :
    (w.drew.alloc (.cells (Builtin.zeroCells z.cells n ++ Builtin.zeroCells z.cells (grownCap w n 0 t - n)) t)).ownsRow w.heap.size t m (.slice (some ⟨w.heap.size, 0, none⟩) 0 (grownCap w n 0 t)) 0 [] := by
  have h1 := grownCap_ge w n 0 t
  refine ⟨by simp, .inr ⟨w.heap.size, _, _, rfl, Nat.le_refl _, heap_alloc_new w.drew _, Nat.zero_le _, grownCap_le_maxLen w n 0 t hn, ?_, by simp⟩⟩
  rw [Array.size_append, size_zeroCells, size_zeroCells, hz, ← Nat.add_mul]
  congr 1
  omega
section
variable {P : Program} {w : World}
theorem run_append_zero (base : Nat) (t ty e : TypeId) (i : TypeInfo) (size : Nat) (c : Nat) (ht : P.underlying t = some (.slice e)) (hi : P.info? e = some i)
    (v : Value) (n : Nat) (xs : List Value) (hown : w.ownsRow base e size v n xs) :
    (Builtin.append_ #[t, t] ty #[v, .slice none 0 c]).run P w = .ok v w := by
  rcases hown.2 with ⟨rfl, rfl⟩ | ⟨g, cap, cur, rfl, _, _, hnc, _⟩
  · simp [Builtin.append_, run_underlying ht, sizeOf, typeInfo, hi, Builtin.lenOf, Builtin.firstCells]
  · simp [Builtin.append_, run_underlying ht, sizeOf, typeInfo, hi, Builtin.lenOf, Builtin.firstCells, hnc, storeCells]
theorem wpList_append_zero {ops : Array Oper} {rest : List Oper} {o : Oper} {a : Act} {Q : Exit → Act → World → Prop} (hgd : o.guard = none) (s x : Operand) (t : TypeId)
    (ho : o.op = .call { callee := .builtin .append, args := #[s, x], argTypes := #[t, t] })
    (base : Nat) (e : TypeId) (i : TypeInfo) (size c : Nat) (ht : P.underlying t = some (.slice e)) (hi : P.info? e = some i)
    (v : Value) (n : Nat) (xs : List Value) (hs : a.eval s = v) (hown : w.ownsRow base e size v n xs) (hx : a.eval x = .slice none 0 c)
    (h : wpList P ops Q rest (a.put o.dst v) w) : wpList P ops Q (o :: rest) a w := by
  refine wpList_plain hgd fun K hK => ?_
  have hrun := run_append_zero (P := P) (w := w) base t o.type e i size c ht hi v n xs hown
  unfold Oper.wp
  simp [execOp, ho, resolve, invoke, builtin, hs, hx, hrun, Result.andThen]
  exact hK _ _ h
end
/-- what a slice value reads as, cell by cell -/
structure Reads (m : Nat) (w : World) (a : Option Addr) (n : Nat) (vs : List Value) : Prop where
  len : vs.length = n * m
  none : a = none → n = 0
  cells : ∀ ad, a = some ad → ∀ (j : Nat) u, vs[j]? = some u → w.cell? (ad.add j) = some u
  one : ∀ u ∈ vs, u.oneCell' = true
/-- a row of such slices: how long each is, and its cells -/
structure RowsV (m : Nat) (w : World) (a : Option Addr) (n : Nat) (F : List (Nat × List Value)) : Prop where
  len : F.length = n
  small : n ≤ 4611686018427387903
  rows : ∀ (k : Nat) (x : Nat × List Value), F[k]? = some x → ∃ b o a1 c1, a = some ⟨b, o, none⟩ ∧ w.cell? ⟨b, o + k, none⟩ = some (.slice a1 x.1 c1) ∧ Reads m w a1 x.1 x.2
theorem addr_plain (b o j : Nat) : (⟨b, o, none⟩ : Addr).add j = ⟨b, o + j, none⟩ := by unfold Addr.add; split <;> simp_all
theorem Reads.mono {m : Nat} {w w' : World} {B : Nat} {a : Option Addr} {n : Nat} {vs : List Value} (h : Reads m w a n vs) (hB : w.heap.size ≤ B) (hb : Below B w w') : Reads m w' a n vs :=
  ⟨h.len, h.none, fun ad ha j u hu => cell_kept hB hb (h.cells ad ha j u hu), h.one⟩
theorem RowsV.mono {m : Nat} {w w' : World} {B : Nat} {a : Option Addr} {n : Nat} {F : List (Nat × List Value)} (h : RowsV m w a n F) (hB : w.heap.size ≤ B) (hb : Below B w w') : RowsV m w' a n F :=
  ⟨h.len, h.small, fun k x hk => by
    obtain ⟨b, o, a1, c1, ha, hc, hr⟩ := h.rows k x hk
    exact ⟨b, o, a1, c1, ha, cell_kept hB hb hc, hr.mono hB hb⟩⟩
theorem RowsV.at {m : Nat} {w : World} {a : Option Addr} {n : Nat} {F : List (Nat × List Value)} (h : RowsV m w a n F) {k : Nat} (hk : k < n) : ∃ x b o a1 c1, F[k]? = some x ∧ a = some ⟨b, o, none⟩ ∧ w.cell? ⟨b, o + k, none⟩ = some (.slice a1 x.1 c1) ∧ Reads m w a1 x.1 x.2 := by
  have hx : F[k]? = some (F[k]'(by rw [h.len]; exact hk)) := List.getElem?_eq_getElem _
  obtain ⟨b, o, a1, c1, ha, hc, hr⟩ := h.rows k _ hx
  exact ⟨_, b, o, a1, c1, hx, ha, hc, hr⟩
def sumN (F : List (Nat × List Value)) : Nat := (F.map (·.1)).sum
def flatV (F : List (Nat × List Value)) : List Value := F.flatMap (·.2)
theorem sumN_snoc {F : List (Nat × List Value)} {k : Nat} {x : Nat × List Value} (h : F[k]? = some x) : sumN (F.take (k + 1)) = sumN (F.take k) + x.1 := by
  unfold sumN
  rw [List.take_add_one, h]
  simp
theorem flatV_snoc {F : List (Nat × List Value)} {k : Nat} {x : Nat × List Value} (h : F[k]? = some x) : flatV (F.take (k + 1)) = flatV (F.take k) ++ x.2 := by
  unfold flatV
  rw [List.take_add_one, h]
  simp
theorem sumN_take (F : List (Nat × List Value)) (k : Nat) : sumN (F.take k) ≤ sumN F := by
  have : sumN F = sumN (F.take k) + sumN (F.drop k) := by
    unfold sumN
    rw [← List.sum_append, ← List.map_append, List.take_append_drop]
  omega
def GivesV (t : TypeId) (m : Nat) (w : World) (n : Nat) (xs : List Value) (e : Ending) (w' : World) : Prop := ∃ v, e = .returned v ∧ w'.ownsRow w.heap.size t m v n xs ∧ Below w.heap.size w w'
/-- words | numbers that lie in a slice -/
theorem reads_strs {w : World} {a : Option Addr} {n : Nat} {xs : List Str} (h : StrsL w a n xs) : Reads 1 w a n (xs.map sv) := by
  refine ⟨by rw [List.length_map, h.len, Nat.mul_one], fun ha => ?_, fun ad ha j u hu => ?_, fun u hu => ?_⟩
  · have := h.len
    cases xs with
    | nil => simpa using this.symm
    | cons x r =>
      obtain ⟨b, o, v, he, _⟩ := h.cells 0 x rfl
      rw [ha] at he
      cases he
  · rw [List.getElem?_map, Option.map_eq_some_iff] at hu
    obtain ⟨x, hx, rfl⟩ := hu
    obtain ⟨b, o, v, he, hc, rfl⟩ := h.cells j x hx
    rw [ha] at he
    cases he
    rw [addr_plain]
    exact hc
  · obtain ⟨x, _, rfl⟩ := List.mem_map.1 hu
    rfl
theorem reads_ints {w : World} {a : Option Addr} {n : Nat} {xs : List Int} (h : Ints w a n xs) : Reads 1 w a n (xs.map (Value.int .i64)) := by
  refine ⟨by rw [List.length_map, h.len, Nat.mul_one], fun ha => ?_, fun ad ha j u hu => ?_, fun u hu => ?_⟩
  · have := h.len
    cases xs with
    | nil => simpa using this.symm
    | cons x r =>
      obtain ⟨b, o, v, he, _⟩ := h.cells 0 x rfl
      rw [ha] at he
      cases he
  · rw [List.getElem?_map, Option.map_eq_some_iff] at hu
    obtain ⟨x, hx, rfl⟩ := hu
    obtain ⟨b, o, v, he, hc, rfl, _⟩ := h.cells j x hx
    rw [ha] at he
    cases he
    rw [addr_plain]
    exact hc
  · obtain ⟨x, _, rfl⟩ := List.mem_map.1 hu
    rfl
theorem piC_one {q : PIt} {w : World} (h : ∃ a k, q.2 = .slice a q.1.2.length k ∧ PostS w a q.1) : ∀ u ∈ piC q, u.oneCell' = true := fun u hu => by
  obtain ⟨a', k', he, _⟩ := h
  unfold piC at hu
  rw [he] at hu
  simp only [List.mem_cons, List.not_mem_nil, or_false] at hu
  rcases hu with rfl | rfl | rfl <;> rfl
theorem reads_posts {w : World} {a : Option Addr} {n : Nat} {l : List Post} (h : Posts w a n l) : ∃ qs : List PIt, qs.map (·.1) = l ∧ Reads 3 w a n (qs.flatMap piC) ∧ ∀ p ∈ qs, ∃ a k, p.2 = .slice a p.1.2.length k ∧ PostS w a p.1 := by
  have hl := h.len
  cases l with
  | nil =>
    have h0 : n = 0 := by simpa using hl.symm
    subst h0
    exact ⟨[], rfl, ⟨rfl, (fun _ => rfl), (fun _ _ j u hu => by simp at hu), (fun u hu => by simp at hu)⟩, (fun p hp => by cases hp)⟩
  | cons x r =>
    obtain ⟨b, o, rfl, _⟩ := h.cells 0 x rfl
    obtain ⟨qs, h1, h2, h3⟩ := posts_items h
    refine ⟨qs, h1, ⟨?_, (fun e => by cases e), fun ad ha j u hu => ?_, fun u hu => ?_⟩, h3⟩
    · rw [piC_flat, ← hl, ← h1, List.length_map]
    · cases ha
      rw [addr_plain]
      exact h2 j u hu
    · obtain ⟨q, hq, hq2⟩ := List.mem_flatMap.1 hu
      exact piC_one (h3 q hq) u hq2
/-- a literal of two -/
theorem rowsV_two {m : Nat} {w : World} {B : Nat} {a1 a2 : Option Addr} {n1 c1 n2 c2 : Nat} {x y : List Value} (h1 : w.cell? ⟨B, 0, none⟩ = some (.slice a1 n1 c1)) (h2 : w.cell? ⟨B, 1, none⟩ = some (.slice a2 n2 c2)) (r1 : Reads m w a1 n1 x) (r2 : Reads m w a2 n2 y) : RowsV m w (some ⟨B, 0, none⟩) 2 [(n1, x), (n2, y)] :=
  ⟨rfl, by omega, fun k z hk => by
    match k, hk with
    | 0, hk => cases hk; exact ⟨B, 0, a1, c1, rfl, h1, r1⟩
    | 1, hk => cases hk; exact ⟨B, 0, a2, c2, rfl, h2, r2⟩⟩
end Go.Ap
namespace Go.Proofs.YtngdmpkoedpgdaaGreatDoor
open Go.RowKit Go.Ap Go.Shelf Go.Proofs

attribute [local go_sem] Oper.semAt_some bs_toList empty_toList bs_size bs_extract
theorem owns_sliceM {w : World} {base m n : Nat} {e : TypeId} {v : Value} {xs : List Value} (h : w.ownsRow base e m v n xs) : ∃ a c, v = .slice a n c := by
  rcases h.2 with ⟨h1, h2⟩ | ⟨g, cap, cur, h1, _⟩
  · exact ⟨none, 0, by rw [h1, h2]⟩
  · exact ⟨_, _, h1⟩

theorem infoS : (Tryz.prog.info? 9).map (fun i => (i.zero, i.size, i.bytes)) = some (some (.string { data := #[] }), 1, 16) := by kernel_rfl
set_option maxHeartbeats 1000000 in
theorem growS (n : Nat) (w : World) (hn : n ≤ 100000) :
    Calls Tryz.prog 82 #[.slice none 0 0, .int .i64 n] w (GivesV 9 1 w 0 []) := by
  obtain ⟨i0, hi, hz0, hz1, hz2⟩ := info_parts infoS
  by_cases h0 : n = 0
  · subst h0
    go_enter Tryz.func82, Tryz.ntmps82
    go_wp2_with (fail)
    go_ret
    exact ⟨_, rfl, World.ownsRow_nil _ _ _ _, Below.refl _ _⟩
  · have hp : 0 < n := by omega
    have d1 : decide (0 < (n : Int)) = true := by simp; omega
    have d2 : decide (0 < n) = true := by simpa using hp
    have d3 : decide ((n : Int) < 0) = false := by simp
    have HO := Lib.hid (grown_zerosM (t := 9) (z := .string { data := #[] }) (m := 1) rfl w n (by unfold maxLen; omega))
    have hbw : Below w.heap.size w (w.drew.alloc (.cells (Builtin.zeroCells (.string { data := #[] } : Value).cells n ++ Builtin.zeroCells (.string { data := #[] } : Value).cells (grownCap w n 0 9 - n)) 9)) := bstep (Below.refl _ _).drew (balloc _ _)
    have HBW := Lib.hid hbw
    have hrun := Lib.run_append_nil_zeros (P := Tryz.prog) w 22 3 22 9 i0 (.string { data := #[] }) .i64 .i64 Tryz.underlying22 Tryz.underlying3 hi hz0 n hp (by omega) (by omega) (by rw [hz2]; omega)
    obtain ⟨cp, hcp⟩ : ∃ cp, grownCap w n 0 9 = cp := ⟨_, rfl⟩
    obtain ⟨W1, hW1⟩ : ∃ W1, w.drew.alloc (.cells (Builtin.zeroCells (.string { data := #[] } : Value).cells n ++ Builtin.zeroCells (.string { data := #[] } : Value).cells (grownCap w n 0 9 - n)) 9) = W1 := ⟨_, rfl⟩
    rw [hW1] at HO HBW
    rw [hW1] at hrun
    rw [hcp] at HO hrun
    have HR := Lib.hid hrun
    clear hbw hrun hW1 hcp h0
    go_enter Tryz.func82, Tryz.ntmps82
    go_wp2_with (at_builtin; refine Lib.wpList_append_run _ rfl _ _ 22 3 rfl _ _ rfl rfl _ _ HR.out ?_)
    go_ret
    exact ⟨_, rfl, HO.out, HBW.out⟩
set_option maxRecDepth 100000 in
set_option maxHeartbeats 2000000 in
theorem concS (a : Option Addr) (n c : Nat) (F : List (Nat × List Value)) (w : World) (h : RowsV 1 w a n F) (hl : sumN F ≤ 100000) :
    Calls Tryz.prog 25 #[.slice a n c] w (GivesV 9 1 w (sumN F) (flatV F)) := by
  obtain ⟨i0, hi, hz0, hz1, hz2⟩ := info_parts infoS
  have HL := Lib.hid h.len
  have hsm := h.small
  have HH := Lib.hid h
  have HLE := Lib.hid (fun k => sumN_take F k)
  have HFL := Lib.hid hl
  clear h
  go_enter Tryz.func25, Tryz.ntmps25
  go_wp2_with (fail)
  go_loop [3, 11] (fun s i => ∃ k : Nat, k ≤ n ∧ i = .int .i64 k ∧ s = .int .i64 (sumN (F.take k) : Nat)) (fun _ i => n - (intOf i).toNat)
  case atStart => exact ⟨0, by omega, rfl, rfl⟩
  case round =>
    obtain ⟨k, hk, rfl, rfl⟩ := hrel
    by_cases hlt : k < n
    · obtain ⟨x, b1, o1, a1, c1, hx, rfl, hcell1, hr1⟩ := RowsV.at HH.out hlt
      have HLEN := Lib.hid (sumN_snoc hx)
      have hle := HLE.out (k + 1)
      rw [sumN_snoc hx] at hle
      obtain ⟨n1, vs⟩ := x
      simp only at hle hcell1 HLEN
      generalize sumN (F.take k) = l at *
      clear hx hr1
      go_wp2_with (fail)
      go_round
      case rel => exact ⟨k + 1, by omega, by go_num, by rw [HLEN.out]; go_num⟩
      case measure => simp [intOf]; omega
    · obtain rfl : n = k := by omega
      have HT := Lib.hid (show F.take n = F from List.take_of_length_le (by rw [HL.out]; omega))
      have hG := growS (sumN F) w hl
      rw [HT.out] 
      generalize hlq : sumN F = lq at *
      have HLQ := Lib.hid hlq
      have HG := Lib.hid hG
      clear hG hlq
      go_wp2_with (fail)
      refine (HG.out).mono ?_
      rintro e w1 ⟨v, rfl, hown, hb⟩
      obtain ⟨a0, c0, rfl⟩ := owns_sliceM hown
      have HO := Lib.hid hown
      have HB := Lib.hid hb
      clear hown hb
      go_wp2_with (fail)
      go_loopw [6, 27] (fun v i wr => ∃ k : Nat, k ≤ n ∧ i = .int .i64 k ∧ wr.ownsRow w.heap.size 9 1 v (sumN (F.take k)) (flatV (F.take k)) ∧ Below w.heap.size w wr) (fun _ i _ => n - (intOf i).toNat)
      case atStart => exact ⟨0, by omega, rfl, HO.out, HB.out⟩
      case round =>
        clear HO HB
        obtain ⟨k, hk, rfl, ho, hb⟩ := hrel
        have HO := Lib.hid ho
        have HB := Lib.hid hb
        have hsz := hb.size
        clear ho
        by_cases hlt : k < n
        · obtain ⟨x, b1, o1, a1, c1, hx, rfl, hcell1, hr1⟩ := RowsV.at (HH.out.mono (Nat.le_refl _) hb) hlt
          obtain ⟨n1, vs⟩ := x
          have HS1 := Lib.hid (sumN_snoc hx)
          have HS2 := Lib.hid (flatV_snoc hx)
          have hle := HLE.out (k + 1)
          rw [sumN_snoc hx] at hle
          have HRD := Lib.hid hr1
          have HRL := Lib.hid hr1.len
          simp only at hle hcell1 HS1 HS2 HRL HRD
          have HLQ2 := Lib.hid (show sumN (F.take k) + n1 ≤ 100000 by have := HLQ.out; omega)
          generalize sumN (F.take k) = sk at *
          generalize flatV (F.take k) = fk at *
          clear hx hr1 hb hle
          cases a1 with
          | none =>
            obtain rfl : n1 = 0 := HRD.out.none rfl
            obtain rfl : vs = [] := List.eq_nil_of_length_eq_zero (by have := HRL.out; omega)
            go_wp2_with (at_builtin; refine wpList_append_zero rfl _ _ 22 rfl w.heap.size 9 i0 1 c1 Tryz.underlying22 hi _ _ _ rfl HO.out rfl ?_)
            go_roundw
            case rel => exact ⟨k + 1, by omega, by go_num, by rw [HS1.out, HS2.out, List.append_nil]; exact HO.out, HB.out⟩
            case measure => simp [intOf]; omega
          | some ad =>
            go_wp2_with (at_builtin; refine wpList_append_own _ rfl _ _ 22 rfl w.heap.size 9 i0 (.string { data := #[] }) 1 16 Tryz.underlying22 hi hz0 hz1 hz2 rfl (by decide) _ _ _ rfl HO.out ad n1 c1 vs rfl HRL.out (HRD.out.cells ad rfl) HRD.out.one (by have := HLQ2.out; unfold maxLen; omega) (by have := HLQ2.out; omega) (by omega) ?_; intro v1 w4 hown1 hgrow1 _; have HO2 := Lib.hid hown1; have HG2 := Lib.hid hgrow1; clear hown1 hgrow1)
            go_roundw
            case rel => exact ⟨k + 1, by omega, by go_num, by rw [HS1.out, HS2.out]; exact HO2.out, HB.out.grown HG2.out hsz (fun j hj => (HO.out.lt j hj).1)⟩
            case measure => simp [intOf]; omega
        · obtain rfl : n = k := by omega
          have ho := HO.out
          rw [HT.out, HLQ.out] at ho
          obtain ⟨a0, c0, rfl⟩ := owns_sliceM ho
          have HO3 := Lib.hid ho
          clear ho
          go_wp2_with (fail)
          go_ret
          exact ⟨_, rfl, HO3.out, HB.out⟩

theorem infoI : (Tryz.prog.info? 3).map (fun i => (i.zero, i.size, i.bytes)) = some (some (.int .i64 0), 1, 8) := by kernel_rfl
set_option maxHeartbeats 1000000 in
theorem growI (n : Nat) (w : World) (hn : n ≤ 100000) :
    Calls Tryz.prog 83 #[.slice none 0 0, .int .i64 n] w (GivesV 3 1 w 0 []) := by
  obtain ⟨i0, hi, hz0, hz1, hz2⟩ := info_parts infoI
  by_cases h0 : n = 0
  · subst h0
    go_enter Tryz.func83, Tryz.ntmps83
    go_wp2_with (fail)
    go_ret
    exact ⟨_, rfl, World.ownsRow_nil _ _ _ _, Below.refl _ _⟩
  · have hp : 0 < n := by omega
    have d1 : decide (0 < (n : Int)) = true := by simp; omega
    have d2 : decide (0 < n) = true := by simpa using hp
    have d3 : decide ((n : Int) < 0) = false := by simp
    have HO := Lib.hid (grown_zerosM (t := 3) (z := .int .i64 0) (m := 1) rfl w n (by unfold maxLen; omega))
    have hbw : Below w.heap.size w (w.drew.alloc (.cells (Builtin.zeroCells (.int .i64 0 : Value).cells n ++ Builtin.zeroCells (.int .i64 0 : Value).cells (grownCap w n 0 3 - n)) 3)) := bstep (Below.refl _ _).drew (balloc _ _)
    have HBW := Lib.hid hbw
    have hrun := Lib.run_append_nil_zeros (P := Tryz.prog) w 26 3 26 3 i0 (.int .i64 0) .i64 .i64 Tryz.underlying26 Tryz.underlying3 hi hz0 n hp (by omega) (by omega) (by rw [hz2]; omega)
    obtain ⟨cp, hcp⟩ : ∃ cp, grownCap w n 0 3 = cp := ⟨_, rfl⟩
    obtain ⟨W1, hW1⟩ : ∃ W1, w.drew.alloc (.cells (Builtin.zeroCells (.int .i64 0 : Value).cells n ++ Builtin.zeroCells (.int .i64 0 : Value).cells (grownCap w n 0 3 - n)) 3) = W1 := ⟨_, rfl⟩
    rw [hW1] at HO HBW
    rw [hW1] at hrun
    rw [hcp] at HO hrun
    have HR := Lib.hid hrun
    clear hbw hrun hW1 hcp h0
    go_enter Tryz.func83, Tryz.ntmps83
    go_wp2_with (at_builtin; refine Lib.wpList_append_run _ rfl _ _ 26 3 rfl _ _ rfl rfl _ _ HR.out ?_)
    go_ret
    exact ⟨_, rfl, HO.out, HBW.out⟩
set_option maxRecDepth 100000 in
set_option maxHeartbeats 2000000 in
theorem concI (a : Option Addr) (n c : Nat) (F : List (Nat × List Value)) (w : World) (h : RowsV 1 w a n F) (hl : sumN F ≤ 100000) :
    Calls Tryz.prog 26 #[.slice a n c] w (GivesV 3 1 w (sumN F) (flatV F)) := by
  obtain ⟨i0, hi, hz0, hz1, hz2⟩ := info_parts infoI
  have HL := Lib.hid h.len
  have hsm := h.small
  have HH := Lib.hid h
  have HLE := Lib.hid (fun k => sumN_take F k)
  have HFL := Lib.hid hl
  clear h
  go_enter Tryz.func26, Tryz.ntmps26
  go_wp2_with (fail)
  go_loop [3, 11] (fun s i => ∃ k : Nat, k ≤ n ∧ i = .int .i64 k ∧ s = .int .i64 (sumN (F.take k) : Nat)) (fun _ i => n - (intOf i).toNat)
  case atStart => exact ⟨0, by omega, rfl, rfl⟩
  case round =>
    obtain ⟨k, hk, rfl, rfl⟩ := hrel
    by_cases hlt : k < n
    · obtain ⟨x, b1, o1, a1, c1, hx, rfl, hcell1, hr1⟩ := RowsV.at HH.out hlt
      have HLEN := Lib.hid (sumN_snoc hx)
      have hle := HLE.out (k + 1)
      rw [sumN_snoc hx] at hle
      obtain ⟨n1, vs⟩ := x
      simp only at hle hcell1 HLEN
      generalize sumN (F.take k) = l at *
      clear hx hr1
      go_wp2_with (fail)
      go_round
      case rel => exact ⟨k + 1, by omega, by go_num, by rw [HLEN.out]; go_num⟩
      case measure => simp [intOf]; omega
    · obtain rfl : n = k := by omega
      have HT := Lib.hid (show F.take n = F from List.take_of_length_le (by rw [HL.out]; omega))
      have hG := growI (sumN F) w hl
      rw [HT.out] 
      generalize hlq : sumN F = lq at *
      have HLQ := Lib.hid hlq
      have HG := Lib.hid hG
      clear hG hlq
      go_wp2_with (fail)
      refine (HG.out).mono ?_
      rintro e w1 ⟨v, rfl, hown, hb⟩
      obtain ⟨a0, c0, rfl⟩ := owns_sliceM hown
      have HO := Lib.hid hown
      have HB := Lib.hid hb
      clear hown hb
      go_wp2_with (fail)
      go_loopw [6, 27] (fun v i wr => ∃ k : Nat, k ≤ n ∧ i = .int .i64 k ∧ wr.ownsRow w.heap.size 3 1 v (sumN (F.take k)) (flatV (F.take k)) ∧ Below w.heap.size w wr) (fun _ i _ => n - (intOf i).toNat)
      case atStart => exact ⟨0, by omega, rfl, HO.out, HB.out⟩
      case round =>
        clear HO HB
        obtain ⟨k, hk, rfl, ho, hb⟩ := hrel
        have HO := Lib.hid ho
        have HB := Lib.hid hb
        have hsz := hb.size
        clear ho
        by_cases hlt : k < n
        · obtain ⟨x, b1, o1, a1, c1, hx, rfl, hcell1, hr1⟩ := RowsV.at (HH.out.mono (Nat.le_refl _) hb) hlt
          obtain ⟨n1, vs⟩ := x
          have HS1 := Lib.hid (sumN_snoc hx)
          have HS2 := Lib.hid (flatV_snoc hx)
          have hle := HLE.out (k + 1)
          rw [sumN_snoc hx] at hle
          have HRD := Lib.hid hr1
          have HRL := Lib.hid hr1.len
          simp only at hle hcell1 HS1 HS2 HRL HRD
          have HLQ2 := Lib.hid (show sumN (F.take k) + n1 ≤ 100000 by have := HLQ.out; omega)
          generalize sumN (F.take k) = sk at *
          generalize flatV (F.take k) = fk at *
          clear hx hr1 hb hle
          cases a1 with
          | none =>
            obtain rfl : n1 = 0 := HRD.out.none rfl
            obtain rfl : vs = [] := List.eq_nil_of_length_eq_zero (by have := HRL.out; omega)
            go_wp2_with (at_builtin; refine wpList_append_zero rfl _ _ 26 rfl w.heap.size 3 i0 1 c1 Tryz.underlying26 hi _ _ _ rfl HO.out rfl ?_)
            go_roundw
            case rel => exact ⟨k + 1, by omega, by go_num, by rw [HS1.out, HS2.out, List.append_nil]; exact HO.out, HB.out⟩
            case measure => simp [intOf]; omega
          | some ad =>
            go_wp2_with (at_builtin; refine wpList_append_own _ rfl _ _ 26 rfl w.heap.size 3 i0 (.int .i64 0) 1 8 Tryz.underlying26 hi hz0 hz1 hz2 rfl (by decide) _ _ _ rfl HO.out ad n1 c1 vs rfl HRL.out (HRD.out.cells ad rfl) HRD.out.one (by have := HLQ2.out; unfold maxLen; omega) (by have := HLQ2.out; omega) (by omega) ?_; intro v1 w4 hown1 hgrow1 _; have HO2 := Lib.hid hown1; have HG2 := Lib.hid hgrow1; clear hown1 hgrow1)
            go_roundw
            case rel => exact ⟨k + 1, by omega, by go_num, by rw [HS1.out, HS2.out]; exact HO2.out, HB.out.grown HG2.out hsz (fun j hj => (HO.out.lt j hj).1)⟩
            case measure => simp [intOf]; omega
        · obtain rfl : n = k := by omega
          have ho := HO.out
          rw [HT.out, HLQ.out] at ho
          obtain ⟨a0, c0, rfl⟩ := owns_sliceM ho
          have HO3 := Lib.hid ho
          clear ho
          go_wp2_with (fail)
          go_ret
          exact ⟨_, rfl, HO3.out, HB.out⟩

theorem infoP : (Tryz.prog.info? 37).map (fun i => (i.zero, i.size, i.bytes)) = some (some (.agg #[.string { data := #[] }, .string { data := #[] }, .slice none 0 0]), 3, 56) := by kernel_rfl
set_option maxHeartbeats 1000000 in
theorem growP (n : Nat) (w : World) (hn : n ≤ 100000) :
    Calls Tryz.prog 139 #[.slice none 0 0, .int .i64 n] w (GivesV 37 3 w 0 []) := by
  obtain ⟨i0, hi, hz0, hz1, hz2⟩ := info_parts infoP
  by_cases h0 : n = 0
  · subst h0
    go_enter Tryz.func139, Tryz.ntmps139
    go_wp2_with (fail)
    go_ret
    exact ⟨_, rfl, World.ownsRow_nil _ _ _ _, Below.refl _ _⟩
  · have hp : 0 < n := by omega
    have d1 : decide (0 < (n : Int)) = true := by simp; omega
    have d2 : decide (0 < n) = true := by simpa using hp
    have d3 : decide ((n : Int) < 0) = false := by simp
    have HO := Lib.hid (grown_zerosM (t := 37) (z := .agg #[.string { data := #[] }, .string { data := #[] }, .slice none 0 0]) (m := 3) rfl w n (by unfold maxLen; omega))
    have hbw : Below w.heap.size w (w.drew.alloc (.cells (Builtin.zeroCells (.agg #[.string { data := #[] }, .string { data := #[] }, .slice none 0 0] : Value).cells n ++ Builtin.zeroCells (.agg #[.string { data := #[] }, .string { data := #[] }, .slice none 0 0] : Value).cells (grownCap w n 0 37 - n)) 37)) := bstep (Below.refl _ _).drew (balloc _ _)
    have HBW := Lib.hid hbw
    have hrun := Lib.run_append_nil_zeros (P := Tryz.prog) w 27 3 27 37 i0 (.agg #[.string { data := #[] }, .string { data := #[] }, .slice none 0 0]) .i64 .i64 Tryz.underlying27 Tryz.underlying3 hi hz0 n hp (by omega) (by omega) (by rw [hz2]; omega)
    obtain ⟨cp, hcp⟩ : ∃ cp, grownCap w n 0 37 = cp := ⟨_, rfl⟩
    obtain ⟨W1, hW1⟩ : ∃ W1, w.drew.alloc (.cells (Builtin.zeroCells (.agg #[.string { data := #[] }, .string { data := #[] }, .slice none 0 0] : Value).cells n ++ Builtin.zeroCells (.agg #[.string { data := #[] }, .string { data := #[] }, .slice none 0 0] : Value).cells (grownCap w n 0 37 - n)) 37) = W1 := ⟨_, rfl⟩
    rw [hW1] at HO HBW
    rw [hW1] at hrun
    rw [hcp] at HO hrun
    have HR := Lib.hid hrun
    clear hbw hrun hW1 hcp h0
    go_enter Tryz.func139, Tryz.ntmps139
    go_wp2_with (at_builtin; refine Lib.wpList_append_run _ rfl _ _ 27 3 rfl _ _ rfl rfl _ _ HR.out ?_)
    go_ret
    exact ⟨_, rfl, HO.out, HBW.out⟩
set_option maxRecDepth 100000 in
set_option maxHeartbeats 2000000 in
theorem concP (a : Option Addr) (n c : Nat) (F : List (Nat × List Value)) (w : World) (h : RowsV 3 w a n F) (hl : sumN F ≤ 100000) :
    Calls Tryz.prog 85 #[.slice a n c] w (GivesV 37 3 w (sumN F) (flatV F)) := by
  obtain ⟨i0, hi, hz0, hz1, hz2⟩ := info_parts infoP
  have HL := Lib.hid h.len
  have hsm := h.small
  have HH := Lib.hid h
  have HLE := Lib.hid (fun k => sumN_take F k)
  have HFL := Lib.hid hl
  clear h
  go_enter Tryz.func85, Tryz.ntmps85
  go_wp2_with (fail)
  go_loop [3, 11] (fun s i => ∃ k : Nat, k ≤ n ∧ i = .int .i64 k ∧ s = .int .i64 (sumN (F.take k) : Nat)) (fun _ i => n - (intOf i).toNat)
  case atStart => exact ⟨0, by omega, rfl, rfl⟩
  case round =>
    obtain ⟨k, hk, rfl, rfl⟩ := hrel
    by_cases hlt : k < n
    · obtain ⟨x, b1, o1, a1, c1, hx, rfl, hcell1, hr1⟩ := RowsV.at HH.out hlt
      have HLEN := Lib.hid (sumN_snoc hx)
      have hle := HLE.out (k + 1)
      rw [sumN_snoc hx] at hle
      obtain ⟨n1, vs⟩ := x
      simp only at hle hcell1 HLEN
      generalize sumN (F.take k) = l at *
      clear hx hr1
      go_wp2_with (fail)
      go_round
      case rel => exact ⟨k + 1, by omega, by go_num, by rw [HLEN.out]; go_num⟩
      case measure => simp [intOf]; omega
    · obtain rfl : n = k := by omega
      have HT := Lib.hid (show F.take n = F from List.take_of_length_le (by rw [HL.out]; omega))
      have hG := growP (sumN F) w hl
      rw [HT.out] 
      generalize hlq : sumN F = lq at *
      have HLQ := Lib.hid hlq
      have HG := Lib.hid hG
      clear hG hlq
      go_wp2_with (fail)
      refine (HG.out).mono ?_
      rintro e w1 ⟨v, rfl, hown, hb⟩
      obtain ⟨a0, c0, rfl⟩ := owns_sliceM hown
      have HO := Lib.hid hown
      have HB := Lib.hid hb
      clear hown hb
      go_wp2_with (fail)
      go_loopw [6, 27] (fun v i wr => ∃ k : Nat, k ≤ n ∧ i = .int .i64 k ∧ wr.ownsRow w.heap.size 37 3 v (sumN (F.take k)) (flatV (F.take k)) ∧ Below w.heap.size w wr) (fun _ i _ => n - (intOf i).toNat)
      case atStart => exact ⟨0, by omega, rfl, HO.out, HB.out⟩
      case round =>
        clear HO HB
        obtain ⟨k, hk, rfl, ho, hb⟩ := hrel
        have HO := Lib.hid ho
        have HB := Lib.hid hb
        have hsz := hb.size
        clear ho
        by_cases hlt : k < n
        · obtain ⟨x, b1, o1, a1, c1, hx, rfl, hcell1, hr1⟩ := RowsV.at (HH.out.mono (Nat.le_refl _) hb) hlt
          obtain ⟨n1, vs⟩ := x
          have HS1 := Lib.hid (sumN_snoc hx)
          have HS2 := Lib.hid (flatV_snoc hx)
          have hle := HLE.out (k + 1)
          rw [sumN_snoc hx] at hle
          have HRD := Lib.hid hr1
          have HRL := Lib.hid hr1.len
          simp only at hle hcell1 HS1 HS2 HRL HRD
          have HLQ2 := Lib.hid (show sumN (F.take k) + n1 ≤ 100000 by have := HLQ.out; omega)
          generalize sumN (F.take k) = sk at *
          generalize flatV (F.take k) = fk at *
          clear hx hr1 hb hle
          cases a1 with
          | none =>
            obtain rfl : n1 = 0 := HRD.out.none rfl
            obtain rfl : vs = [] := List.eq_nil_of_length_eq_zero (by have := HRL.out; omega)
            go_wp2_with (at_builtin; refine wpList_append_zero rfl _ _ 27 rfl w.heap.size 37 i0 3 c1 Tryz.underlying27 hi _ _ _ rfl HO.out rfl ?_)
            go_roundw
            case rel => exact ⟨k + 1, by omega, by go_num, by rw [HS1.out, HS2.out, List.append_nil]; exact HO.out, HB.out⟩
            case measure => simp [intOf]; omega
          | some ad =>
            go_wp2_with (at_builtin; refine wpList_append_own _ rfl _ _ 27 rfl w.heap.size 37 i0 (.agg #[.string { data := #[] }, .string { data := #[] }, .slice none 0 0]) 3 56 Tryz.underlying27 hi hz0 hz1 hz2 rfl (by decide) _ _ _ rfl HO.out ad n1 c1 vs rfl HRL.out (HRD.out.cells ad rfl) HRD.out.one (by have := HLQ2.out; unfold maxLen; omega) (by have := HLQ2.out; omega) (by omega) ?_; intro v1 w4 hown1 hgrow1 _; have HO2 := Lib.hid hown1; have HG2 := Lib.hid hgrow1; clear hown1 hgrow1)
            go_roundw
            case rel => exact ⟨k + 1, by omega, by go_num, by rw [HS1.out, HS2.out]; exact HO2.out, HB.out.grown HG2.out hsz (fun j hj => (HO.out.lt j hj).1)⟩
            case measure => simp [intOf]; omega
        · obtain rfl : n = k := by omega
          have ho := HO.out
          rw [HT.out, HLQ.out] at ho
          obtain ⟨a0, c0, rfl⟩ := owns_sliceM ho
          have HO3 := Lib.hid ho
          clear ho
          go_wp2_with (fail)
          go_ret
          exact ⟨_, rfl, HO3.out, HB.out⟩
end Go.Proofs.YtngdmpkoedpgdaaGreatDoor

/-
  Lists of postings; a search in them; Merge in plain words.
-/


namespace Go.Ap
open Go Go.RowKit
/-- a slice value that reads as postings -/
def PostsR (w : World) (v : Value) (l : List Post) : Prop := ∃ a n c, v = .slice a n c ∧ Posts w a n l
abbrev Posts2 := Sl PostsR
theorem Posts2.mono {w w' : World} {B : Nat} {a : Option Addr} {n : Nat} {ls : List (List Post)} (h : Posts2 w a n ls) (hB : w.heap.size ≤ B) (hb : Below B w w') : Posts2 w' a n ls :=
  Sl.mono h hB hb fun v x hr => by
    obtain ⟨a, n, c, rfl, hp⟩ := hr
    exact ⟨a, n, c, rfl, hp.mono hB hb⟩
/-- Merge in plain words -/
def mergeI (ls : List (List Post)) : List Post := idxM mkB (flatE ls.flatten)
def mergeC (ls : List (List Post)) : Int := if 64 < ls.length then 4 else if (ls.any fun l => !indexB l) = true then 1 else 0
theorem merge_two (es es' : List Entry) : mergeI [idxM mkB es, idxM mkB es'] = idxM mkB (es ++ es') :=
  idx_same fun x => by
    simp only [List.flatten_cons, List.flatten_nil, List.append_nil]
    rw [flatE_app, List.mem_append, List.mem_append, flatE_idx, flatE_idx]
theorem merge_swap (es es' : List Entry) : mergeI [idxM mkB es', idxM mkB es] = idxM mkB (es ++ es') := by
  rw [merge_two]
  exact idx_same fun x => by rw [List.mem_append, List.mem_append, or_comm]
theorem merge_self (es : List Entry) : mergeI [idxM mkB es, idxM mkB es] = idxM mkB es := by
  rw [merge_two]
  exact idx_same fun x => by rw [List.mem_append, or_self]
theorem mergeC_ok {ls : List (List Post)} (h1 : ls.length ≤ 64) (h2 : ∀ l ∈ ls, indexB l = true) : mergeC ls = 0 := by
  unfold mergeC
  rw [if_neg (by omega), if_neg]
  rw [Bool.not_eq_true, List.any_eq_false]
  intro l hl
  simp [h2 l hl]
/-- a row of lists of postings, cell by cell -/
theorem rowsV_posts {w : World} {a : Option Addr} {n : Nat} {ls : List (List Post)} (h : Posts2 w a n ls) : ∃ (qss : List (List PIt)), qss.map (fun qs => qs.map (·.1)) = ls ∧ RowsV 3 w a n (qss.map fun qs => (qs.length, qs.flatMap piC)) ∧ ∀ qs ∈ qss, ∀ p ∈ qs, ∃ a k, p.2 = .slice a p.1.2.length k ∧ PostS w a p.1 := by
  have key : ∀ k, k ≤ ls.length → ∃ (qss : List (List PIt)), qss.map (fun qs => qs.map (·.1)) = ls.take k ∧ (∀ (i : Nat) (qs : List PIt), qss[i]? = some qs → ∃ b o a1 c1, a = some ⟨b, o, none⟩ ∧ w.cell? ⟨b, o + i, none⟩ = some (.slice a1 qs.length c1) ∧ Reads 3 w a1 qs.length (qs.flatMap piC)) ∧ ∀ qs ∈ qss, ∀ p ∈ qs, ∃ a k, p.2 = .slice a p.1.2.length k ∧ PostS w a p.1 := fun k => by
    induction k with
    | zero => exact fun _ => ⟨[], by simp, fun i qs hi => by simp at hi, fun qs hq => by cases hq⟩
    | succ k ih =>
      intro hk
      obtain ⟨qss, h1, h2, h3⟩ := ih (by omega)
      have hx := List.getElem?_eq_getElem (show k < ls.length by omega)
      obtain ⟨b, o, v, ha, hc, a1, n1, c1, rfl, hp⟩ := h.cells k _ hx
      obtain ⟨qs, q1, q2, q3⟩ := reads_posts hp
      have hql : qs.length = n1 := by rw [← hp.len, ← q1, List.length_map]
      have hl : qss.length = k := by
        have := congrArg List.length h1
        rw [List.length_map, List.length_take] at this
        omega
      refine ⟨qss ++ [qs], by rw [List.map_append, h1, List.take_add_one, hx]; simp [q1], fun i x hi => ?_, fun x hx p hp => ?_⟩
      · by_cases hik : i < k
        · rw [List.getElem?_append_left (by omega)] at hi
          exact h2 i x hi
        · rw [List.getElem?_append_right (by omega), hl] at hi
          have : i = k := by
            have := (List.getElem?_eq_some_iff.1 hi).1
            simp at this
            omega
          subst this
          simp at hi
          subst hi
          exact ⟨b, o, a1, c1, ha, by rw [hql]; exact hc, by rw [hql]; exact q2⟩
      · rcases List.mem_append.1 hx with hx | hx
        · exact h3 x hx p hp
        · rw [List.mem_singleton] at hx
          subst hx
          exact q3 p hp
  obtain ⟨qss, h1, h2, h3⟩ := key ls.length (Nat.le_refl _)
  rw [List.take_length] at h1
  refine ⟨qss, h1, ⟨by rw [List.length_map, ← h.len, ← h1, List.length_map], h.small, fun k x hk => ?_⟩, h3⟩
  rw [List.getElem?_map, Option.map_eq_some_iff] at hk
  obtain ⟨qs, hq, rfl⟩ := hk
  exact h2 k qs hq
theorem sumN_posts (qss : List (List PIt)) : sumN (qss.map fun qs => (qs.length, qs.flatMap piC)) = (qss.map (fun qs => qs.map (·.1))).flatten.length := by
  unfold sumN
  rw [List.length_flatten, List.map_map, List.map_map]
  congr 1
  refine List.map_congr_left fun qs _ => ?_
  simp
theorem flatV_posts (qss : List (List PIt)) : flatV (qss.map fun qs => (qs.length, qs.flatMap piC)) = qss.flatten.flatMap piC := by
  unfold flatV
  rw [List.flatMap_map]
  induction qss with
  | nil => rfl
  | cons x r ih => rw [List.flatMap_cons, ih, List.flatten_cons, List.flatMap_append]
end Go.Ap
namespace Go.Proofs.YtngdmpkoedpgdaaGreatDoor
open Go.RowKit Go.Ap Go.Shelf Go.Proofs

attribute [local go_sem] Oper.semAt_some bs_toList empty_toList bs_size bs_extract
set_option maxHeartbeats 1000000 in
theorem idxPs2 (p : List Post → Bool) (a : Option Addr) (n c : Nat) (xs : List (List Post)) (g : Nat) (cap : Array Value) (w : World) (h : Posts2 w a n xs)
    (eg : ∀ args w, (callFunc g args).run Tryz.prog w = .ok (.enter g args) w)
    (hp : ∀ u ∈ xs, ∀ W a1 n1 c1, Posts W a1 n1 u → Below w.heap.size w W → Calls Tryz.prog g (#[.slice a1 n1 c1] ++ cap) W fun e w' => e = .returned (.bool (p u)) ∧ Below W.heap.size W w') :
    Calls Tryz.prog 113 #[.slice a n c, .func (.func g) #[] cap] w fun e w' => e = .returned (.int .i64 (idxF p xs)) ∧ Below w.heap.size w w' := by
  have hlen := h.len
  have hsm := h.small
  have HL := Lib.hid hlen
  have HP := Lib.hid hp
  have HX := Lib.hid h
  clear hlen hp h
  go_enter Tryz.func113, Tryz.ntmps113
  go_wp2_with (fail)
  go_loopw [8] (fun i wr => ∃ k : Nat, k ≤ n ∧ i = .int .i64 k ∧ Below w.heap.size w wr ∧ idxG (pAt p xs) (n - k) k = idxF p xs) (fun i _ => n - (intOf i).toNat)
  case atStart => exact ⟨0, by omega, rfl, Below.refl _ _, by unfold idxF; rw [HL.out]; rfl⟩
  case round =>
    obtain ⟨k, hk, rfl, hb, hch⟩ := hrel
    have HC := Lib.hid hch
    have HB := Lib.hid hb
    clear hch
    by_cases hlt : k < n
    · obtain ⟨t, b, off, v, ht, rfl, hcv, ⟨a1, n1, c1, rfl, hps⟩⟩ := Sl.at (Posts2.mono HX.out (Nat.le_refl _) hb) hlt
      obtain ⟨f, hf⟩ : ∃ f, n - k = f + 1 := ⟨n - k - 1, by omega⟩
      have HF := Lib.hid hf
      have HPA := Lib.hid (show pAt p xs k = p t by simp [pAt, ht])
      have HCALL := Lib.hid (HP.out t (List.mem_of_getElem? ht) wr a1 n1 c1 hps hb)
      clear hf ht hb hps
      go_wp2_with (fail)
      refine HCALL.out.mono ?_
      rintro e w' ⟨rfl, hb2⟩
      have HB2 := Lib.hid (bstep HB.out hb2)
      clear hb2
      cases hpx : p t
      all_goals
        have HPX := Lib.hid hpx
        clear hpx
        go_wp2_with (fail)
      · exact ⟨⟨k + 1, by omega, by go_num, HB2.out, by rw [← HC.out, HF.out, idxG_no (HPA.out.trans HPX.out), show n - (k + 1) = f by have := HF.out; omega]⟩, by simp [intOf]; omega⟩
      · go_ret
        exact ⟨ret_i (by rw [← HC.out, HF.out, idxG_yes (HPA.out.trans HPX.out)]), HB2.out⟩
    · go_wp2_with (fail)
      go_ret
      exact ⟨ret_i (by rw [← HC.out, show n - k = 0 by omega, idxG]), HB.out⟩
set_option maxHeartbeats 1000000 in
theorem contPs2 (p : List Post → Bool) (a : Option Addr) (n c : Nat) (xs : List (List Post)) (g : Nat) (cap : Array Value) (w : World) (h : Posts2 w a n xs)
    (eg : ∀ args w, (callFunc g args).run Tryz.prog w = .ok (.enter g args) w)
    (hp : ∀ u ∈ xs, ∀ W a1 n1 c1, Posts W a1 n1 u → Below w.heap.size w W → Calls Tryz.prog g (#[.slice a1 n1 c1] ++ cap) W fun e w' => e = .returned (.bool (p u)) ∧ Below W.heap.size W w') :
    Calls Tryz.prog 50 #[.slice a n c, .func (.func g) #[] cap] w fun e w' => e = .returned (.bool (xs.any p)) ∧ Below w.heap.size w w' := by
  have H := Lib.hid (idxPs2 p a n c xs g cap w h eg hp)
  clear hp eg h
  go_enter Tryz.func50, Tryz.ntmps50
  go_wp2_with (fail)
  refine H.out.mono ?_
  rintro e w1 ⟨rfl, hb⟩
  go_wp2_with (fail)
  go_ret
  exact ⟨ret_b (idxF_any p xs), hb⟩
theorem merge1 (l : List Post) (a : Option Addr) (n c : Nat) (w : World) (h : Posts w a n l) : Calls Tryz.prog 84 #[.slice a n c] w fun e w' => e = .returned (.bool (!indexB l)) ∧ Below w.heap.size w w' := by
  have HC := Lib.hid (indexP l a n c w h)
  generalize indexB l = v at *
  clear h
  go_enter Tryz.func84, Tryz.ntmps84
  go_wp2_with (fail)
  refine HC.out.mono ?_
  rintro e w' ⟨rfl, hb⟩
  go_wp2_with (fail)
  go_ret
  exact ⟨rfl, hb⟩
theorem badPosts (a : Option Addr) (n c : Nat) (ls : List (List Post)) (w : World) (h : Posts2 w a n ls) :
    Calls Tryz.prog 50 #[.slice a n c, .func (.func 84) #[] #[]] w fun e w' => e = .returned (.bool (ls.any fun l => !indexB l)) ∧ Below w.heap.size w w' :=
  contPs2 (fun l => !indexB l) a n c ls 84 #[] w h (enters_of Tryz.func84 (by kernel_rfl) rfl) (fun u _ W a1 n1 c1 hp _ => merge1 u a1 n1 c1 W hp)
/-- the postings of all lists, one after the other -/
theorem concP2 (a : Option Addr) (n c : Nat) (ls : List (List Post)) (w : World) (h : Posts2 w a n ls) (hl : ls.flatten.length ≤ 100000) :
    Calls Tryz.prog 85 #[.slice a n c] w fun e w' => ∃ v, e = .returned v ∧ OwnPs 37 w w' w.heap.size v ls.flatten ∧ Below w.heap.size w w' := by
  obtain ⟨qss, h1, h2, h3⟩ := rowsV_posts h
  have e1 := sumN_posts qss
  have e2 := flatV_posts qss
  rw [h1] at e1
  refine (concP a n c _ w h2 (by rw [e1]; exact hl)).mono ?_
  rintro e w' ⟨v, rfl, ho, hb⟩
  rw [e1, e2] at ho
  have hq : qss.flatten.map (·.1) = ls.flatten := by rw [← h1, List.map_flatten]
  refine ⟨v, rfl, ⟨qss.flatten, hq, ?_, fun p hp => ?_⟩, hb⟩
  · rw [show qss.flatten.length = ls.flatten.length by rw [← hq, List.length_map]]
    exact ho
  · obtain ⟨qs, hqs, hp⟩ := List.mem_flatten.1 hp
    exact h3 qs hqs p hp
end Go.Proofs.YtngdmpkoedpgdaaGreatDoor

/-
  Merge (program).
-/


namespace Go.Ap
open Go Go.RowKit
theorem flatE_snoc {l : List Post} {i : Nat} {p : Post} (h : l[i]? = some p) : flatE (l.take (i + 1)) = flatE (l.take i) ++ p.2.map fun n => (p.1, n) := by
  unfold flatE
  rw [take_snoc h, List.flatMap_append]
  simp
theorem countL_take (l : List Post) (i : Nat) : countL (l.take i) ≤ countL l := by
  have : countL l = countL (l.take i) + countL (l.drop i) := by
    unfold countL
    rw [← List.sum_append, ← List.map_append, List.take_append_drop]
  omega
theorem grpOf_heads {es : List Entry} {s : Str × Str} : grpOf es s ≠ [] ↔ s ∈ (idxM mkB es).map (·.1) := by
  rw [heads_mem]
  constructor
  · intro h
    obtain ⟨m, hm⟩ := List.exists_mem_of_ne_nil _ h
    exact ⟨m, grpOf_mem.2 hm⟩
  · rintro ⟨m, hm⟩ e
    have := grpOf_mem.1 hm
    rw [e] at this
    cases this
theorem nodup_len {α : Type} : ∀ {l m : List α}, l.Nodup → (∀ x ∈ l, x ∈ m) → l.length ≤ m.length
  | [], _, _, _ => by simp
  | x :: r, m, h, hm => by
    obtain ⟨a, b, rfl⟩ := List.append_of_mem (hm x (List.mem_cons_self ..))
    rw [List.nodup_cons] at h
    have := nodup_len (l := r) (m := a ++ b) h.2 fun y hy => by
      have h1 := hm y (List.mem_cons_of_mem _ hy)
      rw [List.mem_append, List.mem_cons] at h1
      rw [List.mem_append]
      rcases h1 with h1 | rfl | h1
      · exact .inl h1
      · exact absurd hy h.1
      · exact .inr h1
    rw [List.length_append] at this
    rw [List.length_append, List.length_cons, List.length_cons]
    omega
/-- not more heads than postings -/
theorem heads_le (l : List Post) : (idxM mkB (flatE l)).length ≤ l.length := by
  have := nodup_len (m := l.map (·.1)) (heads_nodup (flatE l)) fun s hs => by
    obtain ⟨m, hm⟩ := (heads_mem _ s).1 hs
    obtain ⟨p, hp, rfl, _⟩ := flatE_mem.1 hm
    exact List.mem_map.2 ⟨p, hp, rfl⟩
  simpa using this
theorem OwnI.pushN {e : TypeId} {w w1 : World} {base : Nat} {v v' : Value} {xs ys : List Int} (h : OwnI e w base v xs) (hy : ∀ y ∈ ys, I64 y) (hown : w1.ownsRow base e 1 v' (xs.length + ys.length) (xs.map (Value.int .i64) ++ ys.map (Value.int .i64))) : OwnI e w1 base v' (xs ++ ys) := by
  refine ⟨by rw [List.length_append, List.map_append]; exact hown, fun y h1 => ?_⟩
  rcases List.mem_append.1 h1 with h1 | h1
  · exact h.2 y h1
  · exact hy y h1
/-- a row of the call's own as a block, if it is not empty -/
theorem owns_blk {w : World} {base size n : Nat} {e : TypeId} {v : Value} {xs : List Value} (h : w.ownsRow base e size v n xs) : ∃ a cap g o cur, v = .slice a n cap ∧ (0 < n → a = some ⟨g, o, none⟩ ∧ base ≤ g ∧ BlkK w g cur e ∧ ∀ (j : Nat) (u : Value), xs[j]? = some u → cur[o + j]? = some u) := by
  rcases h.2 with ⟨rfl, rfl⟩ | ⟨g, cap, cur, rfl, hg, hb, h1, h2, h3, h4⟩
  · exact ⟨none, 0, 0, 0, #[], rfl, fun h => absurd h (by omega)⟩
  · refine ⟨_, cap, g, 0, cur, rfl, fun _ => ⟨rfl, hg, hb, fun j u hu => ?_⟩⟩
    rw [Nat.zero_add]
    have := h.cellAt j (by rw [← h.1]; exact (List.getElem?_eq_some_iff.1 hu).1)
    have h5 : w.cell? ⟨g, j, none⟩ = some u := by rw [this]; exact hu
    simp only [World.cell?, hb] at h5
    simpa using h5
/-- lines that lie in a slice -/
theorem ints_news {w : World} {a : Option Addr} {n : Nat} {xs : List Int} (h : Ints w a n xs) (hn : 0 < n) : ∃ b o, a = some ⟨b, o, none⟩ ∧ ∀ (j : Nat) (u : Value), (xs.map (Value.int .i64))[j]? = some u → w.cell? ((⟨b, o, none⟩ : Addr).add j) = some u := by
  obtain ⟨x, b, o, v, _, rfl, _⟩ := Sl.at h hn
  exact ⟨b, o, rfl, fun j u hu => (reads_ints h).cells _ rfl j u hu⟩
theorem ints_i64 {w : World} {a : Option Addr} {n : Nat} {xs : List Int} (h : Ints w a n xs) : ∀ y ∈ xs, I64 y := fun y hy => by
  obtain ⟨k, hk⟩ := List.getElem?_of_mem hy
  obtain ⟨_, _, _, _, _, hr⟩ := h.cells k y hk
  exact hr.2
end Go.Ap
namespace Go.Proofs.YtngdmpkoedpgdaaGreatDoor
open Go.RowKit Go.Ap Go.Shelf Go.Proofs

attribute [local go_sem] Oper.semAt_some bs_toList empty_toList bs_size bs_extract
theorem Grp.count {w : World} {b base n : Nat} {es : List Entry} {ie : TypeId} (h : Grp tHd ie w b base n (grpOf es)) (hel : ∀ x ∈ es, x.1.1.length ≤ maxLen ∧ x.1.2.length ≤ maxLen) (ty : TypeId) :
    (Builtin.len_ #[90] ty #[.map (some b)]).run Tryz.prog w = .ok (.int .i64 ((idxM mkB es).length : Nat)) w := by
  obtain ⟨f, h1, h2, h3, _⟩ := h
  have := MapH.count h1 (ks := (idxM mkB es).map (·.1)) (heads_nodup es) (fun s _ => by
    rw [← grpOf_heads]
    constructor
    · intro hs
      cases hf : f s with
      | none => exact absurd hf hs
      | some v => exact (h3 s v hf).2
    · intro hg hs
      exact hg (h2 s hs)) (fun s hs => by
    obtain ⟨m, hm⟩ := (heads_mem es s).1 hs
    exact hel _ hm) ty
  rw [List.length_map] at this
  exact this
/-- the postings of all lists, one after the other, whose lines lie in an elder world -/
theorem concP3 (a : Option Addr) (n c : Nat) (ls : List (List Post)) (w0 w : World) (h : Posts2 w0 a n ls) (hb : Below w0.heap.size w0 w) (hl : ls.flatten.length ≤ 100000) :
    Calls Tryz.prog 85 #[.slice a n c] w fun e w' => ∃ (qs : List PIt) (v : Value), e = .returned v ∧ qs.map (·.1) = ls.flatten ∧ w'.ownsRow w.heap.size 37 3 v ls.flatten.length (qs.flatMap piC) ∧ (∀ p ∈ qs, ∃ a k, p.2 = .slice a p.1.2.length k ∧ PostS w0 a p.1) ∧ Below w.heap.size w w' := by
  obtain ⟨qss, h1, h2, h3⟩ := rowsV_posts h
  have e1 := sumN_posts qss
  have e2 := flatV_posts qss
  rw [h1] at e1
  refine (concP a n c _ w (h2.mono (Nat.le_refl _) hb) (by rw [e1]; exact hl)).mono ?_
  rintro e w' ⟨v, rfl, ho, hb'⟩
  rw [e1, e2] at ho
  refine ⟨qss.flatten, v, rfl, by rw [← h1, List.map_flatten], ho, fun p hp => ?_, hb'⟩
  obtain ⟨qs, hqs, hp⟩ := List.mem_flatten.1 hp
  exact h3 qs hqs p hp
set_option maxRecDepth 100000 in
set_option maxHeartbeats 4000000 in
theorem mergeBad (ls : List (List Post)) (a : Option Addr) (n c : Nat) (w : World) (h : Posts2 w a n ls) (l : List Post) (hc : mergeC ls ≠ 0) :
    Calls Tryz.prog 27 #[.slice a n c] w fun e w' => WordsA e w w' (mergeC ls) l := by
  have HBP := Lib.hid (badPosts a n c ls w h)
  unfold mergeC at hc ⊢
  rw [h.len] at hc ⊢
  clear h
  by_cases g1 : 64 < n
  · rw [if_pos g1]
    have d1 : decide ((64 : Int) < (n : Int)) = true := by rw [decide_eq_true_eq]; omega
    clear hc g1
    go_enter Tryz.func27, Tryz.ntmps27
    go_wp2_with (fail)
    go_ret2
    exact WordsA.bad (by decide) (Below.refl _ _)
  · rw [if_neg g1] at hc ⊢
    have d1 : decide ((64 : Int) < (n : Int)) = false := by rw [decide_eq_false_iff_not]; omega
    cases hb : ls.any fun l => !indexB l
    · rw [hb] at hc
      simp at hc
    · rw [hb] at HBP
      rw [if_pos rfl]
      clear hc g1 hb
      go_enter Tryz.func27, Tryz.ntmps27
      go_wp2_with (fail)
      refine HBP.out.mono ?_
      rintro e W ⟨rfl, hb⟩
      go_wp2_with (fail)
      go_ret2
      exact WordsA.bad (by decide) hb
set_option maxRecDepth 100000 in
set_option maxHeartbeats 8000000 in
theorem mergeOk (ls : List (List Post)) (a : Option Addr) (m c : Nat) (w : World) (h : Posts2 w a m ls) (ht1 : ls.flatten.length ≤ 4096) (ht2 : countL ls.flatten ≤ 100000) (h64 : m ≤ 64) (hv : (ls.any fun l => !indexB l) = false) :
    Calls Tryz.prog 27 #[.slice a m c] w fun e w' => (∃ u, e = .returned (.tuple #[u, .int .i64 0]) ∧ GivesPo w' u (mergeI ls)) ∧ Below w.heap.size w w' := by
  obtain ⟨i0, hi, hz0, hz1, hz2⟩ := info_parts infoInt5
  have HBP := Lib.hid (badPosts a m c ls w h)
  rw [hv] at HBP
  have HCO := Lib.hid (fun W (hb : Below w.heap.size w W) => concP3 a m c ls w W h hb (by omega))
  have d1 : decide ((64 : Int) < (m : Int)) = false := by rw [decide_eq_false_iff_not]; omega
  unfold mergeI
  have HVAL := Lib.hid (show ∀ p ∈ ls.flatten, validB p = true from fun p hp => by
    obtain ⟨l, hl, hp⟩ := List.mem_flatten.1 hp
    rw [List.any_eq_false] at hv
    have h1 : indexB l = true := by simpa using hv l hl
    exact (indexB_valid h1).2 p hp)
  obtain ⟨ps, hps⟩ : ∃ ps, ls.flatten = ps := ⟨_, rfl⟩
  rw [hps] at HCO HVAL ht1 ht2 ⊢
  obtain ⟨n, hn⟩ : ∃ n, ps.length = n := ⟨_, rfl⟩
  rw [hn] at HCO ht1
  have HPN := Lib.hid hn
  have HT1 := Lib.hid ht1
  have HT2 := Lib.hid ht2
  have HEL := Lib.hid (show ∀ x ∈ flatE ps, x.1.1.length ≤ 64 ∧ x.1.2.length ≤ 16 from fun x hx => by
    obtain ⟨h, k⟩ := x
    obtain ⟨p, hp, rfl, _⟩ := flatE_mem.1 hx
    obtain ⟨v1, v2, _⟩ := validB_parts (HVAL.out p hp)
    exact ⟨isWordB_64 v1, nameB_16 v2⟩)
  obtain ⟨base, hbase⟩ : ∃ b, w.heap.size = b := ⟨_, rfl⟩
  have HBS := Lib.hid hbase
  have HPO := Lib.hid (fun bm W (hG : Grp tHd 3 W bm base n (grpOf (flatE ps))) (hsz : base ≤ W.heap.size) => postingsP bm base n _ W hG hsz ht1 (fun s => by
    have a := grpOf_len (flatE ps) s
    have b := countL_flat ps
    omega) (flatE ps) (fun h m => grpOf_mem) (fun x hx => by have := HEL.out x hx; omega))
  have HCNT := Lib.hid (fun bm W (hG : Grp tHd 3 W bm base n (grpOf (flatE ps))) (ty : TypeId) => Grp.count hG (fun x hx => by have := HEL.out x hx; unfold maxLen; omega) ty)
  have HHL := Lib.hid (show (idxM mkB (flatE ps)).length ≤ 4096 from Nat.le_trans (heads_le ps) (by omega))
  have hnb : n ≤ 4096 := ht1
  clear h hv hps hn ht1 ht2 h64
  go_enter Tryz.func27, Tryz.ntmps27
  go_wp2_with (fail)
  refine HBP.out.mono ?_
  rintro e W ⟨rfl, hb⟩
  have HB0 := Lib.hid (show Below base w W by rw [← hbase]; exact hb)
  have hszW : base ≤ W.heap.size := by have := hb.size; omega
  obtain ⟨bm, hbm⟩ : ∃ b, W.heap.size = b := ⟨_, rfl⟩
  have HBM := Lib.hid hbm
  have HG0 := Lib.hid (show Grp tHd 3 (W.alloc (.map #[] 0)) bm base 0 (grpOf (flatE (ps.take 0))) by rw [← hbm]; exact Grp.made W)
  have HB1 := Lib.hid (HB0.out.alloc hszW (.map #[] 0))
  have HSW := Lib.hid hszW
  have HCO1 := Lib.hid (HCO.out (W.alloc (.map #[] 0)) (by rw [hbase]; exact HB1.out))
  have hmm := @run_makeMap Tryz.prog
  clear hb HBP HCO hbm hszW
  go_wp2_with (fail)
  rw [HBM.out]
  clear hmm
  refine HCO1.out.mono ?_
  rintro e W2 ⟨qs, v, rfl, hq1, hq2, hq3, hb2⟩
  obtain ⟨a', cap, g, o, cur, rfl, hrow⟩ := owns_blk hq2
  have HROW := Lib.hid hrow
  have HQ1 := Lib.hid hq1
  have HQ3 := Lib.hid hq3
  have HB2 := Lib.hid (HB1.out.trans (hb2.mono (by have := HSW.out; simp; omega)))
  have HG2 := Lib.hid (HG0.out.below hb2)
  clear hq1 hq2 hq3 hb2 hrow HCO1
  go_wp2_with (fail)
  go_loopw [19] (fun iv wr => ∃ i : Nat, i ≤ n ∧ iv = .int .i64 i ∧ Grp tHd 3 wr bm base i (grpOf (flatE (ps.take i))) ∧ Below base w wr ∧ (0 < n → BlkK wr g cur 37)) (fun iv _ => n - (intOf iv).toNat)
  case atStart => exact ⟨0, Nat.zero_le _, rfl, HG2.out, HB2.out, fun h0 => (HROW.out h0).2.2.1⟩
  case round =>
    obtain ⟨wi, rfl⟩ : ∃ wi : World, wi = wr := ⟨_, rfl⟩
    obtain ⟨i, hile, rfl, hG, hb, hk⟩ := hrel
    have HB := Lib.hid hb
    have HG := Lib.hid hG
    have HSZ := Lib.hid (show base ≤ wi.heap.size by have := hb.size; have := HBS.out; omega)
    by_cases hin : i < n
    · obtain ⟨rfl, _, _, hcur⟩ := HROW.out (by omega)
      have hK := hk (by omega)
      have HKG := Lib.hid hK
      obtain ⟨q, hq⟩ : ∃ q, qs[i]? = some q := ⟨_, List.getElem?_eq_getElem (by have h1 := congrArg List.length HQ1.out; rw [List.length_map, HPN.out] at h1; omega)⟩
      obtain ⟨a3, k3, he3, hps3⟩ := HQ3.out q (List.mem_of_getElem? hq)
      obtain ⟨⟨⟨wd, sc⟩, l⟩, qv⟩ := q
      simp only at he3 hps3
      subst he3
      have hpi : ps[i]? = some ((wd, sc), l) := by rw [← HQ1.out, List.getElem?_map, hq]; rfl
      have HSN := Lib.hid (flatE_snoc hpi)
      have hval := HVAL.out _ (List.mem_of_getElem? hpi)
      obtain ⟨v1, v2, v3, v4⟩ := validB_parts hval
      simp only at v1 v2 v3 v4
      have hv0 : 0 < l.length := by
        rcases Nat.eq_zero_or_pos l.length with e | e
        · rw [validB_0 e] at hval; cases hval
        · exact e
      have HLNE := Lib.hid (show l ≠ [] from fun e => by rw [e] at hv0; simp at hv0)
      obtain ⟨b3, o3, rfl, hnews⟩ := ints_news (hps3.lines.mono (Nat.le_of_eq HBS.out) hb) hv0
      have HNEW0 := Lib.hid (ints_news hps3.lines hv0)
      have HIY := Lib.hid (ints_i64 hps3.lines)
      have HXL := Lib.hid (show wd.length ≤ maxLen ∧ sc.length ≤ maxLen by have := isWordB_64 v1; have := nameB_16 v2; unfold maxLen; omega)
      have HL4 := Lib.hid (show l.length ≤ 4096 from v3)
      have c0 : wi.cell? ⟨g, o + i * 3, none⟩ = some (.string (bs wd)) := hK.cell (hcur (i * 3) _ (flat3 piC_len hq (i := 0) rfl))
      have c1 : wi.cell? ⟨g, o + i * 3 + 1, none⟩ = some (.string (bs sc)) := hK.cell (by rw [Nat.add_assoc]; exact hcur (i * 3 + 1) _ (flat3 piC_len hq (i := 1) rfl))
      obtain ⟨k, hk'⟩ : ∃ k, l.length = k := ⟨_, rfl⟩
      have c2 : wi.cell? ⟨g, o + i * 3 + 2, none⟩ = some (.slice (some ⟨b3, o3, none⟩) k k3) := hK.cell (by rw [Nat.add_assoc, ← hk']; exact hcur (i * 3 + 2) _ (flat3 piC_len hq (i := 2) rfl))
      have HK' := Lib.hid hk'
      have i1 : (i : Int) < (n : Int) := by omega
      obtain ⟨X1, hX1⟩ : ∃ X, wi.heap.size = X := ⟨_, rfl⟩
      have hA1 := balloc wi (.cells #[.string (bs wd), .string (bs sc), .slice (some ⟨b3, o3, none⟩) k k3] 37)
      have K1 := BlkK.new wi #[.string (bs wd), .string (bs sc), .slice (some ⟨b3, o3, none⟩) k k3] 37
      have hBA1 := HB.out.alloc HSZ.out (.cells #[.string (bs wd), .string (bs sc), .slice (some ⟨b3, o3, none⟩) k k3] 37)
      have hSA1 : base ≤ (wi.alloc (.cells #[.string (bs wd), .string (bs sc), .slice (some ⟨b3, o3, none⟩) k k3] 37)).heap.size := by have := HSZ.out; simp; omega
      obtain ⟨W1, hW1⟩ : ∃ W, wi.alloc (.cells #[.string (bs wd), .string (bs sc), .slice (some ⟨b3, o3, none⟩) k k3] 37) = W := ⟨_, rfl⟩
      rw [hX1] at K1
      rw [hW1] at hA1 K1 hBA1 hSA1
      obtain ⟨X, hX⟩ : ∃ X, W1.heap.size = X := ⟨_, rfl⟩
      have hA2 := balloc W1 (.cells #[.string (bs wd), .string (bs sc)] 92)
      have K2 := BlkK.new W1 #[.string (bs wd), .string (bs sc)] 92
      have hBA2 := hBA1.alloc hSA1 (.cells #[.string (bs wd), .string (bs sc)] 92)
      have hSA2 : base ≤ (W1.alloc (.cells #[.string (bs wd), .string (bs sc)] 92)).heap.size := by simp; omega
      obtain ⟨WA, hWA⟩ : ∃ W, W1.alloc (.cells #[.string (bs wd), .string (bs sc)] 92) = W := ⟨_, rfl⟩
      rw [hX] at K2
      rw [hWA] at hA2 K2 hBA2 hSA2
      have HBA := Lib.hid hBA2
      have HSA := Lib.hid hSA2
      have HGA := Lib.hid ((HG.out.below hA1).below hA2)
      have HK1 := Lib.hid (K1.below hA2)
      have HK2 := Lib.hid K2
      have HKA := Lib.hid ((hK.below hA1).below hA2)
      have f0 := HK1.out.cell (i := 0) (u := .string (bs wd)) rfl
      have f1 := HK1.out.cell (i := 1) (u := .string (bs sc)) rfl
      have f2 := HK1.out.cell (i := 2) (u := .slice (some ⟨b3, o3, none⟩) k k3) rfl
      have e0 := K1.cell (i := 0) (u := .string (bs wd)) rfl
      have e1 := K1.cell (i := 1) (u := .string (bs sc)) rfl
      have h0 := HK2.out.cell (i := 0) (u := .string (bs wd)) rfl
      have h1 := HK2.out.cell (i := 1) (u := .string (bs sc)) rfl
      obtain ⟨u, w1, st, o1, hme, hou, hg1, ho1, hoc1, _, hst⟩ := Grp.entry (s := (wd, sc)) rfl HGA.out (by unfold maxLen; omega) HXL.out
      replace hme : (Instr.mapEntry 90 (.map (some bm)) (.agg #[.string (bs wd), .string (bs sc)])).run Tryz.prog WA = .ok (.tuple #[u, st]) w1 := hme
      have HBM1 := Lib.hid (show base ≤ bm by have := HSW.out; have := HBM.out; omega)
      have hszB := HBA.out.size
      have HB3 := Lib.hid (HBA.out.grown hg1 (by have := HBS.out; omega) fun k hk => by cases hk; exact HBM1.out)
      have HKG3 := Lib.hid (HKA.out.keptE hg1 (HGA.out.ne HKA.out))
      have HOU := Lib.hid hou
      have HO1 := Lib.hid ho1
      have HOC := Lib.hid hoc1
      have HST := Lib.hid hst
      have HS3 := Lib.hid (show base ≤ w1.heap.size by have := HB3.out.size; have := HBS.out; omega)
      have HGL := Lib.hid (show (grpOf (flatE (ps.take i)) (wd, sc)).length ≤ 100000 by
        have a := grpOf_len (flatE (ps.take i)) (wd, sc)
        have b := countL_flat (ps.take i)
        have c := countL_take ps i
        have d := HT2.out
        omega)
      have HNW := Lib.hid (show ∀ (j : Nat) (u : Value), (l.map (Value.int .i64))[j]? = some u → w1.cell? ((⟨b3, o3, none⟩ : Addr).add j) = some u from fun j u hu => by
        obtain ⟨b', o', he', hn'⟩ := HNEW0.out
        cases he'
        exact Go.Ap.cell_kept (Nat.le_of_eq HBS.out) HB3.out (hn' j u hu))
      clear hk hk' hq hpi hps3 hval v1 v2 v3 v4 hv0 hnews hcur hG hb hK hA1 hA2 K1 K2 hBA1 hBA2 hSA1 hSA2 hou hg1 ho1 hoc1 hst hszB
      go_wp2_with (at_builtin; refine wpList_append_own_at _ rfl _ _ 26 rfl base 3 i0 (.int .i64 0) 1 8 Tryz.underlying26 hi hz0 hz1 hz2 rfl (by decide) u _ _ rfl HOU.out.1 ⟨b3, o3, none⟩ k k3 (l.map (Value.int .i64)) rfl (by rw [List.length_map, HK'.out, Nat.mul_one]) HNW.out (by intro u hu; obtain ⟨x, _, rfl⟩ := List.mem_map.1 hu; rfl) (by have := HGL.out; have := HL4.out; have := HK'.out; unfold maxLen; omega) (by have := HGL.out; have := HL4.out; have := HK'.out; omega) HS3.out ?_)
      intro v' w9 hown' hgr' _ hat
      rw [← HK'.out] at hown'
      have hv9 : OwnI 3 w9 base v' (grpOf (flatE (ps.take i)) (wd, sc) ++ l) := HOU.out.pushN HIY.out hown'
      obtain ⟨w4, hes, hG4, hg4⟩ := HST.out w9 v' _ ((hgr'.block bm (by have := HO1.out; exact (Array.getElem?_eq_some_iff.1 this).1) (fun e => (own_not HOU.out.1 HO1.out HOC.out).elim (fun h => by rw [h] at e; cases e) (fun h => h e.symm))).trans HO1.out) hgr' hv9 (by simp [HLNE.out]) (hat.imp id fun h => ⟨_, Nat.le_refl _, h⟩)
      rw [grpOf_add _ _ l] at hG4
      have HB9 := Lib.hid (HB3.out.grown hgr' HS3.out fun k hk => (HOU.out.1.lt k hk).1)
      have HKG9 := Lib.hid (HKG3.out.keptE hgr' (HKG3.out.apart HOU.out.1 (by decide)))
      have HS9 := Lib.hid (show base ≤ w9.heap.size by have := HB9.out.size; have := HBS.out; omega)
      have HB10 := Lib.hid (HB9.out.grown hg4 HS9.out fun k hk => by cases hk; exact HBM1.out)
      have HKG10 := Lib.hid (HKG9.out.keptE hg4 (HGA.out.ne HKA.out))
      have HG10 := Lib.hid (show Grp tHd 3 w4 bm base (i + 1) (grpOf (flatE (ps.take (i + 1)))) by rw [HSN.out]; exact hG4)
      clear hown' hgr' hat hv9 hG4 hg4 hme
      go_wp2_with (fail)
      go_roundw
      case rel => exact ⟨i + 1, by omega, by simp, HG10.out, HB10.out, fun _ => HKG10.out⟩
      case measure => simp [intOf]; omega
    · obtain rfl : n = i := by omega
      have HG1 := Lib.hid (show Grp tHd 3 wi bm base n (grpOf (flatE ps)) by
        have := HG.out
        rw [List.take_of_length_le (Nat.le_of_eq HPN.out)] at this
        exact this)
      have HC := Lib.hid (HPO.out bm wi HG1.out HSZ.out)
      have hct := fun ty => HCNT.out bm wi HG1.out ty
      obtain ⟨k, hk'⟩ : ∃ k, (idxM mkB (flatE ps)).length = k := ⟨_, rfl⟩
      simp only [hk'] at hct
      have d4 : decide ((4096 : Int) < (k : Int)) = false := by have := HHL.out; rw [decide_eq_false_iff_not]; omega
      clear hG hb hk hk'
      go_wp2_with (fail)
      refine HC.out.mono ?_
      rintro e w2 ⟨⟨u, rfl, hu⟩, hb2⟩
      have HU := Lib.hid hu
      have HB2 := Lib.hid hb2
      clear hu hb2
      go_wp2_with (fail)
      go_ret2
      exact ⟨⟨_, rfl, HU.out⟩, by rw [HBS.out]; exact HB.out.trans HB2.out⟩
theorem mergeP (ls : List (List Post)) (a : Option Addr) (n c : Nat) (w : World) (h : Posts2 w a n ls) (ht1 : ls.flatten.length ≤ 4096) (ht2 : countL ls.flatten ≤ 100000) :
    Calls Tryz.prog 27 #[.slice a n c] w fun e w' => WordsA e w w' (mergeC ls) (mergeI ls) := by
  by_cases hc : mergeC ls = 0
  · have h1 : n ≤ 64 ∧ (ls.any fun l => !indexB l) = false := by
      unfold mergeC at hc
      split at hc
      · cases hc
      · rename_i g1
        split at hc
        · cases hc
        · rename_i g2
          exact ⟨by rw [← h.len]; omega, by simpa using g2⟩
    rw [hc]
    refine (mergeOk ls a n c w h ht1 ht2 h1.1 h1.2).mono ?_
    rintro e w' ⟨⟨u, rfl, hu⟩, hb⟩
    exact ⟨u, rfl, fun _ => hu, fun h => absurd rfl h, hb⟩
  · exact mergeBad ls a n c w h _ hc
end Go.Proofs.YtngdmpkoedpgdaaGreatDoor

/-
  What is answered, as a slice of postings.
-/

namespace Go.Ap
open Go Go.RowKit
theorem sum_le_mul {l : List Post} {k : Nat} (h : ∀ p ∈ l, p.2.length ≤ k) : countL l ≤ l.length * k := by
  unfold countL
  induction l with
  | nil => simp
  | cons p r ih =>
    have h1 := h p (List.mem_cons_self ..)
    have h2 := ih fun q hq => h q (List.mem_cons_of_mem _ hq)
    simp only [List.map_cons, List.sum_cons, List.length_cons]
    rw [Nat.succ_mul]
    omega
end Go.Ap
namespace Go.Proofs.YtngdmpkoedpgdaaGreatDoor
open Go.RowKit Go.Ap Go.Shelf Go.Proofs
/-- what is answered, as a slice of postings -/
def ShowsP (e : Ending) (w w' : World) (c : Int) (n : Nat) (l : List Post) : Prop := ∃ a k, e = .returned (.tuple #[.slice a n k, .int .i64 c]) ∧ Posts w' a n l ∧ Below w.heap.size w w'
def shownP {α : Type} (c : Int) (l : List α) : List α := if c = 0 then l else []
theorem WordsA.shows {e : Ending} {w w' : World} {c c' : Int} {l l' : List Post} {n : Nat} (h : WordsA e w w' c l) (hc : c = c') (hl : shownP c l = l') (hn : l'.length = n) : ShowsP e w w' c' n l' := by
  subst hc hl hn
  obtain ⟨u, rfl, h1, h2, hb⟩ := h
  unfold shownP
  by_cases hc : c = 0
  · rw [if_pos hc]
    obtain ⟨a, k, rfl, hp, _⟩ := h1 hc
    exact ⟨a, k, rfl, hp, hb⟩
  · rw [if_neg hc, h2 hc]
    exact ⟨none, 0, rfl, SlM.nil _ _, hb⟩
end Go.Proofs.YtngdmpkoedpgdaaGreatDoor
