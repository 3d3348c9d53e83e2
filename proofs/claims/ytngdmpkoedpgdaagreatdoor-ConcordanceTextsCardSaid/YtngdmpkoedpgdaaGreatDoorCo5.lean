/-
  slices.Grow of a nil slice; slices.Concat (words, numbers, postings).
-/
import Derived.Test.YtngdmpkoedpgdaaGreatDoorQa
import Derived.Lib.AppendZeros
namespace Go.Ap
open Go Go.RowKit
theorem grown_zerosM {t : TypeId} {z : Value} {m : Nat} (hz : z.cells.size = m) (w : World) (n : Nat) (hn : n ≤ maxLen) :
    (w.drew.alloc (.cells (Builtin.zeroCells z.cells n ++ Builtin.zeroCells z.cells (grownCap w n 0 t - n)) t)).ownsRow w.heap.size t m (.slice (some ⟨w.heap.size, 0, none⟩) 0 (grownCap w n 0 t)) 0 [] := by
  have h1 := grownCap_ge w n 0 t
  refine ⟨by simp, .inr ⟨w.heap.size, _, _, rfl, Nat.le_refl _, heap_alloc_new w.drew _, Nat.zero_le _, grownCap_le_maxLen w n 0 t hn, ?_, by simp⟩⟩
  rw [Array.size_append, size_zeroCells, size_zeroCells, hz, ← Nat.add_mul]
  congr 1
  omega
section
variable {P : Program} {w : World}
theorem run_append_zero (base : Nat) (t ty e : TypeId) (i : TypeInfo) (size : Nat) (c : Nat) (ht : P.underlying t = some (.slice e)) (hi : P.info? e = some i)
    (v : Value) (n : Nat) (xs : List Value) (hown : w.ownsRow base e size v n xs) :
    (Builtin.append_ #[t, t] ty #[v, .slice none 0 c]).run P w = .ok v w := by
  rcases hown.2 with ⟨rfl, rfl⟩ | ⟨g, cap, cur, rfl, _, _, hnc, _⟩
  · simp [Builtin.append_, run_underlying ht, sizeOf, typeInfo, hi, Builtin.lenOf, Builtin.firstCells]
  · simp [Builtin.append_, run_underlying ht, sizeOf, typeInfo, hi, Builtin.lenOf, Builtin.firstCells, hnc, storeCells]
theorem wpList_append_zero {ops : Array Oper} {rest : List Oper} {o : Oper} {a : Act} {Q : Exit → Act → World → Prop} (hgd : o.guard = none) (s x : Operand) (t : TypeId)
    (ho : o.op = .call { callee := .builtin .append, args := #[s, x], argTypes := #[t, t] })
    (base : Nat) (e : TypeId) (i : TypeInfo) (size c : Nat) (ht : P.underlying t = some (.slice e)) (hi : P.info? e = some i)
    (v : Value) (n : Nat) (xs : List Value) (hs : a.eval s = v) (hown : w.ownsRow base e size v n xs) (hx : a.eval x = .slice none 0 c)
    (h : wpList P ops Q rest (a.put o.dst v) w) : wpList P ops Q (o :: rest) a w := by
  refine wpList_plain hgd fun K hK => ?_
  have hrun := run_append_zero (P := P) (w := w) base t o.type e i size c ht hi v n xs hown
  unfold Oper.wp
  simp [execOp, ho, resolve, invoke, builtin, hs, hx, hrun, Result.andThen]
  exact hK _ _ h
end
/-- what a slice value reads as, cell by cell -/
structure Reads (m : Nat) (w : World) (a : Option Addr) (n : Nat) (vs : List Value) : Prop where
  len : vs.length = n * m
  none : a = none → n = 0
  cells : ∀ ad, a = some ad → ∀ (j : Nat) u, vs[j]? = some u → w.cell? (ad.add j) = some u
  one : ∀ u ∈ vs, u.oneCell' = true
/-- a row of such slices: how long each is, and its cells -/
structure RowsV (m : Nat) (w : World) (a : Option Addr) (n : Nat) (F : List (Nat × List Value)) : Prop where
  len : F.length = n
  small : n ≤ 4611686018427387903
  rows : ∀ (k : Nat) (x : Nat × List Value), F[k]? = some x → ∃ b o a1 c1, a = some ⟨b, o, none⟩ ∧ w.cell? ⟨b, o + k, none⟩ = some (.slice a1 x.1 c1) ∧ Reads m w a1 x.1 x.2
theorem addr_plain (b o j : Nat) : (⟨b, o, none⟩ : Addr).add j = ⟨b, o + j, none⟩ := by unfold Addr.add; split <;> simp_all
theorem Reads.mono {m : Nat} {w w' : World} {B : Nat} {a : Option Addr} {n : Nat} {vs : List Value} (h : Reads m w a n vs) (hB : w.heap.size ≤ B) (hb : Below B w w') : Reads m w' a n vs :=
  ⟨h.len, h.none, fun ad ha j u hu => cell_kept hB hb (h.cells ad ha j u hu), h.one⟩
theorem RowsV.mono {m : Nat} {w w' : World} {B : Nat} {a : Option Addr} {n : Nat} {F : List (Nat × List Value)} (h : RowsV m w a n F) (hB : w.heap.size ≤ B) (hb : Below B w w') : RowsV m w' a n F :=
  ⟨h.len, h.small, fun k x hk => by
    obtain ⟨b, o, a1, c1, ha, hc, hr⟩ := h.rows k x hk
    exact ⟨b, o, a1, c1, ha, cell_kept hB hb hc, hr.mono hB hb⟩⟩
theorem RowsV.at {m : Nat} {w : World} {a : Option Addr} {n : Nat} {F : List (Nat × List Value)} (h : RowsV m w a n F) {k : Nat} (hk : k < n) : ∃ x b o a1 c1, F[k]? = some x ∧ a = some ⟨b, o, none⟩ ∧ w.cell? ⟨b, o + k, none⟩ = some (.slice a1 x.1 c1) ∧ Reads m w a1 x.1 x.2 := by
  have hx : F[k]? = some (F[k]'(by rw [h.len]; exact hk)) := List.getElem?_eq_getElem _
  obtain ⟨b, o, a1, c1, ha, hc, hr⟩ := h.rows k _ hx
  exact ⟨_, b, o, a1, c1, hx, ha, hc, hr⟩
def sumN (F : List (Nat × List Value)) : Nat := (F.map (·.1)).sum
def flatV (F : List (Nat × List Value)) : List Value := F.flatMap (·.2)
theorem sumN_snoc {F : List (Nat × List Value)} {k : Nat} {x : Nat × List Value} (h : F[k]? = some x) : sumN (F.take (k + 1)) = sumN (F.take k) + x.1 := by
  unfold sumN
  rw [List.take_add_one, h]
  simp
theorem flatV_snoc {F : List (Nat × List Value)} {k : Nat} {x : Nat × List Value} (h : F[k]? = some x) : flatV (F.take (k + 1)) = flatV (F.take k) ++ x.2 := by
  unfold flatV
  rw [List.take_add_one, h]
  simp
theorem sumN_take (F : List (Nat × List Value)) (k : Nat) : sumN (F.take k) ≤ sumN F := by
  have : sumN F = sumN (F.take k) + sumN (F.drop k) := by
    unfold sumN
    rw [← List.sum_append, ← List.map_append, List.take_append_drop]
  omega
def GivesV (t : TypeId) (m : Nat) (w : World) (n : Nat) (xs : List Value) (e : Ending) (w' : World) : Prop := ∃ v, e = .returned v ∧ w'.ownsRow w.heap.size t m v n xs ∧ Below w.heap.size w w'
/-- words | numbers that lie in a slice -/
theorem reads_strs {w : World} {a : Option Addr} {n : Nat} {xs : List Str} (h : StrsL w a n xs) : Reads 1 w a n (xs.map sv) := by
  refine ⟨by rw [List.length_map, h.len, Nat.mul_one], fun ha => ?_, fun ad ha j u hu => ?_, fun u hu => ?_⟩
  · have := h.len
    cases xs with
    | nil => simpa using this.symm
    | cons x r =>
      obtain ⟨b, o, v, he, _⟩ := h.cells 0 x rfl
      rw [ha] at he
      cases he
  · rw [List.getElem?_map, Option.map_eq_some_iff] at hu
    obtain ⟨x, hx, rfl⟩ := hu
    obtain ⟨b, o, v, he, hc, rfl⟩ := h.cells j x hx
    rw [ha] at he
    cases he
    rw [addr_plain]
    exact hc
  · obtain ⟨x, _, rfl⟩ := List.mem_map.1 hu
    rfl
theorem reads_ints {w : World} {a : Option Addr} {n : Nat} {xs : List Int} (h : Ints w a n xs) : Reads 1 w a n (xs.map (Value.int .i64)) := by
  refine ⟨by rw [List.length_map, h.len, Nat.mul_one], fun ha => ?_, fun ad ha j u hu => ?_, fun u hu => ?_⟩
  · have := h.len
    cases xs with
    | nil => simpa using this.symm
    | cons x r =>
      obtain ⟨b, o, v, he, _⟩ := h.cells 0 x rfl
      rw [ha] at he
      cases he
  · rw [List.getElem?_map, Option.map_eq_some_iff] at hu
    obtain ⟨x, hx, rfl⟩ := hu
    obtain ⟨b, o, v, he, hc, rfl, _⟩ := h.cells j x hx
    rw [ha] at he
    cases he
    rw [addr_plain]
    exact hc
  · obtain ⟨x, _, rfl⟩ := List.mem_map.1 hu
    rfl
theorem piC_one {q : PIt} {w : World} (h : ∃ a k, q.2 = .slice a q.1.2.length k ∧ PostS w a q.1) : ∀ u ∈ piC q, u.oneCell' = true := fun u hu => by
  obtain ⟨a', k', he, _⟩ := h
  unfold piC at hu
  rw [he] at hu
  simp only [List.mem_cons, List.not_mem_nil, or_false] at hu
  rcases hu with rfl | rfl | rfl <;> rfl
theorem reads_posts {w : World} {a : Option Addr} {n : Nat} {l : List Post} (h : Posts w a n l) : ∃ qs : List PIt, qs.map (·.1) = l ∧ Reads 3 w a n (qs.flatMap piC) ∧ ∀ p ∈ qs, ∃ a k, p.2 = .slice a p.1.2.length k ∧ PostS w a p.1 := by
  have hl := h.len
  cases l with
  | nil =>
    have h0 : n = 0 := by simpa using hl.symm
    subst h0
    exact ⟨[], rfl, ⟨rfl, (fun _ => rfl), (fun _ _ j u hu => by simp at hu), (fun u hu => by simp at hu)⟩, (fun p hp => by cases hp)⟩
  | cons x r =>
    obtain ⟨b, o, rfl, _⟩ := h.cells 0 x rfl
    obtain ⟨qs, h1, h2, h3⟩ := posts_items h
    refine ⟨qs, h1, ⟨?_, (fun e => by cases e), fun ad ha j u hu => ?_, fun u hu => ?_⟩, h3⟩
    · rw [piC_flat, ← hl, ← h1, List.length_map]
    · cases ha
      rw [addr_plain]
      exact h2 j u hu
    · obtain ⟨q, hq, hq2⟩ := List.mem_flatMap.1 hu
      exact piC_one (h3 q hq) u hq2
/-- a literal of two -/
theorem rowsV_two {m : Nat} {w : World} {B : Nat} {a1 a2 : Option Addr} {n1 c1 n2 c2 : Nat} {x y : List Value} (h1 : w.cell? ⟨B, 0, none⟩ = some (.slice a1 n1 c1)) (h2 : w.cell? ⟨B, 1, none⟩ = some (.slice a2 n2 c2)) (r1 : Reads m w a1 n1 x) (r2 : Reads m w a2 n2 y) : RowsV m w (some ⟨B, 0, none⟩) 2 [(n1, x), (n2, y)] :=
  ⟨rfl, by omega, fun k z hk => by
    match k, hk with
    | 0, hk => cases hk; exact ⟨B, 0, a1, c1, rfl, h1, r1⟩
    | 1, hk => cases hk; exact ⟨B, 0, a2, c2, rfl, h2, r2⟩⟩
end Go.Ap
namespace Go.Proofs.YtngdmpkoedpgdaaGreatDoor
open Go.RowKit Go.Ap Go.Shelf Go.Proofs

attribute [local go_sem] Oper.semAt_some bs_toList empty_toList bs_size bs_extract
theorem owns_sliceM {w : World} {base m n : Nat} {e : TypeId} {v : Value} {xs : List Value} (h : w.ownsRow base e m v n xs) : ∃ a c, v = .slice a n c := by
  rcases h.2 with ⟨h1, h2⟩ | ⟨g, cap, cur, h1, _⟩
  · exact ⟨none, 0, by rw [h1, h2]⟩
  · exact ⟨_, _, h1⟩

theorem infoS : (Tryz.prog.info? 9).map (fun i => (i.zero, i.size, i.bytes)) = some (some (.string { data := #[] }), 1, 16) := by kernel_rfl
set_option maxHeartbeats 1000000 in
theorem growS (n : Nat) (w : World) (hn : n ≤ 100000) :
    Calls Tryz.prog 82 #[.slice none 0 0, .int .i64 n] w (GivesV 9 1 w 0 []) := by
  obtain ⟨i0, hi, hz0, hz1, hz2⟩ := info_parts infoS
  by_cases h0 : n = 0
  · subst h0
    go_enter Tryz.func82, Tryz.ntmps82
    go_wp2_with (fail)
    go_ret
    exact ⟨_, rfl, World.ownsRow_nil _ _ _ _, Below.refl _ _⟩
  · have hp : 0 < n := by omega
    have d1 : decide (0 < (n : Int)) = true := by simp; omega
    have d2 : decide (0 < n) = true := by simpa using hp
    have d3 : decide ((n : Int) < 0) = false := by simp
    have HO := Lib.hid (grown_zerosM (t := 9) (z := .string { data := #[] }) (m := 1) rfl w n (by unfold maxLen; omega))
    have hbw : Below w.heap.size w (w.drew.alloc (.cells (Builtin.zeroCells (.string { data := #[] } : Value).cells n ++ Builtin.zeroCells (.string { data := #[] } : Value).cells (grownCap w n 0 9 - n)) 9)) := bstep (Below.refl _ _).drew (balloc _ _)
    have HBW := Lib.hid hbw
    have hrun := Lib.run_append_nil_zeros (P := Tryz.prog) w 22 3 22 9 i0 (.string { data := #[] }) .i64 .i64 Tryz.underlying22 Tryz.underlying3 hi hz0 n hp (by omega) (by omega) (by rw [hz2]; omega)
    obtain ⟨cp, hcp⟩ : ∃ cp, grownCap w n 0 9 = cp := ⟨_, rfl⟩
    obtain ⟨W1, hW1⟩ : ∃ W1, w.drew.alloc (.cells (Builtin.zeroCells (.string { data := #[] } : Value).cells n ++ Builtin.zeroCells (.string { data := #[] } : Value).cells (grownCap w n 0 9 - n)) 9) = W1 := ⟨_, rfl⟩
    rw [hW1] at HO HBW
    rw [hW1] at hrun
    rw [hcp] at HO hrun
    have HR := Lib.hid hrun
    clear hbw hrun hW1 hcp h0
    go_enter Tryz.func82, Tryz.ntmps82
    go_wp2_with (at_builtin; refine Lib.wpList_append_run _ rfl _ _ 22 3 rfl _ _ rfl rfl _ _ HR.out ?_)
    go_ret
    exact ⟨_, rfl, HO.out, HBW.out⟩
set_option maxRecDepth 100000 in
set_option maxHeartbeats 2000000 in
theorem concS (a : Option Addr) (n c : Nat) (F : List (Nat × List Value)) (w : World) (h : RowsV 1 w a n F) (hl : sumN F ≤ 100000) :
    Calls Tryz.prog 25 #[.slice a n c] w (GivesV 9 1 w (sumN F) (flatV F)) := by
  obtain ⟨i0, hi, hz0, hz1, hz2⟩ := info_parts infoS
  have HL := Lib.hid h.len
  have hsm := h.small
  have HH := Lib.hid h
  have HLE := Lib.hid (fun k => sumN_take F k)
  have HFL := Lib.hid hl
  clear h
  go_enter Tryz.func25, Tryz.ntmps25
  go_wp2_with (fail)
  go_loop [3, 11] (fun s i => ∃ k : Nat, k ≤ n ∧ i = .int .i64 k ∧ s = .int .i64 (sumN (F.take k) : Nat)) (fun _ i => n - (intOf i).toNat)
  case atStart => exact ⟨0, by omega, rfl, rfl⟩
  case round =>
    obtain ⟨k, hk, rfl, rfl⟩ := hrel
    by_cases hlt : k < n
    · obtain ⟨x, b1, o1, a1, c1, hx, rfl, hcell1, hr1⟩ := RowsV.at HH.out hlt
      have HLEN := Lib.hid (sumN_snoc hx)
      have hle := HLE.out (k + 1)
      rw [sumN_snoc hx] at hle
      obtain ⟨n1, vs⟩ := x
      simp only at hle hcell1 HLEN
      generalize sumN (F.take k) = l at *
      clear hx hr1
      go_wp2_with (fail)
      go_round
      case rel => exact ⟨k + 1, by omega, by go_num, by rw [HLEN.out]; go_num⟩
      case measure => simp [intOf]; omega
    · obtain rfl : n = k := by omega
      have HT := Lib.hid (show F.take n = F from List.take_of_length_le (by rw [HL.out]; omega))
      have hG := growS (sumN F) w hl
      rw [HT.out] 
      generalize hlq : sumN F = lq at *
      have HLQ := Lib.hid hlq
      have HG := Lib.hid hG
      clear hG hlq
      go_wp2_with (fail)
      refine (HG.out).mono ?_
      rintro e w1 ⟨v, rfl, hown, hb⟩
      obtain ⟨a0, c0, rfl⟩ := owns_sliceM hown
      have HO := Lib.hid hown
      have HB := Lib.hid hb
      clear hown hb
      go_wp2_with (fail)
      go_loopw [6, 27] (fun v i wr => ∃ k : Nat, k ≤ n ∧ i = .int .i64 k ∧ wr.ownsRow w.heap.size 9 1 v (sumN (F.take k)) (flatV (F.take k)) ∧ Below w.heap.size w wr) (fun _ i _ => n - (intOf i).toNat)
      case atStart => exact ⟨0, by omega, rfl, HO.out, HB.out⟩
      case round =>
        clear HO HB
        obtain ⟨k, hk, rfl, ho, hb⟩ := hrel
        have HO := Lib.hid ho
        have HB := Lib.hid hb
        have hsz := hb.size
        clear ho
        by_cases hlt : k < n
        · obtain ⟨x, b1, o1, a1, c1, hx, rfl, hcell1, hr1⟩ := RowsV.at (HH.out.mono (Nat.le_refl _) hb) hlt
          obtain ⟨n1, vs⟩ := x
          have HS1 := Lib.hid (sumN_snoc hx)
          have HS2 := Lib.hid (flatV_snoc hx)
          have hle := HLE.out (k + 1)
          rw [sumN_snoc hx] at hle
          have HRD := Lib.hid hr1
          have HRL := Lib.hid hr1.len
          simp only at hle hcell1 HS1 HS2 HRL HRD
          have HLQ2 := Lib.hid (show sumN (F.take k) + n1 ≤ 100000 by have := HLQ.out; omega)
          generalize sumN (F.take k) = sk at *
          generalize flatV (F.take k) = fk at *
          clear hx hr1 hb hle
          cases a1 with
          | none =>
            obtain rfl : n1 = 0 := HRD.out.none rfl
            obtain rfl : vs = [] := List.eq_nil_of_length_eq_zero (by have := HRL.out; omega)
            go_wp2_with (at_builtin; refine wpList_append_zero rfl _ _ 22 rfl w.heap.size 9 i0 1 c1 Tryz.underlying22 hi _ _ _ rfl HO.out rfl ?_)
            go_roundw
            case rel => exact ⟨k + 1, by omega, by go_num, by rw [HS1.out, HS2.out, List.append_nil]; exact HO.out, HB.out⟩
            case measure => simp [intOf]; omega
          | some ad =>
            go_wp2_with (at_builtin; refine wpList_append_own _ rfl _ _ 22 rfl w.heap.size 9 i0 (.string { data := #[] }) 1 16 Tryz.underlying22 hi hz0 hz1 hz2 rfl (by decide) _ _ _ rfl HO.out ad n1 c1 vs rfl HRL.out (HRD.out.cells ad rfl) HRD.out.one (by have := HLQ2.out; unfold maxLen; omega) (by have := HLQ2.out; omega) (by omega) ?_; intro v1 w4 hown1 hgrow1 _; have HO2 := Lib.hid hown1; have HG2 := Lib.hid hgrow1; clear hown1 hgrow1)
            go_roundw
            case rel => exact ⟨k + 1, by omega, by go_num, by rw [HS1.out, HS2.out]; exact HO2.out, HB.out.grown HG2.out hsz (fun j hj => (HO.out.lt j hj).1)⟩
            case measure => simp [intOf]; omega
        · obtain rfl : n = k := by omega
          have ho := HO.out
          rw [HT.out, HLQ.out] at ho
          obtain ⟨a0, c0, rfl⟩ := owns_sliceM ho
          have HO3 := Lib.hid ho
          clear ho
          go_wp2_with (fail)
          go_ret
          exact ⟨_, rfl, HO3.out, HB.out⟩

theorem infoI : (Tryz.prog.info? 3).map (fun i => (i.zero, i.size, i.bytes)) = some (some (.int .i64 0), 1, 8) := by kernel_rfl
set_option maxHeartbeats 1000000 in
theorem growI (n : Nat) (w : World) (hn : n ≤ 100000) :
    Calls Tryz.prog 83 #[.slice none 0 0, .int .i64 n] w (GivesV 3 1 w 0 []) := by
  obtain ⟨i0, hi, hz0, hz1, hz2⟩ := info_parts infoI
  by_cases h0 : n = 0
  · subst h0
    go_enter Tryz.func83, Tryz.ntmps83
    go_wp2_with (fail)
    go_ret
    exact ⟨_, rfl, World.ownsRow_nil _ _ _ _, Below.refl _ _⟩
  · have hp : 0 < n := by omega
    have d1 : decide (0 < (n : Int)) = true := by simp; omega
    have d2 : decide (0 < n) = true := by simpa using hp
    have d3 : decide ((n : Int) < 0) = false := by simp
    have HO := Lib.hid (grown_zerosM (t := 3) (z := .int .i64 0) (m := 1) rfl w n (by unfold maxLen; omega))
    have hbw : Below w.heap.size w (w.drew.alloc (.cells (Builtin.zeroCells (.int .i64 0 : Value).cells n ++ Builtin.zeroCells (.int .i64 0 : Value).cells (grownCap w n 0 3 - n)) 3)) := bstep (Below.refl _ _).drew (balloc _ _)
    have HBW := Lib.hid hbw
    have hrun := Lib.run_append_nil_zeros (P := Tryz.prog) w 26 3 26 3 i0 (.int .i64 0) .i64 .i64 Tryz.underlying26 Tryz.underlying3 hi hz0 n hp (by omega) (by omega) (by rw [hz2]; omega)
    obtain ⟨cp, hcp⟩ : ∃ cp, grownCap w n 0 3 = cp := ⟨_, rfl⟩
    obtain ⟨W1, hW1⟩ : ∃ W1, w.drew.alloc (.cells (Builtin.zeroCells (.int .i64 0 : Value).cells n ++ Builtin.zeroCells (.int .i64 0 : Value).cells (grownCap w n 0 3 - n)) 3) = W1 := ⟨_, rfl⟩
    rw [hW1] at HO HBW
    rw [hW1] at hrun
    rw [hcp] at HO hrun
    have HR := Lib.hid hrun
    clear hbw hrun hW1 hcp h0
    go_enter Tryz.func83, Tryz.ntmps83
    go_wp2_with (at_builtin; refine Lib.wpList_append_run _ rfl _ _ 26 3 rfl _ _ rfl rfl _ _ HR.out ?_)
    go_ret
    exact ⟨_, rfl, HO.out, HBW.out⟩
set_option maxRecDepth 100000 in
set_option maxHeartbeats 2000000 in
theorem concI (a : Option Addr) (n c : Nat) (F : List (Nat × List Value)) (w : World) (h : RowsV 1 w a n F) (hl : sumN F ≤ 100000) :
    Calls Tryz.prog 26 #[.slice a n c] w (GivesV 3 1 w (sumN F) (flatV F)) := by
  obtain ⟨i0, hi, hz0, hz1, hz2⟩ := info_parts infoI
  have HL := Lib.hid h.len
  have hsm := h.small
  have HH := Lib.hid h
  have HLE := Lib.hid (fun k => sumN_take F k)
  have HFL := Lib.hid hl
  clear h
  go_enter Tryz.func26, Tryz.ntmps26
  go_wp2_with (fail)
  go_loop [3, 11] (fun s i => ∃ k : Nat, k ≤ n ∧ i = .int .i64 k ∧ s = .int .i64 (sumN (F.take k) : Nat)) (fun _ i => n - (intOf i).toNat)
  case atStart => exact ⟨0, by omega, rfl, rfl⟩
  case round =>
    obtain ⟨k, hk, rfl, rfl⟩ := hrel
    by_cases hlt : k < n
    · obtain ⟨x, b1, o1, a1, c1, hx, rfl, hcell1, hr1⟩ := RowsV.at HH.out hlt
      have HLEN := Lib.hid (sumN_snoc hx)
      have hle := HLE.out (k + 1)
      rw [sumN_snoc hx] at hle
      obtain ⟨n1, vs⟩ := x
      simp only at hle hcell1 HLEN
      generalize sumN (F.take k) = l at *
      clear hx hr1
      go_wp2_with (fail)
      go_round
      case rel => exact ⟨k + 1, by omega, by go_num, by rw [HLEN.out]; go_num⟩
      case measure => simp [intOf]; omega
    · obtain rfl : n = k := by omega
      have HT := Lib.hid (show F.take n = F from List.take_of_length_le (by rw [HL.out]; omega))
      have hG := growI (sumN F) w hl
      rw [HT.out] 
      generalize hlq : sumN F = lq at *
      have HLQ := Lib.hid hlq
      have HG := Lib.hid hG
      clear hG hlq
      go_wp2_with (fail)
      refine (HG.out).mono ?_
      rintro e w1 ⟨v, rfl, hown, hb⟩
      obtain ⟨a0, c0, rfl⟩ := owns_sliceM hown
      have HO := Lib.hid hown
      have HB := Lib.hid hb
      clear hown hb
      go_wp2_with (fail)
      go_loopw [6, 27] (fun v i wr => ∃ k : Nat, k ≤ n ∧ i = .int .i64 k ∧ wr.ownsRow w.heap.size 3 1 v (sumN (F.take k)) (flatV (F.take k)) ∧ Below w.heap.size w wr) (fun _ i _ => n - (intOf i).toNat)
      case atStart => exact ⟨0, by omega, rfl, HO.out, HB.out⟩
      case round =>
        clear HO HB
        obtain ⟨k, hk, rfl, ho, hb⟩ := hrel
        have HO := Lib.hid ho
        have HB := Lib.hid hb
        have hsz := hb.size
        clear ho
        by_cases hlt : k < n
        · obtain ⟨x, b1, o1, a1, c1, hx, rfl, hcell1, hr1⟩ := RowsV.at (HH.out.mono (Nat.le_refl _) hb) hlt
          obtain ⟨n1, vs⟩ := x
          have HS1 := Lib.hid (sumN_snoc hx)
          have HS2 := Lib.hid (flatV_snoc hx)
          have hle := HLE.out (k + 1)
          rw [sumN_snoc hx] at hle
          have HRD := Lib.hid hr1
          have HRL := Lib.hid hr1.len
          simp only at hle hcell1 HS1 HS2 HRL HRD
          have HLQ2 := Lib.hid (show sumN (F.take k) + n1 ≤ 100000 by have := HLQ.out; omega)
          generalize sumN (F.take k) = sk at *
          generalize flatV (F.take k) = fk at *
          clear hx hr1 hb hle
          cases a1 with
          | none =>
            obtain rfl : n1 = 0 := HRD.out.none rfl
            obtain rfl : vs = [] := List.eq_nil_of_length_eq_zero (by have := HRL.out; omega)
            go_wp2_with (at_builtin; refine wpList_append_zero rfl _ _ 26 rfl w.heap.size 3 i0 1 c1 Tryz.underlying26 hi _ _ _ rfl HO.out rfl ?_)
            go_roundw
            case rel => exact ⟨k + 1, by omega, by go_num, by rw [HS1.out, HS2.out, List.append_nil]; exact HO.out, HB.out⟩
            case measure => simp [intOf]; omega
          | some ad =>
            go_wp2_with (at_builtin; refine wpList_append_own _ rfl _ _ 26 rfl w.heap.size 3 i0 (.int .i64 0) 1 8 Tryz.underlying26 hi hz0 hz1 hz2 rfl (by decide) _ _ _ rfl HO.out ad n1 c1 vs rfl HRL.out (HRD.out.cells ad rfl) HRD.out.one (by have := HLQ2.out; unfold maxLen; omega) (by have := HLQ2.out; omega) (by omega) ?_; intro v1 w4 hown1 hgrow1 _; have HO2 := Lib.hid hown1; have HG2 := Lib.hid hgrow1; clear hown1 hgrow1)
            go_roundw
            case rel => exact ⟨k + 1, by omega, by go_num, by rw [HS1.out, HS2.out]; exact HO2.out, HB.out.grown HG2.out hsz (fun j hj => (HO.out.lt j hj).1)⟩
            case measure => simp [intOf]; omega
        · obtain rfl : n = k := by omega
          have ho := HO.out
          rw [HT.out, HLQ.out] at ho
          obtain ⟨a0, c0, rfl⟩ := owns_sliceM ho
          have HO3 := Lib.hid ho
          clear ho
          go_wp2_with (fail)
          go_ret
          exact ⟨_, rfl, HO3.out, HB.out⟩

theorem infoP : (Tryz.prog.info? 37).map (fun i => (i.zero, i.size, i.bytes)) = some (some (.agg #[.string { data := #[] }, .string { data := #[] }, .slice none 0 0]), 3, 56) := by kernel_rfl
set_option maxHeartbeats 1000000 in
theorem growP (n : Nat) (w : World) (hn : n ≤ 100000) :
    Calls Tryz.prog 139 #[.slice none 0 0, .int .i64 n] w (GivesV 37 3 w 0 []) := by
  obtain ⟨i0, hi, hz0, hz1, hz2⟩ := info_parts infoP
  by_cases h0 : n = 0
  · subst h0
    go_enter Tryz.func139, Tryz.ntmps139
    go_wp2_with (fail)
    go_ret
    exact ⟨_, rfl, World.ownsRow_nil _ _ _ _, Below.refl _ _⟩
  · have hp : 0 < n := by omega
    have d1 : decide (0 < (n : Int)) = true := by simp; omega
    have d2 : decide (0 < n) = true := by simpa using hp
    have d3 : decide ((n : Int) < 0) = false := by simp
    have HO := Lib.hid (grown_zerosM (t := 37) (z := .agg #[.string { data := #[] }, .string { data := #[] }, .slice none 0 0]) (m := 3) rfl w n (by unfold maxLen; omega))
    have hbw : Below w.heap.size w (w.drew.alloc (.cells (Builtin.zeroCells (.agg #[.string { data := #[] }, .string { data := #[] }, .slice none 0 0] : Value).cells n ++ Builtin.zeroCells (.agg #[.string { data := #[] }, .string { data := #[] }, .slice none 0 0] : Value).cells (grownCap w n 0 37 - n)) 37)) := bstep (Below.refl _ _).drew (balloc _ _)
    have HBW := Lib.hid hbw
    have hrun := Lib.run_append_nil_zeros (P := Tryz.prog) w 27 3 27 37 i0 (.agg #[.string { data := #[] }, .string { data := #[] }, .slice none 0 0]) .i64 .i64 Tryz.underlying27 Tryz.underlying3 hi hz0 n hp (by omega) (by omega) (by rw [hz2]; omega)
    obtain ⟨cp, hcp⟩ : ∃ cp, grownCap w n 0 37 = cp := ⟨_, rfl⟩
    obtain ⟨W1, hW1⟩ : ∃ W1, w.drew.alloc (.cells (Builtin.zeroCells (.agg #[.string { data := #[] }, .string { data := #[] }, .slice none 0 0] : Value).cells n ++ Builtin.zeroCells (.agg #[.string { data := #[] }, .string { data := #[] }, .slice none 0 0] : Value).cells (grownCap w n 0 37 - n)) 37) = W1 := ⟨_, rfl⟩
    rw [hW1] at HO HBW
    rw [hW1] at hrun
    rw [hcp] at HO hrun
    have HR := Lib.hid hrun
    clear hbw hrun hW1 hcp h0
    go_enter Tryz.func139, Tryz.ntmps139
    go_wp2_with (at_builtin; refine Lib.wpList_append_run _ rfl _ _ 27 3 rfl _ _ rfl rfl _ _ HR.out ?_)
    go_ret
    exact ⟨_, rfl, HO.out, HBW.out⟩
set_option maxRecDepth 100000 in
set_option maxHeartbeats 2000000 in
theorem concP (a : Option Addr) (n c : Nat) (F : List (Nat × List Value)) (w : World) (h : RowsV 3 w a n F) (hl : sumN F ≤ 100000) :
    Calls Tryz.prog 85 #[.slice a n c] w (GivesV 37 3 w (sumN F) (flatV F)) := by
  obtain ⟨i0, hi, hz0, hz1, hz2⟩ := info_parts infoP
  have HL := Lib.hid h.len
  have hsm := h.small
  have HH := Lib.hid h
  have HLE := Lib.hid (fun k => sumN_take F k)
  have HFL := Lib.hid hl
  clear h
  go_enter Tryz.func85, Tryz.ntmps85
  go_wp2_with (fail)
  go_loop [3, 11] (fun s i => ∃ k : Nat, k ≤ n ∧ i = .int .i64 k ∧ s = .int .i64 (sumN (F.take k) : Nat)) (fun _ i => n - (intOf i).toNat)
  case atStart => exact ⟨0, by omega, rfl, rfl⟩
  case round =>
    obtain ⟨k, hk, rfl, rfl⟩ := hrel
    by_cases hlt : k < n
    · obtain ⟨x, b1, o1, a1, c1, hx, rfl, hcell1, hr1⟩ := RowsV.at HH.out hlt
      have HLEN := Lib.hid (sumN_snoc hx)
      have hle := HLE.out (k + 1)
      rw [sumN_snoc hx] at hle
      obtain ⟨n1, vs⟩ := x
      simp only at hle hcell1 HLEN
      generalize sumN (F.take k) = l at *
      clear hx hr1
      go_wp2_with (fail)
      go_round
      case rel => exact ⟨k + 1, by omega, by go_num, by rw [HLEN.out]; go_num⟩
      case measure => simp [intOf]; omega
    · obtain rfl : n = k := by omega
      have HT := Lib.hid (show F.take n = F from List.take_of_length_le (by rw [HL.out]; omega))
      have hG := growP (sumN F) w hl
      rw [HT.out] 
      generalize hlq : sumN F = lq at *
      have HLQ := Lib.hid hlq
      have HG := Lib.hid hG
      clear hG hlq
      go_wp2_with (fail)
      refine (HG.out).mono ?_
      rintro e w1 ⟨v, rfl, hown, hb⟩
      obtain ⟨a0, c0, rfl⟩ := owns_sliceM hown
      have HO := Lib.hid hown
      have HB := Lib.hid hb
      clear hown hb
      go_wp2_with (fail)
      go_loopw [6, 27] (fun v i wr => ∃ k : Nat, k ≤ n ∧ i = .int .i64 k ∧ wr.ownsRow w.heap.size 37 3 v (sumN (F.take k)) (flatV (F.take k)) ∧ Below w.heap.size w wr) (fun _ i _ => n - (intOf i).toNat)
      case atStart => exact ⟨0, by omega, rfl, HO.out, HB.out⟩
      case round =>
        clear HO HB
        obtain ⟨k, hk, rfl, ho, hb⟩ := hrel
        have HO := Lib.hid ho
        have HB := Lib.hid hb
        have hsz := hb.size
        clear ho
        by_cases hlt : k < n
        · obtain ⟨x, b1, o1, a1, c1, hx, rfl, hcell1, hr1⟩ := RowsV.at (HH.out.mono (Nat.le_refl _) hb) hlt
          obtain ⟨n1, vs⟩ := x
          have HS1 := Lib.hid (sumN_snoc hx)
          have HS2 := Lib.hid (flatV_snoc hx)
          have hle := HLE.out (k + 1)
          rw [sumN_snoc hx] at hle
          have HRD := Lib.hid hr1
          have HRL := Lib.hid hr1.len
          simp only at hle hcell1 HS1 HS2 HRL HRD
          have HLQ2 := Lib.hid (show sumN (F.take k) + n1 ≤ 100000 by have := HLQ.out; omega)
          generalize sumN (F.take k) = sk at *
          generalize flatV (F.take k) = fk at *
          clear hx hr1 hb hle
          cases a1 with
          | none =>
            obtain rfl : n1 = 0 := HRD.out.none rfl
            obtain rfl : vs = [] := List.eq_nil_of_length_eq_zero (by have := HRL.out; omega)
            go_wp2_with (at_builtin; refine wpList_append_zero rfl _ _ 27 rfl w.heap.size 37 i0 3 c1 Tryz.underlying27 hi _ _ _ rfl HO.out rfl ?_)
            go_roundw
            case rel => exact ⟨k + 1, by omega, by go_num, by rw [HS1.out, HS2.out, List.append_nil]; exact HO.out, HB.out⟩
            case measure => simp [intOf]; omega
          | some ad =>
            go_wp2_with (at_builtin; refine wpList_append_own _ rfl _ _ 27 rfl w.heap.size 37 i0 (.agg #[.string { data := #[] }, .string { data := #[] }, .slice none 0 0]) 3 56 Tryz.underlying27 hi hz0 hz1 hz2 rfl (by decide) _ _ _ rfl HO.out ad n1 c1 vs rfl HRL.out (HRD.out.cells ad rfl) HRD.out.one (by have := HLQ2.out; unfold maxLen; omega) (by have := HLQ2.out; omega) (by omega) ?_; intro v1 w4 hown1 hgrow1 _; have HO2 := Lib.hid hown1; have HG2 := Lib.hid hgrow1; clear hown1 hgrow1)
            go_roundw
            case rel => exact ⟨k + 1, by omega, by go_num, by rw [HS1.out, HS2.out]; exact HO2.out, HB.out.grown HG2.out hsz (fun j hj => (HO.out.lt j hj).1)⟩
            case measure => simp [intOf]; omega
        · obtain rfl : n = k := by omega
          have ho := HO.out
          rw [HT.out, HLQ.out] at ho
          obtain ⟨a0, c0, rfl⟩ := owns_sliceM ho
          have HO3 := Lib.hid ho
          clear ho
          go_wp2_with (fail)
          go_ret
          exact ⟨_, rfl, HO3.out, HB.out⟩
end Go.Proofs.YtngdmpkoedpgdaaGreatDoor
