import Derived.Test.YtngdmpkoedpgdaaGreatDoorOi
import Derived.Test.YtngdmpkoedpgdaaGreatDoorRows
import Derived.Shelf.Strings.BuilderK
import Derived.Test.YtngdmpkoedpgdaaGreatDoorQ4
import Derived.Test.YtngdmpkoedpgdaaGreatDoorShelf

/-
  strings.Builder: WriteByte and WriteString.
-/



namespace Go.Proofs.YtngdmpkoedpgdaaGreatDoor
open Go.RowKit Go.Ap Go.Shelf Go.Proofs

theorem sizeBld : (Tryz.prog.info? 112).map (·.size) = some 2 := by kernel_rfl
theorem liesBld : liesAt Tryz.prog Tryz.prog.depth 112 (2 / Tryz.prog.cellsOf 112) 0 112 1 = true := by kernel_rfl
theorem infoByte : (Tryz.prog.info? 5).map (fun i => (i.zero, i.size, i.bytes)) = some (some (.int .u8 0), 1, 1) := by kernel_rfl
set_option maxHeartbeats 1000000 in
set_option maxRecDepth 100000 in
theorem ccUsed (b : Nat) (w : World) (h0 : w.cell? ⟨b, 0, none⟩ = some (.pointer (some ⟨b, 0, none⟩))) :
    Calls Tryz.prog 140 #[.pointer (some ⟨b, 0, none⟩)] w fun e w' => e = .returned (.tuple #[]) ∧ w' = w := by
  obtain ⟨j, hj, _⟩ := Option.map_eq_some_iff.1 sizeBld
  go_enter Tryz.func140, Tryz.ntmps140
  go_wp2
  rw [Lib.run_neq_ptr_same w _ Tryz.underlying110 hj]
  go_wp2
  go_end0
  exact ⟨rfl, rfl⟩
set_option maxHeartbeats 1000000 in
set_option maxRecDepth 100000 in
theorem ccFresh (b : Nat) (w : World) (h0 : w.cell? ⟨b, 0, none⟩ = some (.pointer none)) (hsh : w.shape? b = some (112, 2)) (hfz : w.frozen? ⟨b, 0, none⟩ = false) :
    Calls Tryz.prog 140 #[.pointer (some ⟨b, 0, none⟩)] w fun e w' => e = .returned (.tuple #[]) ∧ w' = w.setCell ⟨b, 0, none⟩ (.pointer (some ⟨b, 0, none⟩)) := by
  obtain ⟨j, hj, hjs⟩ := Option.map_eq_some_iff.1 sizeBld
  go_enter Tryz.func140, Tryz.ntmps140
  go_wp2
  rw [Lib.run_to_unsafe w ⟨b, 0, none⟩ Tryz.underlying110 Tryz.underlying195 hj (by rw [hjs]; decide) hsh (Nat.zero_lt_succ 1)]
  simp only [Result.andThen]
  rw [Oper.upon_value]
  go_wp2
  rw [run_callFunc_extern Tryz.func181 (by kernel_rfl) (by kernel_rfl) (by kernel_rfl) (e := Extern.AbiNoEscape.same) (by kernel_rfl)]
  rw [Lib.run_noEscape]
  simp only [Result.andThen]
  rw [Oper.upon_value]
  go_wp2
  rw [Lib.run_from_unsafe w ⟨b, 0, none⟩ Tryz.underlying195 Tryz.underlying110 hj hsh liesBld]
  simp only [Result.andThen]
  rw [Oper.upon_value]
  go_wp2
  go_end0
  exact ⟨rfl, rfl⟩
theorem ccK (B b : Nat) (bs : List Value) (w : World) (h : Lib.IsBuilderF 112 5 B b bs w) :
    Calls Tryz.prog 140 #[.pointer (some ⟨b, 0, none⟩)] w fun e w' => e = .returned (.tuple #[]) ∧ (Lib.BuilderAtF 112 5 B b (.pointer (some ⟨b, 0, none⟩)) bs w' ∧ Below B w w' ∧ Lib.OthersKept 5 (some b) w w') := by
  rcases h with h | h
  · refine (ccFresh b w h.cell0 h.shape h.frozen0).mono ?_
    rintro e w' ⟨rfl, rfl⟩
    exact ⟨rfl, h.used _, (Below.refl B w).setCell (p := ⟨b, 0, none⟩) h.1 _, (Lib.OthersKept.refl _ _ w).setCell ⟨b, 0, none⟩ rfl _⟩
  · refine (ccUsed b w h.cell0).mono ?_
    rintro e w' ⟨rfl, rfl⟩
    exact ⟨rfl, h, Below.refl B _, Lib.OthersKept.refl _ _ _⟩
set_option maxHeartbeats 2000000 in
set_option maxRecDepth 100000 in
theorem writeByteK (B b : Nat) (bs : List Value) (c : Int) (w : World) (h : Lib.IsBuilderF 112 5 B b bs w) (hlen : bs.length + 1 ≤ 140737488355328) (hBw : B ≤ w.heap.size) :
    Calls Tryz.prog 90 #[.pointer (some ⟨b, 0, none⟩), .int .u8 c] w fun e w' => e = .returned .nilIface ∧ (Lib.BuilderAtF 112 5 B b (.pointer (some ⟨b, 0, none⟩)) (bs ++ [.int .u8 c]) w' ∧ Below B w w' ∧ Lib.OthersKept 5 (some b) w w') := by
  obtain ⟨i0, hi, hz0, hz1, hz2⟩ := info_parts infoByte
  have HC := Lib.hid (ccK B b bs w h)
  go_enter Tryz.func90, Tryz.ntmps90
  go_wp2_with (fail)
  refine HC.out.mono ?_
  rintro e w1 ⟨rfl, h1, hb1, hk1⟩
  obtain ⟨hB, v, hbk, hown, hne⟩ := h1
  have c0 : w1.cell? ⟨b, 0, none⟩ = some (.pointer (some ⟨b, 0, none⟩)) := by rw [Lib.cell_of_heap hbk]; rfl
  have c1 : w1.cell? ⟨b, 1, none⟩ = some v := by rw [Lib.cell_of_heap hbk]; rfl
  go_wp2_with (at_builtin; refine wpList_append_ownF _ rfl _ _ 23 rfl B 5 i0 (.int .u8 0) 1 1 Tryz.underlying23 hi hz0 hz1 hz2 rfl (by decide) _ _ _ rfl (hown.alloc _) ⟨w1.heap.size, 0, none⟩ 1 1 [.int .u8 c] rfl rfl ?c1 ?c2 ?c3 ?c4 ?c5 ?_)
  case c1 =>
    intro j u hj
    match j, hj with
    | 0, hj => simp at hj; subst hj; simp [Addr.add]
  case c2 => intro u hu; simp at hu; subst hu; rfl
  case c3 => unfold maxLen; omega
  case c4 => omega
  case c5 => have := hb1.size; simp; omega
  intro v' w2 hown' hgrow _
  have hlt : b < w1.heap.size := by
    rcases Nat.lt_or_ge b w1.heap.size with h' | h'
    · exact h'
    · simp [Array.getElem?_eq_none h'] at hbk
  have hb2 : w2.heap[b]? = some (.cells #[.pointer (some ⟨b, 0, none⟩), v] 112 (0, 0)) := by
    rw [hgrow.block b (by simp; omega) (fun e => hne e.symm), Lib.alloc_old w1 _ b hlt]
    exact hbk
  have d0 : w2.cell? ⟨b, 0, none⟩ = some (.pointer (some ⟨b, 0, none⟩)) := by rw [Lib.cell_of_heap hb2]; rfl
  have d1 : w2.cell? ⟨b, 1, none⟩ = some v := by rw [Lib.cell_of_heap hb2]; rfl
  have f1 : w2.frozen? ⟨b, 1, none⟩ = false := Lib.frozen_of_heap hb2 1
  obtain ⟨g, cap, rfl⟩ : ∃ g cap, v' = .slice (some ⟨g, 0, none⟩) (bs.length + 1) cap := by
    rcases hown'.2 with ⟨_, h0⟩ | ⟨g, cap, cur, fz, hv, _⟩
    · omega
    · exact ⟨g, cap, hv⟩
  go_wp2
  go_ret
  refine ⟨rfl, ?_, ?_, ((hk1.alloc _).grown hgrow (Lib.ownsRowF_kind (hown.alloc _))).setCell ⟨b, 1, none⟩ rfl _⟩
  · exact Lib.BuilderAtF.put (T := 112) (e := 5) hB hb2 (bs' := bs ++ [.int .u8 c]) (by simpa using hown') (by decide)
  · exact ((hb1.alloc (by have := hb1.size; omega) _).grown hgrow (by have := hb1.size; simp; omega) (fun k hk => (hown.lt k hk).1)).setCell (p := ⟨b, 1, none⟩) hB _
set_option maxHeartbeats 2000000 in
set_option maxRecDepth 100000 in
theorem writeStringK (B b : Nat) (bs : List Value) (s : ByteArray) (w : World) (h : Lib.IsBuilderF 112 5 B b bs w) (hlen : bs.length + s.size ≤ 140737488355328) (hBw : B ≤ w.heap.size) :
    Calls Tryz.prog 88 #[.pointer (some ⟨b, 0, none⟩), .string s] w fun e w' => e = .returned (.tuple #[.int .i64 s.size, .nilIface]) ∧ (Lib.BuilderAtF 112 5 B b (.pointer (some ⟨b, 0, none⟩)) (bs ++ Lib.strCells s) w' ∧ Below B w w' ∧ Lib.OthersKept 5 (some b) w w') := by
  obtain ⟨i0, hi, hz0, hz1, hz2⟩ := info_parts infoByte
  have HC := Lib.hid (ccK B b bs w h)
  go_enter Tryz.func88, Tryz.ntmps88
  go_wp2_with (fail)
  refine HC.out.mono ?_
  rintro e w1 ⟨rfl, h1, hb1, hk1⟩
  obtain ⟨hB, v, hbk, hown, hne⟩ := h1
  have c0 : w1.cell? ⟨b, 0, none⟩ = some (.pointer (some ⟨b, 0, none⟩)) := by rw [Lib.cell_of_heap hbk]; rfl
  have c1 : w1.cell? ⟨b, 1, none⟩ = some v := by rw [Lib.cell_of_heap hbk]; rfl
  go_wp2_with (at_builtin; refine Lib.wpList_append_own_stringF _ rfl _ _ 23 9 rfl B 5 i0 Tryz.underlying23 Tryz.underlying9 hi hz0 hz1 hz2 _ _ _ rfl hown s rfl ?c3 ?c4 ?c5 ?_)
  case c3 => unfold maxLen; omega
  case c4 => omega
  case c5 => have := hb1.size; omega
  intro v' w2 hown' hgrow _
  have hlt : b < w1.heap.size := by
    rcases Nat.lt_or_ge b w1.heap.size with h' | h'
    · exact h'
    · simp [Array.getElem?_eq_none h'] at hbk
  have hb2 : w2.heap[b]? = some (.cells #[.pointer (some ⟨b, 0, none⟩), v] 112 (0, 0)) := by
    rw [hgrow.block b hlt (fun e => hne e.symm)]
    exact hbk
  have d0 : w2.cell? ⟨b, 0, none⟩ = some (.pointer (some ⟨b, 0, none⟩)) := by rw [Lib.cell_of_heap hb2]; rfl
  have d1 : w2.cell? ⟨b, 1, none⟩ = some v := by rw [Lib.cell_of_heap hb2]; rfl
  have f1 : w2.frozen? ⟨b, 1, none⟩ = false := Lib.frozen_of_heap hb2 1
  obtain ⟨ao, n', cap, rfl⟩ : ∃ ao n' cap, v' = .slice ao n' cap := by
    rcases hown'.2 with ⟨hv, _⟩ | ⟨g, cap, cur, fz, hv, _⟩
    · exact ⟨_, _, _, hv⟩
    · exact ⟨_, _, _, hv⟩
  go_wp2
  go_ret2
  refine ⟨rfl, ?_, ?_, (hk1.grown hgrow (Lib.ownsRowF_kind hown)).setCell ⟨b, 1, none⟩ rfl _⟩
  · exact Lib.BuilderAtF.put (T := 112) (e := 5) hB hb2 (bs' := bs ++ Lib.strCells s) (by simpa [Lib.strCells_length] using hown') (by decide)
  · exact (hb1.grown hgrow (by have := hb1.size; omega) (fun k hk => (hown.lt k hk).1)).setCell (p := ⟨b, 1, none⟩) hB _
end Go.Proofs.YtngdmpkoedpgdaaGreatDoor

/-
  The text of an index; Print (program).
-/



namespace Go.Ap
open Go Go.RowKit
theorem textS_snoc {l : List Post} {i : Nat} {p : Post} (h : l[i]? = some p) : textS (l.take (i + 1)) = textS (l.take i) ++ postT p := by
  unfold textS
  rw [take_snoc h, List.flatMap_append]
  simp
theorem textS_take {l : List Post} {i : Nat} {p : Post} (h : l[i]? = some p) : (textS (l.take i)).length + (postT p).length ≤ (textS l).length := by
  rw [← List.length_append, ← textS_snoc h]
  conv => rhs; rw [← List.take_append_drop (i + 1) l]
  unfold textS
  rw [List.flatMap_append, List.length_append]
  exact Nat.le_add_right _ _
theorem lines_snoc {l : List Int} {j : Nat} {n : Int} (h : l[j]? = some n) : (l.take (j + 1)).flatMap lineT = (l.take j).flatMap lineT ++ lineT n := by
  rw [take_snoc h, List.flatMap_append]
  simp
theorem lines_take {l : List Int} {j : Nat} {n : Int} (h : l[j]? = some n) : ((l.take j).flatMap lineT).length + (lineT n).length ≤ (l.flatMap lineT).length := by
  rw [← List.length_append, ← lines_snoc h]
  conv => rhs; rw [← List.take_append_drop (j + 1) l]
  rw [List.flatMap_append, List.length_append]
  exact Nat.le_add_right _ _
theorem strCells_bs (l : Str) : Lib.strCells (bs l) = Lib.byteCells l := rfl
theorem byteCells_len (l : Str) : (Lib.byteCells l).length = l.length := Lib.byteCells_length l
/-- a builder: blocks behind the heap change nothing -/
theorem bld_below {T e : TypeId} {B b : Nat} {bs : List Value} {w w' : World} (h : Lib.IsBuilderF T e B b bs w) (hb : Below w.heap.size w w') : Lib.IsBuilderF T e B b bs w' := by
  have hg : w.grownBy w' none := ⟨hb.os, hb.tape, hb.output, hb.size, fun k hk _ => hb.block k hk⟩
  have key : ∀ p, Lib.BuilderAtF T e B b p bs w → Lib.BuilderAtF T e B b p bs w' := fun p hp => by
    have hlt := hp.lt
    obtain ⟨hB, v, hbk, hown, hne⟩ := hp
    exact ⟨hB, v, (hb.block b hlt).trans hbk, hown.kept hg (by cases hv : v.ownBlock <;> simp), hne⟩
  exact h.elim (fun x => .inl (key _ x)) (fun x => .inr (key _ x))
theorem bld_lt {T e : TypeId} {B b : Nat} {bs : List Value} {w : World} (h : Lib.IsBuilderF T e B b bs w) : b < w.heap.size := h.elim (fun x => x.lt) (fun x => x.lt)
theorem oth_blk {e t : TypeId} {b X : Nat} {cs : Array Value} {w w' : World} (h : Lib.OthersKept e (some b) w w') (hK : BlkK w X cs t) (hne : some X ≠ some b) (hte : t ≠ e) : BlkK w' X cs t := by
  exact h X _ hK hne (fun c fz he => hte (by cases he; rfl))
theorem lit32 : ({ data := #[32] } : ByteArray) = bs [32] := rfl
end Go.Ap
namespace Go.Proofs.YtngdmpkoedpgdaaGreatDoor
open Go.RowKit Go.Ap Go.Shelf Go.Proofs Go.Sort

attribute [local go_sem] Oper.semAt_some bs_toList empty_toList bs_size bs_extract lit32 bs_append
/-- the table of powers of ten -/
def ET (w : World) : Prop := Lib.TabIs Tryz.prog w "internal/strconv.uint64pow10" .u64 Lib.pow10Tab
theorem ET.mono {w w' : World} {B : Nat} (h : ET w) (hB : w.heap.size ≤ B) (hb : Below B w w') : ET w' := var_below hB hb h
theorem itoa163 (n : Int) (hn : I64 n) (w : World) (ht : ET w) : Calls Tryz.prog 163 #[.int .i64 n] w fun e w' => e = .returned (.string (bs (Lib.itoa n))) ∧ Below w.heap.size w w' := by
  refine (Tryz.strconv_Itoa n hn.1 (by have := hn.2; omega) w ht).mono ?_
  rintro e w' ⟨rfl, k, os, rfl⟩
  exact ⟨rfl, Lw.below ⟨k, os, rfl⟩⟩
abbrev Bld (B b : Nat) (s : Str) (w : World) : Prop := Lib.IsBuilderF 112 5 B b (Lib.byteCells s) w
theorem putS (B b : Nat) (s x : Str) (w : World) (h : Bld B b s w) (hl : s.length + x.length ≤ 140737488355328) (hB : B ≤ w.heap.size) :
    Calls Tryz.prog 88 #[.pointer (some ⟨b, 0, none⟩), .string (bs x)] w fun e w' => (∃ u, e = .returned u) ∧ Bld B b (s ++ x) w' ∧ Below B w w' ∧ Lib.OthersKept 5 (some b) w w' := by
  refine (writeStringK B b _ (bs x) w h (by rw [byteCells_len, bs_size]; exact hl) hB).mono ?_
  rintro e w' ⟨rfl, h1, h2, h3⟩
  rw [strCells_bs, ← Lib.byteCells_append] at h1
  exact ⟨⟨_, rfl⟩, .inr h1, h2, h3⟩
theorem putC (B b : Nat) (s : Str) (c : UInt8) (w : World) (h : Bld B b s w) (hl : s.length + 1 ≤ 140737488355328) (hB : B ≤ w.heap.size) :
    Calls Tryz.prog 90 #[.pointer (some ⟨b, 0, none⟩), .int .u8 (c.toNat : Int)] w fun e w' => (∃ u, e = .returned u) ∧ Bld B b (s ++ [c]) w' ∧ Below B w w' ∧ Lib.OthersKept 5 (some b) w w' := by
  refine (writeByteK B b _ (c.toNat : Int) w h (by rw [byteCells_len]; exact hl) hB).mono ?_
  rintro e w' ⟨rfl, h1, h2, h3⟩
  have e1 : Lib.byteCells s ++ [Value.int .u8 (c.toNat : Int)] = Lib.byteCells (s ++ [c]) := by rw [Lib.byteCells_append]; rfl
  rw [e1] at h1
  exact ⟨⟨_, rfl⟩, .inr h1, h2, h3⟩
set_option maxRecDepth 100000 in
set_option maxHeartbeats 8000000 in
theorem textP (l : List Post) (a : Option Addr) (n c : Nat) (w : World) (h : Posts w a n l) (ht : ET w) (hl : (textS l).length ≤ 409600000) :
    Calls Tryz.prog 109 #[.slice a n c] w fun e w' => e = .returned (.string (bs (textS l))) ∧ Below w.heap.size w w' := by
  have HX := Lib.hid h
  have HT := Lib.hid ht
  have hlen := h.len
  have hsm := h.small
  obtain ⟨B, hB⟩ : ∃ B, w.heap.size = B := ⟨_, rfl⟩
  have HBE := Lib.hid hB
  have HLN := Lib.hid hl
  have HK0 := Lib.hid (show Bld B B [] (w.alloc (.cells #[.pointer none, .slice none 0 0] 112)) from .inl ⟨Nat.le_refl _, .slice none 0 0, by rw [← hB]; exact heap_fresh rfl, World.ownsRowF_of (World.ownsRow_nil _ _ _ _), by simp [Value.ownBlock]⟩)
  have HB0 := Lib.hid (show Below B w (w.alloc (.cells #[.pointer none, .slice none 0 0] 112)) by rw [← hB]; exact balloc w _)
  have HLL := Lib.hid hlen
  rw [hB]
  clear h ht hl hB hlen
  go_enter Tryz.func109, Tryz.ntmps109
  go_wp2_with (fail)
  rw [HBE.out]
  go_loopw [10] (fun iv wr => ∃ i : Nat, i ≤ n ∧ iv = .int .i64 i ∧ Bld B B (textS (l.take i)) wr ∧ Below B w wr) (fun iv _ => n - (intOf iv).toNat)
  case atStart => exact ⟨0, Nat.zero_le _, rfl, HK0.out, HB0.out⟩
  case round =>
    obtain ⟨wi, rfl⟩ : ∃ wi : World, wi = wr := ⟨_, rfl⟩
    obtain ⟨i, hi, rfl, hbd, hb⟩ := hrel
    have HB := Lib.hid hb
    have HBD := Lib.hid hbd
    have hsz : B ≤ wi.heap.size := by have := hb.size; have := HBE.out; omega
    have HSZ := Lib.hid hsz
    by_cases hin : i < n
    · obtain ⟨p, bb, off, hp, rfl, a1, k1, c0, c1, c2, hps⟩ := HX.out.at hin
      obtain ⟨⟨wd, sc⟩, ls⟩ := p
      have HTK := Lib.hid (textS_take hp)
      have HSN := Lib.hid (textS_snoc hp)
      obtain ⟨q1, q2, hli⟩ := hps
      simp only at c0 c1 c2 q1 q2 hli
      replace c0 := Go.Ap.cell_kept (Nat.le_of_eq HBE.out) hb c0
      replace c1 := Go.Ap.cell_kept (Nat.le_of_eq HBE.out) hb c1
      replace c2 := Go.Ap.cell_kept (Nat.le_of_eq HBE.out) hb c2
      have HLI := Lib.hid hli
      have HPT := Lib.hid (show postT ((wd, sc), ls) = wd ++ (32 :: sc) ++ ls.flatMap lineT ++ [10] from rfl)
      have hpl : (postT ((wd, sc), ls)).length = wd.length + (sc.length + 1) + (ls.flatMap lineT).length + 1 := by rw [HPT.out]; simp only [List.length_append, List.length_cons, List.length_nil]
      have g1 : ¬9223372036854775807 < wd.length + 1 := by omega
      have g2 : ¬9223372036854775807 < wd.length + (0 + 1) := by omega
      obtain ⟨m, hm⟩ : ∃ m, ls.length = m := ⟨_, rfl⟩
      rw [hm] at c2 HLI
      have hT := HTK.out
      have hL := HLN.out
      have g3 : ¬9223372036854775807 < wd.length + 1 + sc.length := by omega
      have g4 : ¬9223372036854775807 < wd.length + (0 + 1) + sc.length := by omega
      have HHM := Lib.hid hm
      have HPL := Lib.hid hpl
      obtain ⟨X, hX⟩ : ∃ X, wi.heap.size = X := ⟨_, rfl⟩
      have hXB : some X ≠ some B := by have := bld_lt hbd; intro e; cases e; omega
      obtain ⟨W1, hW1⟩ : ∃ W, wi.alloc (.cells #[.string (bs wd), .string (bs sc), .slice a1 m k1] 37) = W := ⟨_, rfl⟩
      have hb1 : Below wi.heap.size wi W1 := by rw [← hW1]; exact balloc _ _
      have HK := Lib.hid (show BlkK W1 X #[.string (bs wd), .string (bs sc), .slice a1 m k1] 37 by rw [← hW1, ← hX]; exact BlkK.new _ _ _)
      have HBD1 := Lib.hid (bld_below hbd hb1)
      have HB1 := Lib.hid (hb.trans (hb1.mono hsz))
      have HS1 := Lib.hid (show B ≤ W1.heap.size by have := hb1.size; omega)
      have hwl : (textS (l.take i)).length + (wd ++ 32 :: sc).length ≤ 140737488355328 := by
        rw [List.length_append, List.length_cons]
        omega
      have HPS := Lib.hid (putS B B (textS (l.take i)) (wd ++ 32 :: sc) W1 HBD1.out hwl HS1.out)
      have i1 : (i : Int) < (n : Int) := by omega
      have hc0 := HK.out.cell (i := 0) (u := .string (bs wd)) rfl
      have hc1 := HK.out.cell (i := 1) (u := .string (bs sc)) rfl
      clear hp hm hpl hT hL hbd hb hsz hb1 hli hwl
      go_wp2_with (fail)
      refine HPS.out.mono ?_
      rintro e W2 ⟨⟨u2, rfl⟩, h2, hb2, ho2⟩
      have HB2 := Lib.hid (HB1.out.trans hb2)
      have HD2 := Lib.hid h2
      have HX2 := Lib.hid (show BlkK W2 X #[.string (bs wd), .string (bs sc), .slice a1 m k1] 37 from oth_blk ho2 HK.out hXB (by decide))
      have hc2 := HX2.out.cell (i := 2) (u := .slice a1 m k1) rfl
      have hlm := HLI.out.small
      clear hc0 hc1 h2 hb2 ho2
      go_wp2_with (fail)
      go_loopw [24] (fun jv wr => ∃ j : Nat, j ≤ m ∧ jv = .int .i64 j ∧ Bld B B (textS (l.take i) ++ (wd ++ 32 :: sc) ++ (ls.take j).flatMap lineT) wr ∧ Below B w wr) (fun jv _ => m - (intOf jv).toNat)
      case atStart => exact ⟨0, Nat.zero_le _, rfl, by simpa using HD2.out, HB2.out⟩
      case round =>
        obtain ⟨wj, rfl⟩ : ∃ wj : World, wj = wr := ⟨_, rfl⟩
        obtain ⟨j, hj, rfl, hbd, hb⟩ := hrel
        have HB3 := Lib.hid hb
        have HBD3 := Lib.hid hbd
        have hsz : B ≤ wj.heap.size := by have := hb.size; have := HBE.out; omega
        have HSZ3 := Lib.hid hsz
        by_cases hjm : j < m
        · obtain ⟨x, b2, off2, v2, hx, rfl, hcx, rfl, hix⟩ := Sl.at HLI.out hjm
          replace hcx := Go.Ap.cell_kept (Nat.le_of_eq HBE.out) hb hcx
          have HLT := Lib.hid (lines_take hx)
          have HLS := Lib.hid (lines_snoc hx)
          have hL1 : (lineT x).length = (Lib.itoa x).length + 1 := rfl
          have HLE := Lib.hid (show lineT x = 32 :: Lib.itoa x from rfl)
          have HIT := Lib.hid (itoa163 x hix wj (HT.out.mono (Nat.le_of_eq HBE.out) hb))
          have h10 := HLT.out
          have h11 := HTK.out
          have h12 := HLN.out
          have h13 := HPL.out
          obtain ⟨t, ht⟩ : ∃ t, Lib.itoa x = t := ⟨_, rfl⟩
          rw [ht] at HIT HLE hL1
          have g5 : ¬9223372036854775807 < 1 + t.length := by omega
          have g6 : ¬9223372036854775807 < 0 + 1 + t.length := by omega
          have hwl : (textS (l.take i) ++ (wd ++ 32 :: sc) ++ (ls.take j).flatMap lineT).length + (32 :: t).length ≤ 140737488355328 := by
            rw [List.length_append, List.length_append, List.length_append, List.length_cons, List.length_cons]
            omega
          have HWL := Lib.hid hwl
          have i2 : (j : Int) < (m : Int) := by omega
          clear hx hL1 h10 h11 h12 h13 ht hwl hbd hb hsz hix
          go_wp2_with (fail)
          refine HIT.out.mono ?_
          rintro e W4 ⟨rfl, hb4⟩
          have HPS2 := Lib.hid (putS B B _ (32 :: t) W4 (bld_below HBD3.out hb4) HWL.out (by have := hb4.size; have := HSZ3.out; omega))
          have HB4 := Lib.hid (HB3.out.trans (hb4.mono HSZ3.out))
          clear hb4
          go_wp2_with (fail)
          refine HPS2.out.mono ?_
          rintro e W5 ⟨⟨u5, rfl⟩, h5, hb5, _⟩
          have HB5 := Lib.hid (HB4.out.trans hb5)
          have HD5 := Lib.hid (show Bld B B (textS (l.take i) ++ (wd ++ 32 :: sc) ++ (ls.take (j + 1)).flatMap lineT) W5 by
            rw [HLS.out, ← List.append_assoc, HLE.out]
            exact h5)
          clear h5 hb5
          go_wp2_with (fail)
          exact ⟨⟨j + 1, by omega, by simp, HD5.out, HB5.out⟩, by simp [intOf]; omega⟩
        · obtain rfl : m = j := by omega
          have hD : Bld B B (textS (l.take i) ++ (wd ++ 32 :: sc) ++ ls.flatMap lineT) wj := by
            have := HBD3.out
            rw [List.take_of_length_le (Nat.le_of_eq HHM.out)] at this
            exact this
          have h11 := HTK.out
          have h12 := HLN.out
          have h13 := HPL.out
          have hwl : (textS (l.take i) ++ (wd ++ 32 :: sc) ++ ls.flatMap lineT).length + 1 ≤ 140737488355328 := by
            rw [List.length_append, List.length_append, List.length_append, List.length_cons]
            omega
          have HPC := Lib.hid (show Calls Tryz.prog 90 #[.pointer (some ⟨B, 0, none⟩), .int .u8 10] wj _ from putC B B _ 10 wj hD hwl hsz)
          clear hD h11 h12 h13 hwl hbd hb hsz
          go_wp2_with (fail)
          refine HPC.out.mono ?_
          rintro e W5 ⟨⟨u5, rfl⟩, h5, hb5, _⟩
          have HB5 := Lib.hid (HB3.out.trans hb5)
          have HD5 := Lib.hid (show Bld B B (textS (l.take (i + 1))) W5 by
            rw [HSN.out, HPT.out]
            simpa only [List.append_assoc, List.cons_append, List.nil_append] using h5)
          clear h5 hb5
          go_wp2_with (fail)
          go_roundw
          case rel => exact ⟨i + 1, by omega, by simp, HD5.out, HB5.out⟩
          case measure => simp [intOf]; omega
    · obtain rfl : n = i := by omega
      have HS := Lib.hid (Tryz.Builder_String_any_f B B (textS l) wi (by have := HBD.out; rw [List.take_of_length_le (Nat.le_of_eq HLL.out)] at this; exact this) hsz)
      clear hbd hb hsz
      go_wp2_with (fail)
      refine HS.out.mono ?_
      rintro e W2 ⟨rfl, _, hb2⟩
      have HB2 := Lib.hid (HB.out.trans hb2)
      clear hb2
      go_wp2_with (fail)
      go_ret
      exact ⟨rfl, HB2.out⟩
def printC (l : List Post) : Int := if indexB l = false then 1 else if 65536 < (textS l).length then 4 else 0
def printS (l : List Post) : Str := if printC l = 0 then textS l else []
theorem printP (l : List Post) (a : Option Addr) (n c : Nat) (w : World) (h : Posts w a n l) (ht : ET w) :
    Calls Tryz.prog 48 #[.slice a n c] w fun e w' => e = .returned (.tuple #[.string (bs (printS l)), .int .i64 (printC l)]) ∧ Below w.heap.size w w' := by
  have HI := Lib.hid (indexP l a n c w h)
  unfold printS
  obtain ⟨C, hC⟩ : ∃ C, printC l = C := ⟨_, rfl⟩
  have HC := Lib.hid hC
  rw [hC]
  unfold printC at hC
  cases hx : indexB l
  · rw [hx] at HI
    rw [hx, if_pos rfl] at hC
    subst hC
    clear hx
    go_enter Tryz.func48, Tryz.ntmps48
    go_wp2_with (fail)
    refine HI.out.mono ?_
    rintro e W ⟨rfl, hb⟩
    go_wp2_with (fail)
    go_ret2
    exact ⟨rfl, hb⟩
  · rw [hx] at HI
    rw [hx, if_neg (by simp)] at hC
    have HT := Lib.hid (fun W (hb : Below w.heap.size w W) => textP l a n c W (h.mono (Nat.le_refl _) hb) (ht.mono (Nat.le_refl _) hb) (textS_len hx))
    clear hx h ht
    by_cases hl : 65536 < (textS l).length
    · rw [if_pos hl] at hC
      subst hC
      obtain ⟨t, htt⟩ : ∃ t, textS l = t := ⟨_, rfl⟩
      rw [htt] at HT hl ⊢
      have d1 : decide ((65536 : Int) < (t.length : Int)) = true := by rw [decide_eq_true_eq]; omega
      clear htt
      go_enter Tryz.func48, Tryz.ntmps48
      go_wp2_with (fail)
      refine HI.out.mono ?_
      rintro e W ⟨rfl, hb⟩
      have HB := Lib.hid hb
      clear hb
      go_wp2_with (fail)
      refine (HT.out W HB.out).mono ?_
      rintro e W2 ⟨rfl, hb2⟩
      have HB2 := Lib.hid (bstep HB.out hb2)
      clear hb2
      go_wp2_with (fail)
      go_ret2
      exact ⟨rfl, HB2.out⟩
    · rw [if_neg hl] at hC
      subst hC
      obtain ⟨t, htt⟩ : ∃ t, textS l = t := ⟨_, rfl⟩
      rw [htt] at HT hl ⊢
      have d1 : decide ((65536 : Int) < (t.length : Int)) = false := by rw [decide_eq_false_iff_not]; omega
      clear htt
      go_enter Tryz.func48, Tryz.ntmps48
      go_wp2_with (fail)
      refine HI.out.mono ?_
      rintro e W ⟨rfl, hb⟩
      have HB := Lib.hid hb
      clear hb
      go_wp2_with (fail)
      refine (HT.out W HB.out).mono ?_
      rintro e W2 ⟨rfl, hb2⟩
      have HB2 := Lib.hid (bstep HB.out hb2)
      clear hb2
      go_wp2_with (fail)
      go_ret2
      exact ⟨rfl, HB2.out⟩
end Go.Proofs.YtngdmpkoedpgdaaGreatDoor
