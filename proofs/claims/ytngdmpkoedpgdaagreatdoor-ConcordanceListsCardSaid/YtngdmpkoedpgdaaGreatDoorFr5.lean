/-
  The most frequent words (program).
-/
import Derived.Test.YtngdmpkoedpgdaaGreatDoorU2
import Derived.Test.YtngdmpkoedpgdaaGreatDoorOr
import Derived.Test.YtngdmpkoedpgdaaGreatDoorIp
import Derived.Test.YtngdmpkoedpgdaaGreatDoorHp
import Derived.Test.YtngdmpkoedpgdaaGreatDoorWo
namespace Go.Ap
open Go Go.RowKit
/-- the map of counts -/
def cntV (l : List Post) (s : Str) : Option Value := if s ∈ wordsF l then some (.int .i64 (cntW l s : Nat)) else none
theorem cntV_get (l : List Post) (s : Str) : (cntV l s).getD (.int .i64 0) = .int .i64 (cntW l s : Nat) := by
  unfold cntV
  by_cases h : s ∈ wordsF l
  · rw [if_pos h]; rfl
  · rw [if_neg h, cntW_none h]; rfl
theorem cntV_snoc (l : List Post) (p : Post) : cntV (l ++ [p]) = updV (cntV l) p.1.1 (.int .i64 ((cntW l p.1.1 : Int) + (p.2.length : Int))) := by
  funext s
  unfold updV cntV
  rw [wordsF_snoc, cntW_snoc]
  by_cases hs : s = p.1.1
  · subst hs
    have hm : p.1.1 ∈ (if p.1.1 ∈ wordsF l then wordsF l else wordsF l ++ [p.1.1]) := by
      split
      · assumption
      · exact List.mem_append.2 (.inr (List.mem_singleton.2 rfl))
    rw [if_pos hm, if_pos rfl, if_pos rfl, Int.natCast_add]
  · rw [show (if p.1.1 = s then p.2.length else 0) = 0 from if_neg (fun e => hs e.symm), Nat.add_zero, if_neg hs]
    have hm : s ∈ (if p.1.1 ∈ wordsF l then wordsF l else wordsF l ++ [p.1.1]) ↔ s ∈ wordsF l := by
      split
      · exact Iff.rfl
      · rw [List.mem_append, List.mem_singleton]
        exact ⟨fun h => h.resolve_right hs, .inl⟩
    by_cases h : s ∈ wordsF l
    · rw [if_pos h, if_pos (hm.2 h)]
    · rw [if_neg h, if_neg (fun e => h (hm.1 e))]
def freqC (l : List Post) (z : Int) : Int := if indexB l = false then 1 else if z < 0 ∨ 4096 < z then 2 else 0
def freqL (l : List Post) (z : Int) : List Str := (freqS l).take z.toNat
theorem IsFreq.of_sorted {l : List Post} {r : List Str} (hp : r.Perm (wordsF l)) (hs : r.Pairwise fun a b => ¬freqM (cntW l) b a < 0) : IsFreq l r := by
  have hc := cmp_freq (cntW l)
  have hn : r.Nodup := (hp.nodup_iff).2 (wordsF_nodup l)
  refine ⟨hp, List.Pairwise.imp ?_ (List.Pairwise.and hs hn)⟩
  rintro a b ⟨h1, h2⟩
  by_cases h0 : freqM (cntW l) b a = 0
  · exact absurd (hc.zero.1 h0).symm h2
  · exact hc.swap.2 (by omega)
end Go.Ap
namespace Go.Proofs.YtngdmpkoedpgdaaGreatDoor
open Go.RowKit Go.Ap Go.Shelf Go.Proofs Go.Maps

attribute [local go_sem] Oper.semAt_some bs_toList empty_toList bs_size bs_extract
theorem keyI_str {v : Value} {l : Lit} (h : keyOf Tryz.prog 9 v = some l) : ∃ s : Str, s.length ≤ maxLen ∧ v = .string (bs s) := by
  obtain ⟨s, rfl⟩ := Maps.keyOf_string_inv Tryz.underlying9 h
  refine ⟨s.data.toList, ?_, by rw [← bs_of]⟩
  simp [keyOf, mapKey, Tryz.underlying9] at h
  have := h.1
  simpa using this
def tSI : MapV Tryz.prog 45 9 3 Str where
  kv s := .string (bs s)
  fit s := s.length ≤ maxLen
  keyed := Maps.string_keyed Tryz.underlying9
  und := Tryz.underlying45
  key {s} h := ⟨_, WideMaps.keyOf_string_mk Tryz.underlying9 (by rw [bs_size]; exact h)⟩
  keyI h := keyI_str h
  kinj {s s'} h := bs_inj (Value.string.inj h)
  zero := .int .i64 0
  zeroV w := Tryz.zeroValue3 w
theorem lookSI {W : World} {bm m : Nat} {F : Str → Option Value} {f : Str → Nat} (hM : MapH tSI W bm m F) (hF : ∀ s, (F s).getD (.int .i64 0) = .int .i64 (f s : Nat)) {s : Str} (hs : s.length ≤ maxLen) :
    (Instr.lookup 45 (.map (some bm)) (.string (bs s)) false).run Tryz.prog W = .ok (.int .i64 (f s : Nat)) W := by
  have h := hM.look (s := s) hs
  rw [show tSI.zero = .int .i64 0 from rfl, hF] at h
  exact h
theorem cmpD_eq (x y : Nat) : Lib.compareInt (y : Int) (x : Int) = cmpD x y := by
  unfold Lib.compareInt cmpD
  by_cases h1 : y < x
  · rw [if_pos h1, if_pos (by omega)]
  · rw [if_neg h1, if_neg (by omega)]
    by_cases h2 : x < y
    · rw [if_pos h2, if_pos (by omega)]
    · rw [if_neg h2, if_neg (by omega)]
set_option maxRecDepth 100000 in
set_option maxHeartbeats 4000000 in
theorem freq77 (F : Str → Option Value) (f : Str → Nat) (a b : Str) (p bm m : Nat) (w : World) (ha : a.length ≤ 4611686018427387903) (hb : b.length ≤ 4611686018427387903) (hp : w.cell? ⟨p, 0, none⟩ = some (.map (some bm))) (hM : MapH tSI w bm m F) (hF : ∀ s, (F s).getD (.int .i64 0) = .int .i64 (f s : Nat)) :
    Calls Tryz.prog 77 #[.string (bs a), .string (bs b), .pointer (some ⟨p, 0, none⟩)] w fun e w' => e = .returned (.int .i64 (freqM f a b)) ∧ Lw w w' := by
  have la := lookSI hM hF (s := a) (by unfold maxLen; omega)
  have lb := lookSI hM hF (s := b) (by unfold maxLen; omega)
  have HC := Lib.hid (compareP a b w ha hb)
  have HD := Lib.hid (Tryz.cmp_Compare_int ((f b : Nat) : Int) ((f a : Nat) : Int) w)
  rw [cmpD_eq] at HD
  have HU := Lib.hid (show freqM f a b = if cmpD (f a) (f b) = 0 then dictM mkB a b else cmpD (f a) (f b) from rfl)
  obtain ⟨R, hR⟩ : ∃ R, freqM f a b = R := ⟨_, rfl⟩
  obtain ⟨r1, h1⟩ : ∃ r, cmpD (f a) (f b) = r := ⟨_, rfl⟩
  obtain ⟨r2, h2⟩ : ∃ r, dictM mkB a b = r := ⟨_, rfl⟩
  obtain ⟨na, hna⟩ : ∃ n, f a = n := ⟨_, rfl⟩
  obtain ⟨nb, hnb⟩ : ∃ n, f b = n := ⟨_, rfl⟩
  rw [hR, h1, h2] at HU
  rw [h1] at HD
  rw [h2] at HC
  rw [hna] at la HD
  rw [hnb] at lb HD
  rw [hR]
  clear hR h1 h2 hna hnb hM hF
  go_enter Tryz.func77, Tryz.ntmps77
  go_wp2_with (fail)
  refine HD.out.mono ?_
  rintro e W ⟨rfl, rfl⟩
  go_wp2_with (fail)
  refine HC.out.mono ?_
  rintro e W1 ⟨rfl, hl⟩
  have K := BlkK.new W1 #[.int .i64 r1, .int .i64 r2] 3
  have HL := Lib.hid (hl.alloc (.cells #[.int .i64 r1, .int .i64 r2] 3))
  have HO := Lib.hid (orC W1.heap.size r1 r2 R HU (W1.alloc (.cells #[.int .i64 r1, .int .i64 r2] 3)) (K.cell (i := 0) rfl) (K.cell (i := 1) rfl))
  clear K hl hp la lb
  go_wp2_with (fail)
  refine HO.out.mono ?_
  rintro e W2 ⟨rfl, rfl⟩
  go_wp2_with (fail)
  go_ret
  exact ⟨rfl, HL.out⟩
/-- a word, not too long -/
abbrev SWd := {s : Str // s.length ≤ 4611686018427387903}
instance : Inhabited SWd := ⟨⟨[], by simp⟩⟩
theorem swo_freq (f : Str → Nat) : Sort.SWO (ltOf fun p q : SWd => freqM f p.1 q.1) := by
  have hc := cmp_freq f
  have neg : ∀ {x y : Str}, ¬freqM f x y < 0 → x = y ∨ freqM f y x < 0 := fun {x y} h => by
    by_cases h0 : freqM f x y = 0
    · exact .inl (hc.zero.1 h0)
    · exact .inr (hc.swap.2 (by omega))
  have lt : ∀ (x y : SWd), (ltOf fun p q : SWd => freqM f p.1 q.1) x y = decide (freqM f x.1 y.1 < 0) := fun _ _ => rfl
  refine ⟨fun x => ?_, fun x y z h1 h2 => ?_, fun x y z h1 h2 => ?_⟩
  · rw [lt, decide_eq_false_iff_not, hc.self]
    omega
  · rw [lt, decide_eq_true_eq] at *
    exact hc.trans h1 h2
  · rw [lt, decide_eq_false_iff_not] at *
    intro h3
    rcases neg h1 with e1 | e1
    · rw [e1] at h3
      exact h2 h3
    · rcases neg h2 with e2 | e2
      · rw [← e2] at h3
        exact h1 h3
      · have h4 := hc.trans e2 e1
        exact hc.asym h3 h4
theorem cell_grow {w : World} {os : Array Obj} {a : Addr} (h : a.block < w.heap.size) : (Sort.grow w os).cell? a = w.cell? a := by
  simp only [World.cell?, Sort.grow]
  rw [Array.getElem?_append_left h]
theorem cell_lt {w : World} {a : Addr} {u : Value} (h : w.cell? a = some u) : a.block < w.heap.size := World.block_lt_of_cell? w a h
theorem cell_sorting {α : Type} [Inhabited α] (enc : α → Value) {w : World} {g m : Nat} {dk : Array α} {os : Array Obj} {a : Addr} {u : Value} (h : w.cell? a = some u) (hne : a.block ≠ g) : (sortWorld enc w g 0 m dk os).cell? a = some u := by
  unfold sortWorld
  rw [cell_grow (by
    have := cell_lt h
    show a.block < (Sort.putRow enc (Sort.ahead w m) g 0 dk).heap.size
    simpa [Sort.putRow, Sort.mapBlock, Sort.ahead] using this), Sort.cell?_putRow_other enc _ g 0 dk a (.inl hne)]
  exact h
theorem grown_sort1 {α : Type} [Inhabited α] (enc : α → Value) {w : World} {gb m : Nat} {d : Array α} {os : Array Obj} : w.grownBy (sortWorld enc w gb 0 m d os) (some gb) := by
  unfold sortWorld
  refine ⟨rfl, rfl, rfl, by simp [Sort.putRow, Sort.mapBlock, Sort.ahead, Sort.grow], fun k hk hne => ?_⟩
  rw [Sort.heap_grow_old _ _ (by simpa [Sort.putRow, Sort.mapBlock, Sort.ahead] using hk)]
  have : gb ≠ k := fun e => hne (by rw [e])
  simp [Sort.putRow, Sort.mapBlock, Sort.ahead, Array.getElem?_modify, this]
theorem sortWords (xs : List Str) (hx : ∀ s ∈ xs, s.length ≤ 4611686018427387903) (F : Str → Option Value) (f : Str → Nat) (g cap n p bm m base : Nat) (w : World) (hn : n ≤ 4611686018427387903) (hO : w.ownsRow base 9 1 (.slice (some ⟨g, 0, none⟩) n cap) n (xs.map sv))
    (hp : w.cell? ⟨p, 0, none⟩ = some (.map (some bm))) (hM : MapH tSI w bm m F) (hF : ∀ s, (F s).getD (.int .i64 0) = .int .i64 (f s : Nat)) (hpg : p ≠ g) (hbg : bm ≠ g) (hg : g < w.heap.size) :
    Calls Tryz.prog 76 #[.slice (some ⟨g, 0, none⟩) n cap, .func (.func 77) #[] #[.pointer (some ⟨p, 0, none⟩)]] w fun e w' => e = .returned (.tuple #[]) ∧ (∃ r : List Str, r.Perm xs ∧ r.Pairwise (fun a b => ¬freqM f b a < 0) ∧ StrsL w' (some ⟨g, 0, none⟩) n r) ∧ w.grownBy w' (some g) := by
  have hxl : xs.length = n := by have := hO.1; simpa using this
  obtain ⟨d, hd⟩ : ∃ d : Array SWd, d = (xs.pmap Subtype.mk hx).toArray := ⟨_, rfl⟩
  have hds : d.size = n := by rw [hd]; simp [hxl]
  have hdl : d.toList.map (·.1) = xs := by rw [hd]; simp [List.map_pmap]
  have hdi : ∀ j (hj : j < n), (d[j]!).1 = xs[j]'(by omega) := fun j hj => by
    rw [getElem!_pos d j (by omega)]
    have := congrArg (fun l => l[j]?) hdl
    simp only [List.getElem?_map, Array.getElem?_toList] at this
    rw [Array.getElem?_eq_getElem (by omega), List.getElem?_eq_getElem (by omega)] at this
    simpa using this
  have hH : Sort.Holds (fun s : SWd => sv s.1) w g 0 d := fun j hj => by
    rw [hds] at hj
    rw [Nat.zero_add]
    refine ⟨?_, hO.frozenAt j⟩
    rw [hO.cellAt j (by omega), List.getElem?_map, List.getElem?_eq_getElem (by omega)]
    show some (sv _) = some (sv (d[j]!).1)
    rw [hdi j hj]
  have H := Tryz.slices_SortFunc (fun s : SWd => sv s.1) (fun _ => rfl) (fun x y => freqM f x.1 y.1) (swo_freq f) 77 #[.pointer (some ⟨p, 0, none⟩)] g 0 cap d w (enters_of Tryz.func77 (by kernel_rfl) rfl)
    (fun m' os dk _ x y => (freq77 F f x.1 y.1 p bm m _ x.2 y.2 (cell_sorting _ hp hpg) (hM.kept (grown_sort1 _) (by simpa using hbg)) hF)) hH hg (by omega)
  rw [hds] at H
  refine H.mono ?_
  rintro e w' ⟨rfl, d', k, os, hperm, hsort, rfl⟩
  refine ⟨rfl, ⟨d'.toList.map (·.1), ?_, ?_, ?_⟩, grown_sort1 _⟩
  · obtain ⟨h1, _, h3⟩ := hperm
    rw [hds] at h1
    rw [Array.extract_eq_self_of_le (by rw [h1]; exact Nat.le_refl _), Array.extract_eq_self_of_le (by rw [hds]; exact Nat.le_refl _)] at h3
    have := h3.map (fun s : SWd => s.1)
    rw [hdl] at this
    exact this
  · obtain ⟨h1, _, _⟩ := hperm
    rw [hds] at h1
    rw [List.pairwise_map, List.pairwise_iff_getElem]
    intro i j hi hj hij
    have hi' : i < d'.size := by simpa using hi
    have hj' : j < d'.size := by simpa using hj
    have := hsort i j (Nat.zero_le _) hij (by omega)
    rw [getElem!_pos d' i hi', getElem!_pos d' j hj'] at this
    unfold ltOf at this
    rw [decide_eq_false_iff_not] at this
    simpa using this
  · obtain ⟨h1, _, _⟩ := hperm
    refine ⟨by simp [h1, hds], hn, fun i x hi => ⟨g, 0, sv x, rfl, ?_, rfl⟩⟩
    rw [List.getElem?_map, Array.getElem?_toList, Option.map_eq_some_iff] at hi
    obtain ⟨q, hq, rfl⟩ := hi
    obtain ⟨hil, hiq⟩ := Array.getElem?_eq_some_iff.1 hq
    have hcl := (holds_sortWorld (fun s : SWd => sv s.1) w g 0 k d d' os hg hH h1 i hil).1
    rw [getElem!_pos d' i hil, hiq] at hcl
    exact hcl
/-- what Frequent answers -/
def FreqA (e : Ending) (w w' : World) (c : Int) (r : List Str) : Prop := ∃ u, e = .returned (.tuple #[u, .int .i64 c]) ∧ (c = 0 → ∃ a k, u = .slice a r.length k ∧ StrsL w' a r.length r) ∧ (c ≠ 0 → u = .slice none 0 0) ∧ Below w.heap.size w w'
theorem FreqA.bad {w w' : World} {c : Int} {r : List Str} (h : c ≠ 0) (hb : Below w.heap.size w w') : FreqA (.returned (.tuple #[.slice none 0 0, .int .i64 c])) w w' c r :=
  ⟨_, rfl, fun e => absurd e h, fun _ => rfl, hb⟩
theorem infoStr5 : (Tryz.prog.info? 9).map (fun i => (i.zero, i.size, i.bytes)) = some (some (.string { data := #[] }), 1, 16) := by kernel_rfl
set_option maxRecDepth 100000 in
set_option maxHeartbeats 8000000 in
theorem frequentOk (l : List Post) (z : Int) (a : Option Addr) (n c : Nat) (w : World) (h : Posts w a n l) (hn : n ≤ 12) (hv : indexB l = true) (hz0 : 0 ≤ z) (hz1 : z ≤ 4096) :
    Calls Tryz.prog 22 #[.slice a n c, .int .i64 z] w fun e w' => FreqA e w w' 0 (freqL l z) := by
  obtain ⟨i0, hi, hy0, hy1, hy2⟩ := info_parts infoStr5
  have HI := Lib.hid (indexP l a n c w h)
  rw [hv] at HI
  have HX := Lib.hid h
  have HLN := Lib.hid h.len
  have hsm := h.small
  have HN := Lib.hid hn
  have HVAL := Lib.hid (indexB_valid hv).2
  have d1 : decide (z < 0) = false := decide_eq_false (by omega)
  have d2 : decide ((4096 : Int) < z) = false := decide_eq_false (by omega)
  have HZ := Lib.hid (show 0 ≤ z ∧ z ≤ 4096 from ⟨hz0, hz1⟩)
  have HCB := Lib.hid (show ∀ i s, cntW (l.take i) s ≤ 100000 from fun i s => by
    have e1 := cntW_le (l.take i) s
    have e2 : countL l ≤ 4096 * l.length := by
      unfold countL
      have : ∀ m : List Post, (∀ p ∈ m, validB p = true) → (m.map fun p => p.2.length).sum ≤ 4096 * m.length := fun m => by
        induction m with
        | nil => intro _; simp
        | cons p r ih =>
          intro hm
          have h1 := (validB_parts (hm p (List.mem_cons_self ..))).2.2.1
          have h2 := ih fun q hq => hm q (List.mem_cons_of_mem _ hq)
          simp only [List.map_cons, List.sum_cons, List.length_cons]
          omega
      exact this l HVAL.out
    have e3 : countL (l.take i) ≤ countL l := by
      have : countL l = countL (l.take i) + countL (l.drop i) := by
        unfold countL
        rw [← List.sum_append, ← List.map_append, List.take_append_drop]
      omega
    have := h.len
    omega)
  obtain ⟨base, hbase⟩ : ∃ b, w.heap.size = b := ⟨_, rfl⟩
  have HBS := Lib.hid hbase
  clear h hv hz0 hz1
  go_enter Tryz.func22, Tryz.ntmps22
  go_wp2_with (fail)
  refine HI.out.mono ?_
  rintro e W ⟨rfl, hb⟩
  have HB0 := Lib.hid (show Below base w W by rw [← hbase]; exact hb)
  have hszW : base ≤ W.heap.size := by have := hb.size; omega
  obtain ⟨bm, hbm⟩ : ∃ b, W.heap.size = b := ⟨_, rfl⟩
  have HBM := Lib.hid hbm
  have hM0 : MapH tSI (W.alloc (.map #[] 0)) bm 0 (cntV (l.take 0)) := by
    rw [← hbm]
    exact (MapH.made W).ext fun s => by simp [cntV, wordsF]
  have hB1 := HB0.out.alloc hszW (.map #[] 0)
  obtain ⟨Wm, hWm⟩ : ∃ V, W.alloc (.map #[] 0) = V := ⟨_, rfl⟩
  rw [hWm] at hM0 hB1
  have hszm : base ≤ Wm.heap.size := by have := hB1.size; omega
  obtain ⟨P, hP⟩ : ∃ b, Wm.heap.size = b := ⟨_, rfl⟩
  have HB1 := Lib.hid (hB1.alloc hszm (.cells #[.map (some bm)] 45))
  have HM0 := Lib.hid (hM0.below (balloc Wm (.cells #[.map (some bm)] 45)))
  have HKP := Lib.hid (show BlkK (Wm.alloc (.cells #[.map (some bm)] 45)) P #[.map (some bm)] 45 by rw [← hP]; exact BlkK.new _ _ _)
  have HPB := Lib.hid (show P ≠ bm by have := hM0.lt; omega)
  have HSW := Lib.hid (show base ≤ bm by omega)
  have hmm : ∀ (ty : TypeId), (Instr.makeMap ty none).run Tryz.prog W = .ok (.map (some bm)) Wm := fun ty => by rw [run_makeMap, hWm, hbm]
  clear hb hbm hszW hM0 hB1 hszm HI
  go_wp2_with (fail)
  go_loopw [7, 24] (fun ov iv wr => ∃ i : Nat, i ≤ n ∧ iv = .int .i64 i ∧ OwnS wr base ov (wordsF (l.take i)) ∧ MapH tSI wr bm i (cntV (l.take i)) ∧ Below base w wr ∧ BlkK wr P #[.map (some bm)] 45) (fun _ iv _ => n - (intOf iv).toNat)
  case atStart => exact ⟨0, Nat.zero_le _, rfl, OwnS.nil _ _, HM0.out, HB1.out, HKP.out⟩
  case round =>
    obtain ⟨wi, rfl⟩ : ∃ wi : World, wi = wr := ⟨_, rfl⟩
    obtain ⟨i, hile, rfl, ho, hM, hb, hK⟩ := hrel
    have HO := Lib.hid ho
    have HM := Lib.hid hM
    have HB := Lib.hid hb
    have HK := Lib.hid hK
    have HSZ := Lib.hid (show base ≤ wi.heap.size by have := hb.size; have := HBS.out; omega)
    by_cases hin : i < n
    · obtain ⟨p, b, off, hp, rfl, a3, k3, c0, c1, c2, hps⟩ := (HX.out.mono (Nat.le_of_eq HBS.out) hb).at hin
      have hval := HVAL.out p (List.mem_of_getElem? hp)
      obtain ⟨v1, _, v3, _⟩ := validB_parts hval
      have hwl := isWordB_64 v1
      have hpos : 0 < p.2.length := by
        rcases Nat.eq_zero_or_pos p.2.length with e | e
        · rw [validB_0 e] at hval; cases hval
        · exact e
      have HTS := Lib.hid (take_snoc hp)
      have hcz : p.1.1 ∉ wordsF (l.take i) → cntW (l.take i) p.1.1 = 0 := cntW_none
      have hcp : p.1.1 ∈ wordsF (l.take i) → 0 < cntW (l.take i) p.1.1 := (cntW_pos fun q hq => by
        have := HVAL.out q (List.mem_of_mem_take hq)
        intro e
        rw [validB_0 (by rw [e]; rfl)] at this
        cases this).2
      have hsn := wordsF_snoc (l.take i) p
      have hcs := cntV_snoc (l.take i) p
      have hcb := HCB.out i p.1.1
      obtain ⟨⟨wd, sc⟩, ls⟩ := p
      simp only at c0 c1 c2 hwl hpos hcz hcp hsn hcs hcb v3
      rw [← HTS.out] at hsn hcs
      obtain ⟨k, hk⟩ : ∃ k, ls.length = k := ⟨_, rfl⟩
      obtain ⟨cn, hcn⟩ : ∃ k, cntW (l.take i) wd = k := ⟨_, rfl⟩
      rw [hk] at c2 hpos hcs v3
      rw [hcn] at hcz hcp hcs hcb
      have HV3 := Lib.hid v3
      have HWL := Lib.hid (show wd.length ≤ maxLen by unfold maxLen; omega)
      have HSN := Lib.hid hsn
      have HCS := Lib.hid hcs
      have HLOOK := Lib.hid (show ∀ W, MapH tSI W bm i (cntV (l.take i)) → (Instr.lookup 45 (.map (some bm)) (.string (bs wd)) false).run Tryz.prog W = .ok (.int .i64 (cn : Nat)) W from fun W hm => by
        rw [← hcn]
        exact lookSI hm (cntV_get (l.take i)) HWL.out)
      have i1 : (i : Int) < (n : Int) := by omega
      have hw1 : IntKind.i64.wrap ((cn : Int) + (k : Int)) = (cn : Int) + (k : Int) := IntWalk.i64_in _ (by omega)
      obtain ⟨X1, hX1⟩ : ∃ X, wi.heap.size = X := ⟨_, rfl⟩
      have hA1 := balloc wi (.cells #[.string (bs wd), .string (bs sc), .slice a3 k k3] 37)
      have K1 := BlkK.new wi #[.string (bs wd), .string (bs sc), .slice a3 k k3] 37
      have hBA1 := hb.alloc HSZ.out (.cells #[.string (bs wd), .string (bs sc), .slice a3 k k3] 37)
      have hSA1 : base ≤ (wi.alloc (.cells #[.string (bs wd), .string (bs sc), .slice a3 k k3] 37)).heap.size := by have := HSZ.out; simp; omega
      obtain ⟨W1, hW1⟩ : ∃ W, wi.alloc (.cells #[.string (bs wd), .string (bs sc), .slice a3 k k3] 37) = W := ⟨_, rfl⟩
      rw [hX1] at K1
      rw [hW1] at hA1 K1 hBA1 hSA1
      have HM1 := Lib.hid (hM.below hA1)
      have HO1 := Lib.hid (ho.below hA1)
      have HK1 := Lib.hid (hK.below hA1)
      have HX1 := Lib.hid K1
      have HB1' := Lib.hid hBA1
      have HS1 := Lib.hid hSA1
      have f0 := K1.cell (i := 0) (u := .string (bs wd)) rfl
      have f2 := K1.cell (i := 2) (u := .slice a3 k k3) rfl
      have g0 := HK1.out.cell (i := 0) (u := .map (some bm)) rfl
      have hl1 := HLOOK.out W1 HM1.out
      have hnl : (wordsF (l.take i)).length ≤ 12 := by
        have e1 := wordsF_len (l.take i)
        have := HN.out
        rw [List.length_take] at e1
        omega
      have HNL := Lib.hid hnl
      clear hp hps hval v1 v3 hwl ho hM hb hK hsn hcs hk hcn hcb hA1 K1 hBA1 hSA1 hnl
      by_cases hmem : wd ∈ wordsF (l.take i)
      · have hcp := hcp hmem
        have q1 : ((cn : Int) == 0) = false := by rw [beq_eq_false_iff_ne]; omega
        rw [if_pos hmem] at HSN
        obtain ⟨w4, hup, hM4, hg4⟩ := HM1.out.store (s := wd) (by unfold maxLen; omega) HWL.out (.int .i64 ((cn : Int) + (k : Int)))
        replace hup : (Instr.mapUpdate 45 (.map (some bm)) (.string (bs wd)) (.int .i64 ((cn : Int) + (k : Int)))).run Tryz.prog W1 = .ok () w4 := hup
        obtain ⟨o1, ho1, hoc1⟩ := HM1.out.obj
        have HM4 := Lib.hid (show MapH tSI w4 bm (i + 1) (cntV (l.take (i + 1))) by rw [HCS.out]; exact hM4)
        have HO4 := Lib.hid (show OwnS w4 base _ (wordsF (l.take (i + 1))) by rw [HSN.out]; exact HO1.out.kept hg4 (own_not HO1.out ho1 hoc1))
        have HB4 := Lib.hid (HB1'.out.grown hg4 HS1.out fun j hj => by cases hj; exact HSW.out)
        have HK4 := Lib.hid (HK1.out.keptE hg4 (by have := HPB.out; simp; omega))
        clear hmem hcz hcp hM4 hg4 ho1 hoc1
        go_wp2_with (fail)
        go_roundw
        case rel => exact ⟨i + 1, by omega, by simp, HO4.out, HM4.out, HB4.out, HK4.out⟩
        case measure => simp [intOf]; omega
      · obtain rfl : cn = 0 := hcz hmem
        have hwk : wrap64 (k : Int) = (k : Int) := IntWalk.wrap64_in _ (by have := HV3.out; omega)
        rw [if_neg hmem] at HSN
        have HNW := Lib.hid (show ∀ (j : Nat) (u : Value), [.string (bs wd)][j]? = some u → (W1.alloc (.cells #[.string (bs wd)] 9)).cell? ((⟨W1.heap.size, 0, none⟩ : Addr).add j) = some u from World.news_of_block (cs := #[.string (bs wd)]) (heap_fresh rfl))
        clear hmem hcz hcp hw1
        go_wp2_with (at_builtin; refine wpList_append_own _ rfl _ _ 22 rfl base 9 i0 (.string { data := #[] }) 1 16 Tryz.underlying22 hi hy0 hy1 hy2 rfl (by decide) _ _ _ rfl (World.ownsRow.alloc HO1.out _) ⟨W1.heap.size, 0, none⟩ 1 1 [.string (bs wd)] rfl rfl HNW.out (by simp [Value.oneCell']) (by have := HNL.out; unfold maxLen; omega) (by have := HNL.out; omega) (by have := HS1.out; simp; omega) ?_)
        intro v' w9 hown' hgr' _
        have hA2 := balloc W1 (.cells #[.string (bs wd)] 9)
        have HO9 := Lib.hid (show OwnS w9 base v' (wordsF (l.take (i + 1))) by rw [HSN.out]; exact (HO1.out.pushed HS1.out hown' hgr').1)
        have HB9 := Lib.hid ((HB1'.out.alloc HS1.out (.cells #[.string (bs wd)] 9)).grown hgr' (by have := HS1.out; simp; omega) (fun j hj => (World.ownsRow.lt HO1.out j hj).1))
        have HS9 := Lib.hid (show base ≤ w9.heap.size by have := HB9.out.size; have := HBS.out; omega)
        have hMA := HM1.out.below hA2
        obtain ⟨o1, ho1, hoc1⟩ := HM1.out.obj
        have HM9 := Lib.hid (hMA.kept hgr' (by
          rcases own_not HO1.out ho1 hoc1 with e | e
          · rw [e]; simp
          · exact fun h => e h.symm))
        have HK9 := Lib.hid ((HK1.out.below hA2).keptE hgr' (HK1.out.apart HO1.out (by decide)))
        have HX9 := Lib.hid ((HX1.out.below hA2).keptE hgr' (HX1.out.apart HO1.out (by decide)))
        have f0' := HX9.out.cell (i := 0) (u := .string (bs wd)) rfl
        have f2' := HX9.out.cell (i := 2) (u := .slice a3 k k3) rfl
        have g0' := HK9.out.cell (i := 0) (u := .map (some bm)) rfl
        have hl9 := HLOOK.out w9 HM9.out
        obtain ⟨w4, hup, hM4, hg4⟩ := HM9.out.store (s := wd) (by unfold maxLen; omega) HWL.out (.int .i64 (k : Int))
        replace hup : (Instr.mapUpdate 45 (.map (some bm)) (.string (bs wd)) (.int .i64 (k : Int))).run Tryz.prog w9 = .ok () w4 := hup
        obtain ⟨o2, ho2, hoc2⟩ := HM9.out.obj
        have HM4 := Lib.hid (show MapH tSI w4 bm (i + 1) (cntV (l.take (i + 1))) by rw [HCS.out, Int.natCast_zero, Int.zero_add]; exact hM4)
        have HO4 := Lib.hid (show OwnS w4 base v' (wordsF (l.take (i + 1))) from HO9.out.kept hg4 (own_not HO9.out ho2 hoc2))
        have HB4 := Lib.hid (HB9.out.grown hg4 HS9.out fun j hj => by cases hj; exact HSW.out)
        have HK4 := Lib.hid (HK9.out.keptE hg4 (by have := HPB.out; simp; omega))
        clear hown' hgr' hA2 hMA ho1 hoc1 hM4 hg4 ho2 hoc2
        go_wp2_with (fail)
        go_roundw
        case rel => exact ⟨i + 1, by omega, by simp, HO4.out, HM4.out, HB4.out, HK4.out⟩
        case measure => simp [intOf]; omega
    · obtain rfl : n = i := by omega
      have HT := Lib.hid (show l.take n = l from List.take_of_length_le (Nat.le_of_eq HLN.out))
      rw [HT.out] at ho hM
      obtain ⟨xs, hxs⟩ : ∃ xs, wordsF l = xs := ⟨_, rfl⟩
      rw [hxs] at ho
      have HXS := Lib.hid hxs
      have HXL := Lib.hid (show ∀ s ∈ xs, s.length ≤ 4611686018427387903 from fun s hs => by
        rw [← hxs] at hs
        obtain ⟨p, hp, rfl⟩ := wordsF_mem.1 hs
        have := isWordB_64 (validB_parts (HVAL.out p hp)).1
        omega)
      have HFL := Lib.hid (show (freqS l).length = xs.length by rw [freqS_len, hxs])
      have HKM := Lib.hid hM
      have hown := ho
      obtain ⟨m, hm⟩ : ∃ m, xs.length = m := ⟨_, rfl⟩
      have HML := Lib.hid hm
      obtain ⟨j, hj⟩ : ∃ j, min z.toNat m = j := ⟨_, rfl⟩
      have hmin : ∀ (ts : Array TypeId) (t : TypeId) (W : World), (Builtin.min_ ts t #[.int .i64 z, .int .i64 (m : Int)]).run Tryz.prog W = .ok (.int .i64 (j : Int)) W := fun ts t W => by
        have := HZ.out
        simp [Builtin.min_, Builtin.min2]
        split <;> omega
      have HFR := Lib.hid (show freqL l z = (freqS l).take j by
        unfold freqL
        rw [← hj]
        by_cases h : z.toNat ≤ m
        · rw [Nat.min_eq_left h]
        · rw [Nat.min_eq_right (by omega), List.take_of_length_le (by rw [HFL.out]; omega), List.take_of_length_le (by rw [HFL.out]; omega)])
      have hjm : j ≤ m := by omega
      have hmb : m ≤ 12 := by
        have e1 := wordsF_len l
        have e2 := HLN.out
        have e3 := HN.out
        rw [hxs] at e1
        omega
      unfold OwnS at hown
      rw [hm] at hown
      rcases hown.2 with ⟨rfl, h0⟩ | ⟨g, cap, cur, rfl, hg, hgb, hcap, _⟩
      · obtain rfl : m = 0 := h0
        obtain rfl : j = 0 := by omega
        have hmin0 : ∀ (ts : Array TypeId) (t : TypeId) (W : World), (Builtin.min_ ts t #[.int .i64 z, .int .i64 0]).run Tryz.prog W = .ok (.int .i64 0) W := hmin
        clear hmin
        have HS := Lib.hid (Tryz.slices_SortFunc_none (α := SWd) none 0 (.func (.func 77) #[] #[.pointer (some ⟨P, 0, none⟩)]) wi)
        clear ho hM hK hown hb hxs hm hj
        go_wp2_with (fail)
        refine HS.out.mono ?_
        rintro e w2 ⟨rfl, rfl⟩
        go_wp2_with (fail)
        go_ret2
        refine ⟨_, rfl, fun _ => ⟨none, 0, ?_, ?_⟩, fun h => absurd rfl h, by rw [HBS.out]; exact HB.out⟩
        · rw [HFR.out]; rfl
        · rw [HFR.out]; exact Sl.nil _ _
      · have HGP := Lib.hid (show P ≠ g from fun e => by
          subst e
          rw [show wi.heap[P]? = _ from HK.out] at hgb
          simp at hgb)
        have HGM := Lib.hid (show bm ≠ g from fun e => by
          subst e
          obtain ⟨o, ho, hc⟩ := HKM.out.obj
          rw [ho] at hgb
          cases hgb
          cases hc)
        have HS := Lib.hid (sortWords xs HXL.out (cntV l) (cntW l) g cap m P bm n base wi (by omega) hown (HK.out.cell (i := 0) rfl) HKM.out (cntV_get l) HGP.out HGM.out (by have := (Array.getElem?_eq_some_iff.1 hgb).1; exact this))
        have s1 : (j : Int) ≤ (cap : Int) := by omega
        have s0 : (0 : Int) ≤ (j : Int) := by omega
        have s2 : j ≤ cap := by omega
        clear ho hM hK hown hb hxs hm hj hgb
        go_wp2_with (fail)
        refine HS.out.mono ?_
        rintro e w2 ⟨rfl, ⟨r, hr1, hr2, hr3⟩, hg2⟩
        have hrr : r = freqS l := IsFreq.unique (l := l) (IsFreq.of_sorted (by rw [HXS.out]; exact hr1) (hr2.imp fun {a b} h => by omega)) (freq_is l)
        subst hrr
        have HR := Lib.hid hr3
        have HB2 := Lib.hid (HB.out.grown hg2 HSZ.out fun j hj => by cases hj; exact hg)
        clear hr1 hr2 hr3 hg2
        go_wp2_with (fail)
        go_ret2
        refine ⟨_, rfl, fun _ => ⟨some ⟨g, 0, none⟩, cap, ?_, ?_⟩, fun h => absurd rfl h, by rw [HBS.out]; exact HB2.out⟩
        · rw [HFR.out, List.length_take, HFL.out, HML.out, Nat.min_eq_left hjm]
          rfl
        · rw [HFR.out, List.length_take, HFL.out, HML.out, Nat.min_eq_left hjm]
          refine ⟨by rw [List.length_take, HFL.out, HML.out, Nat.min_eq_left hjm], by omega, fun q x hq => ?_⟩
          rw [List.getElem?_take] at hq
          split at hq
          · exact HR.out.cells q x hq
          · cases hq
theorem frequentP (l : List Post) (z : Int) (a : Option Addr) (n c : Nat) (w : World) (h : Posts w a n l) (hn : n ≤ 12) :
    Calls Tryz.prog 22 #[.slice a n c, .int .i64 z] w fun e w' => FreqA e w w' (freqC l z) (freqL l z) := by
  have HI := Lib.hid (indexP l a n c w h)
  unfold freqC
  cases hv : indexB l
  · rw [hv] at HI
    rw [if_pos rfl]
    clear h hv
    go_enter Tryz.func22, Tryz.ntmps22
    go_wp2_with (fail)
    refine HI.out.mono ?_
    rintro e W ⟨rfl, hb⟩
    go_wp2_with (fail)
    go_ret2
    exact FreqA.bad (by decide) hb
  · rw [if_neg (by simp)]
    rw [hv] at HI
    by_cases hz : z < 0 ∨ 4096 < z
    · rw [if_pos hz]
      clear h hv
      by_cases h0 : z < 0
      · have d1 : decide (z < 0) = true := decide_eq_true h0
        clear hz h0
        go_enter Tryz.func22, Tryz.ntmps22
        go_wp2_with (fail)
        refine HI.out.mono ?_
        rintro e W ⟨rfl, hb⟩
        go_wp2_with (fail)
        go_ret2
        exact FreqA.bad (by decide) hb
      · have d1 : decide (z < 0) = false := decide_eq_false h0
        have d2 : decide ((4096 : Int) < z) = true := decide_eq_true (hz.resolve_left h0)
        clear hz h0
        go_enter Tryz.func22, Tryz.ntmps22
        go_wp2_with (fail)
        refine HI.out.mono ?_
        rintro e W ⟨rfl, hb⟩
        go_wp2_with (fail)
        go_ret2
        exact FreqA.bad (by decide) hb
    · rw [if_neg hz]
      exact frequentOk l z a n c w h hn hv (by omega) (by omega)
end Go.Proofs.YtngdmpkoedpgdaaGreatDoor
