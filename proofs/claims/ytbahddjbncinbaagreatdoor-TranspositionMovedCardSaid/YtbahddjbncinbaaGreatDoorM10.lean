/-
  TranspositionMoved: the law.
-/
import Derived.Test.YtbahddjbncinbaaGreatDoorIv
import Derived.Test.YtbahddjbncinbaaGreatDoorDv
import Derived.Test.YtbahddjbncinbaaGreatDoorAk
import Derived.Laws.IdiomStrings
namespace Go.Ap
open Go Go.RowKit
/-- the words of one letter -/
def letT (i : Nat) : Tok := wTok [UInt8.ofNat (97 + i)]
def srcT (n : Nat) : List Tok := (List.range n).map letT
theorem srcT_len (n : Nat) : (srcT n).length = n := by simp [srcT]
theorem srcT_succ (n : Nat) : srcT (n + 1) = srcT n ++ [letT n] := by simp [srcT, List.range_succ]
theorem srcT_at {n i : Nat} (h : i < n) : (srcT n)[i]? = some (letT i) := by simp [srcT, h]
theorem letT_keys (i : Nat) : keyT (letT i) = some [UInt8.ofNat (97 + i)] := rfl
theorem srcT_keys (n : Nat) : keysT (srcT n) = keysA n := by
  unfold keysT srcT keysA
  rw [List.map_map]
  rfl
theorem keysT_erase (K : List Tok) (i : Nat) : keysT (K.eraseIdx i) = (keysT K).eraseIdx i := by
  unfold keysT
  rw [List.eraseIdx_eq_take_drop_succ, List.eraseIdx_eq_take_drop_succ, List.map_append, List.map_take, List.map_drop]
theorem keysT_insert (K : List Tok) (t : Tok) (i : Nat) (h : i ≤ K.length) : keysT (K.insertIdx i t) = (keysT K).insertIdx i (keyT t) := by
  unfold keysT
  rw [ins_eq K i h, ins_eq _ i (by simpa using h), List.map_append, List.map_cons, List.map_take, List.map_drop]
def movT (n i k : Nat) : List Tok := ((srcT n).eraseIdx i).insertIdx k (letT i)
theorem movT_keys {n i k : Nat} (hi : i < n) (hk : k < n) : keysT (movT n i k) = keysM n i k := by
  unfold movT keysM
  rw [keysT_insert _ _ _ (by rw [List.length_eraseIdx, if_pos (by rw [srcT_len]; exact hi), srcT_len]; omega), keysT_erase, srcT_keys]
  rfl
theorem letT_ok : ∀ i < 10, tokC (letT i) = 0 := by decide +kernel
theorem letT_small (i : Nat) : TokS (letT i) := ⟨by simp [letT, wTok], by simp [letT, wTok], by simp [letT, wTok], ⟨by simp [letT, wTok], by simp [letT, wTok]⟩, ⟨by simp [letT, wTok], by simp [letT, wTok]⟩, by simp [letT, wTok]⟩
theorem srcT_mem {n : Nat} {t : Tok} (h : t ∈ srcT n) : ∃ i < n, t = letT i := by
  obtain ⟨i, hi, rfl⟩ := List.mem_map.1 h
  exact ⟨i, List.mem_range.1 hi, rfl⟩
theorem movT_len {n i k : Nat} (hi : i < n) (hk : k < n) : (movT n i k).length = n := by
  unfold movT
  have h1 : ((srcT n).eraseIdx i).length = n - 1 := by rw [List.length_eraseIdx, if_pos (by rw [srcT_len]; exact hi), srcT_len]
  rw [List.length_insertIdx, if_pos (by rw [h1]; omega), h1]
  omega
theorem movT_mem {n i k : Nat} (hi : i < n) (hk : k < n) {t : Tok} (h : t ∈ movT n i k) : ∃ j < n, t = letT j := by
  unfold movT at h
  have h1 : ((srcT n).eraseIdx i).length = n - 1 := by rw [List.length_eraseIdx, if_pos (by rw [srcT_len]; exact hi), srcT_len]
  rcases (List.mem_insertIdx (by rw [h1]; omega)).1 h with h | h
  · exact ⟨i, hi, h⟩
  · exact srcT_mem (List.mem_of_mem_eraseIdx h)
theorem mov_chk {n i k : Nat} (hn : n ≤ 10) (hi : i < n) (hk : k < n) : chkT (srcT n) (movT n i k) = 0 :=
  chkT_of (by rw [srcT_len]; omega) (by rw [movT_len hi hk]; omega) (fun t ht => by obtain ⟨j, hj, rfl⟩ := srcT_mem ht; exact letT_ok j (by omega)) (fun t ht => by obtain ⟨j, hj, rfl⟩ := movT_mem hi hk ht; exact letT_ok j (by omega))
theorem mov_all {n i k : Nat} (h2 : 2 ≤ n) (hn : n ≤ 10) (hi : i < n) (hk : k < n) : (i = k → (bksE (srcT n) (movT n i k)).length = 0 ∧ (chnE (srcT n) (movT n i k)).length = n) ∧ (i ≠ k → (bksE (srcT n) (movT n i k)).length = 1 ∧ (chnE (srcT n) (movT n i k)).length = n - 1) := by
  have h := List.all_eq_true.1 moved_all n (List.mem_range.2 (by omega))
  rw [Bool.or_eq_true, decide_eq_true_eq] at h
  rcases h with h | h
  · omega
  · have h' := List.all_eq_true.1 (List.all_eq_true.1 h i (List.mem_range.2 hi)) k (List.mem_range.2 hk)
    unfold bksE chnE prsE
    rw [if_pos (mov_chk hn hi hk), srcT_keys, movT_keys hi hk]
    unfold movedB at h'
    simp only at h'
    constructor
    · intro e
      rw [if_pos e, Bool.and_eq_true, beq_iff_eq, beq_iff_eq] at h'
      exact h'
    · intro e
      rw [if_neg e, Bool.and_eq_true, beq_iff_eq, beq_iff_eq] at h'
      omega
end Go.Ap
namespace Go.Proofs.YtbahddjbncinbaaGreatDoor
open Go.RowKit Go.Ap Go.Shelf Go.Proofs

attribute [local go_sem] Oper.semAt_some bs_toList empty_toList bs_size bs_extract
set_option maxRecDepth 100000 in
set_option maxHeartbeats 8000000 in
theorem law10 (z1 z2 z3 : Int) (w : World) (h1 : 0 ≤ z1 ∧ z1 ≤ 255) (h2 : 0 ≤ z2 ∧ z2 ≤ 255) (h3 : 0 ≤ z3 ∧ z3 ≤ 255) (hev : EV w) :
    Calls Tryz.prog 10 #[.int .u8 z1, .int .u8 z2, .int .u8 z3] w fun e w' => e = .returned (.bool true) ∧ Below w.heap.size w w' := by
  obtain ⟨i9, hi9, hy0, hy1, hy2⟩ := info_parts infoTok
  have HEV := Lib.hid hev
  obtain ⟨zs, rfl⟩ : ∃ zn : Nat, z1 = zn := ⟨z1.toNat, by omega⟩
  obtain ⟨zf, rfl⟩ : ∃ zn : Nat, z2 = zn := ⟨z2.toNat, by omega⟩
  obtain ⟨zt, rfl⟩ : ∃ zn : Nat, z3 = zn := ⟨z3.toNat, by omega⟩
  obtain ⟨r, hr⟩ : ∃ r, zs % 9 = r := ⟨_, rfl⟩
  have hr9 : r < 9 := by omega
  obtain ⟨n, hn⟩ : ∃ n, r + 2 = n := ⟨_, rfl⟩
  have m1 : ((zs : Int)).tmod 9 = (r : Int) := by rw [← hr]; exact Int.ofNat_tmod zs 9
  have m2 : ((zs : Int)) % 9 = (r : Int) := by rw [← hr]; exact Int.natCast_emod zs 9
  have m3 : IntKind.i64.wrap ((r : Int) + 2) = (n : Int) := by rw [← hn, IntWalk.i64_in _ (by omega)]; rfl
  have m4 : (r : Int) + 2 = (n : Int) := by omega
  clear hev hr
  go_enter Tryz.func10, Tryz.ntmps10
  go_wp2_with (fail)
  clear m1 m2 m3 m4
  go_loopw [8, 23] (fun ov iv wr => ∃ i : Nat, i ≤ n ∧ iv = .int .i64 i ∧ OwnTk wr w.heap.size ov (srcT i) ∧ Below w.heap.size w wr) (fun _ iv _ => n - (intOf iv).toNat)
  case atStart => exact ⟨0, Nat.zero_le _, rfl, World.ownsRow_nil _ _ _ _, Below.refl _ _⟩
  case round =>
    obtain ⟨wi, rfl⟩ : ∃ wi : World, wi = wr := ⟨_, rfl⟩
    obtain ⟨i, hi, rfl, ho, hb⟩ := hrel
    have HB := Lib.hid hb
    have hsz := hb.size
    by_cases hin : i < n
    · obtain ⟨q, hq⟩ : ∃ q, 97 + i = q := ⟨_, rfl⟩
      obtain ⟨c8, hc8⟩ : ∃ c8, UInt8.ofNat (97 + i) = c8 := ⟨_, rfl⟩
      have hct : c8.toNat = q := by rw [← hc8, ← hq, UInt8.toNat_ofNat_of_lt' (by show 97 + i < 256; omega)]
      have w1 : IntKind.u8.wrap (i : Int) = (i : Int) := by rw [IntKind.wrap_u8]; omega
      have w2 : IntKind.u8.wrap (97 + (i : Int)) = (q : Int) := by rw [IntKind.wrap_u8]; omega
      have hcv : (convert 57 9 (.slice (some ⟨wi.heap.size, 0, none⟩) 1 1)).run Tryz.prog (wi.alloc (.cells #[.int .u8 q] 5)) = .ok (.string (bs [c8])) (wi.alloc (.cells #[.int .u8 q] 5)) :=
        run_convert_bytes_back (P := Tryz.prog) _ 57 9 5 ⟨wi.heap.size, 0, none⟩ 1 [c8] Tryz.underlying57 Tryz.underlying5 Tryz.underlying9 (fun j hj => by
          have hj0 : j = 0 := by simpa using hj
          subst hj0
          have := blk_cell (i := 0) (v := .int .u8 q) (World.alloc_heap_new wi (.cells #[.int .u8 q] 5)) rfl
          simp only [List.getElem_cons_zero, hct]
          exact this)
      have i1 : (i : Int) < (n : Int) := by omega
      have hql : (srcT i).length = i := srcT_len i
      have HO := Lib.hid (show (wi.alloc (.cells #[.int .u8 q] 5)).ownsRow w.heap.size 39 6 _ i ((srcT i).flatMap tokC6) by unfold OwnTk at ho; rw [hql] at ho; exact owns_below ho (balloc wi _))
      have HE := Lib.hid (show (srcT (i + 1)).length = i + 1 ∧ (srcT (i + 1)).flatMap tokC6 = (srcT i).flatMap tokC6 ++ [.string (bs [c8]), .string (bs [c8]), .string { data := #[] }, .int .i64 0, .int .i64 0, .string { data := #[] }] by
        constructor
        · exact srcT_len _
        · rw [srcT_succ, List.flatMap_append]; simp [letT, wTok, tokC6, hc8]; rfl)
      have HNW := Lib.hid (show ∀ (j : Nat) (u : Value), [.string (bs [c8]), .string (bs [c8]), .string { data := #[] }, .int .i64 0, .int .i64 0, .string { data := #[] }][j]? = some u → ((wi.alloc (.cells #[.int .u8 q] 5)).alloc (.cells #[.string (bs [c8]), .string (bs [c8]), .string { data := #[] }, .int .i64 0, .int .i64 0, .string { data := #[] }] 39)).cell? ((⟨wi.heap.size + 1, 0, none⟩ : Addr).add j) = some u from World.news_of_block (cs := #[.string (bs [c8]), .string (bs [c8]), .string { data := #[] }, .int .i64 0, .int .i64 0, .string { data := #[] }]) (heap_fresh (by simp)))
      have HBA := Lib.hid (balloc wi (.cells #[.int .u8 q] 5))
      clear hc8 ho hb hql hct
      go_wp2_with (at_builtin; refine wpList_append_own _ rfl _ _ 22 rfl w.heap.size 39 i9 (.agg #[.string { data := #[] }, .string { data := #[] }, .string { data := #[] }, .int .i64 0, .int .i64 0, .string { data := #[] }]) 6 80 Tryz.underlying22 hi9 hy0 hy1 hy2 rfl (by decide) _ _ _ rfl (HO.out.alloc _) ⟨wi.heap.size + 1, 0, none⟩ 1 1 [.string (bs [c8]), .string (bs [c8]), .string { data := #[] }, .int .i64 0, .int .i64 0, .string { data := #[] }] rfl rfl HNW.out (by simp [Value.oneCell']) (by unfold maxLen; omega) (by omega) (by simp; omega) ?_; intro v1 w4 hown1 hgrow1 _; have HO3 := Lib.hid hown1; have HG := Lib.hid hgrow1; clear hown1 hgrow1)
      have j2 : Below w.heap.size wi w4 := (((Below.refl w.heap.size wi).alloc hsz _).alloc (by simp; omega) _).grown HG.out (by simp; omega) fun k hk => (HO.out.lt k hk).1
      go_roundw
      case rel => exact ⟨i + 1, by omega, by simp, by unfold OwnTk; rw [HE.out.1, HE.out.2]; exact HO3.out, HB.out.trans j2⟩
      case measure => simp [intOf]; omega
    · obtain rfl : n = i := by omega
      have HOA := Lib.hid ho
      obtain ⟨aa, ca, rfl, ht⟩ := ho.toks (by rw [srcT_len]; omega) (fun t ht => by obtain ⟨j, _, rfl⟩ := srcT_mem ht; exact letT_small j)
      rw [srcT_len] at ht HOA ⊢
      have HTA := Lib.hid ht
      obtain ⟨f, hf⟩ : ∃ f, zf % n = f := ⟨_, rfl⟩
      obtain ⟨t, htt⟩ : ∃ t, zt % n = t := ⟨_, rfl⟩
      have hfn : f < n := by rw [← hf]; exact Nat.mod_lt _ (by omega)
      have htn : t < n := by rw [← htt]; exact Nat.mod_lt _ (by omega)
      have m1 : ((zf : Int)).tmod (n : Int) = (f : Int) := by rw [← hf]; exact Int.ofNat_tmod zf n
      have m2 : ((zf : Int)) % (n : Int) = (f : Int) := by rw [← hf]; exact Int.natCast_emod zf n
      have m3 : ((zt : Int)).tmod (n : Int) = (t : Int) := by rw [← htt]; exact Int.ofNat_tmod zt n
      have m4 : ((zt : Int)) % (n : Int) = (t : Int) := by rw [← htt]; exact Int.natCast_emod zt n
      have n0 : ¬ (n : Int) = 0 := by omega
      have n0' : ¬ n = 0 := by omega
      have m7 : IntKind.i64.wrap (zf : Int) = (zf : Int) := IntWalk.i64_in _ (by omega)
      have m8 : IntKind.i64.wrap (zt : Int) = (zt : Int) := IntWalk.i64_in _ (by omega)
      clear ho ht hf htt hb hi hin
      go_wp2_with (fail)
      refine (wpIn_wide (n := 20)).1 ?_
      refine wpIn_region_planN (fun W' => Below wi.heap.size wi W') (.take 0 <| .take 1 <| .take 2 <| .take 3 <| .take 4 <| .take 5 <| .take 6 <| .take 7 <| .take 8 <| .take 9 .fin) (fun _ => trivial) (by kernel_rfl) (by kernel_rfl) (bdrewN wi 1) ?_
      iterate 10
        apply plan_take rfl rfl (by rfl)
        case hy =>
          rintro W' hb'
          clear hb'
          go_simp
          first | done | with_reducible rfl
        try simp only [List.setIfInBounds_toArray, List.set_cons_zero, List.set_cons_succ]
      refine plan_fin ?_
      gi_wp2_with (fail)
      clear m1 m2 m3 m4 m7 m8
      have HOD := Lib.hid (owns_below HOA.out (bdrewN wi 1))
      have HTD := Lib.hid (HTA.out.mono (Nat.le_refl _) (bdrewN wi 1))
      have HBD := Lib.hid (show Below w.heap.size w wi.drew from HB.out.trans ((bdrewN wi 1).mono hsz))
      obtain ⟨wd, hwd⟩ : ∃ wd, wi.drew = wd := ⟨_, rfl⟩
      have hwd2 : wi.drewN 1 = wd := hwd
      rw [hwd2] at HOD HTD
      rw [hwd] at HBD ⊢
      have HCL := Lib.hid (cloneTk wd w.heap.size (.slice aa n ca) (srcT n) HOD.out (by rw [srcT_len]; omega) (by rw [srcT_len]; omega))
      clear hwd hwd2
      go_wp2_with (fail)
      refine HCL.out.mono ?_
      rintro e w1 ⟨g, cap, rfl, ho, hb⟩
      rw [srcT_len] at ho ⊢
      have hcap : n ≤ cap := by
        unfold OwnTk at ho
        rw [srcT_len] at ho
        obtain ⟨g', cap', he, hc, _, _⟩ := owns_block ho (by omega)
        simp only [Value.slice.injEq, Option.some.injEq, Addr.mk.injEq, and_true, true_and] at he
        omega
      have hgd : wd.heap.size ≤ g := by
        rcases ho.2 with ⟨he, _⟩ | ⟨g', cap', cur, he, hbg, _⟩
        · cases he
        · simp only [Value.slice.injEq, Option.some.injEq, Addr.mk.injEq, and_true] at he
          omega
      have HLS := Lib.hid (lessTk w1 wd.heap.size g n cap f (f + 1) (srcT n) ho (srcT_len n) hfn rfl)
      rw [Int.natCast_add, Int.natCast_one] at HLS
      have HX1 := Lib.hid hb
      have m5 : IntKind.i64.wrap ((f : Int) + 1) = (f : Int) + 1 := IntWalk.i64_in _ (by omega)
      clear ho hb
      go_wp2_with (fail)
      refine HLS.out.mono ?_
      rintro e w2 ⟨rfl, ho, hb⟩
      have HO2 := Lib.hid ho
      have HX2 := Lib.hid (show Below wd.heap.size wd w2 from HX1.out.trans hb)
      have hgl : g < w2.heap.size := by
        rcases ho.2 with ⟨he, _⟩ | ⟨g', cap', cur, he, hbg, hgg, _⟩
        · cases he
        · simp only [Value.slice.injEq, Option.some.injEq, Addr.mk.injEq, and_true] at he
          rw [he.1]
          exact (Array.getElem?_eq_some_iff.1 hgg).1
      have HT2 := Lib.hid (HTD.out.mono (Nat.le_refl _) HX2.out)
      obtain ⟨tk, b, off, htk, rfl, ⟨⟨e0, e1, e2, e3, e4, e5⟩, hts⟩⟩ := HT2.out.at hfn
      have htl : tk = letT f := by rw [srcT_at hfn] at htk; exact (Option.some.inj htk).symm
      have hb3 := balloc w2 (.cells #[.string (bs tk.text), .string (bs tk.norm), .string (bs tk.page), .int .i64 tk.line, .int .i64 tk.flags, .string (bs tk.name)] 39)
      have hle : ((srcT n).eraseIdx f).length = n - 1 := by rw [List.length_eraseIdx, if_pos (by rw [srcT_len]; exact hfn), srcT_len]
      have ho3 : OwnTk (w2.alloc (.cells #[.string (bs tk.text), .string (bs tk.norm), .string (bs tk.page), .int .i64 tk.line, .int .i64 tk.flags, .string (bs tk.name)] 39)) wd.heap.size (.slice (some ⟨g, 0, none⟩) (n - 1) cap) ((srcT n).eraseIdx f) := by
        unfold OwnTk at ho ⊢
        exact owns_below ho hb3
      have HIN := Lib.hid (insTk (w2.alloc (.cells #[.string (bs tk.text), .string (bs tk.norm), .string (bs tk.page), .int .i64 tk.line, .int .i64 tk.flags, .string (bs tk.name)] 39)) wd.heap.size g (n - 1) cap t w2.heap.size ((srcT n).eraseIdx f) tk ho3 hle (by omega) (by omega) (by omega) (BlkK.new w2 _ _) (by omega) (by have := HX2.out.size; simp; omega))
      rw [show ((srcT n).eraseIdx f).insertIdx t tk = movT n f t by rw [htl]; rfl] at HIN
      have HX3 := Lib.hid (show Below wd.heap.size wd (w2.alloc (.cells #[.string (bs tk.text), .string (bs tk.norm), .string (bs tk.page), .int .i64 tk.line, .int .i64 tk.flags, .string (bs tk.name)] 39)) from HX2.out.trans (hb3.mono HX2.out.size))
      have f1 : (f : Int) < (n : Int) := by omega
      have HTK := Lib.hid htl
      clear ho hb htk htl hts hb3 hle ho3
      go_wp2_with (fail)
      refine HIN.out.mono ?_
      rintro e w3 ⟨u, rfl, ho, hb⟩
      obtain ⟨am, cm, rfl, hm⟩ := ho.toks (by rw [movT_len hfn htn]; omega) (fun t ht => by obtain ⟨j, _, rfl⟩ := movT_mem hfn htn ht; exact letT_small j)
      rw [movT_len hfn htn] at hm ⊢
      have HX4 := Lib.hid (show Below wd.heap.size wd w3 from HX3.out.trans hb)
      have HB4 := Lib.hid (show Below w.heap.size w w3 from HBD.out.trans (HX4.out.mono HBD.out.size))
      have HT4 := Lib.hid (HTD.out.mono (Nat.le_refl _) HX4.out)
      have HM4 := Lib.hid hm
      have HDI := Lib.hid (DistanceP (srcT n) (movT n f t) _ n ca am n cm w3 HT4.out hm (HEV.out.mono (Nat.le_refl _) HB4.out))
      have HCH := Lib.hid (fun W (hb : Below w3.heap.size w3 W) => ChainP (srcT n) (movT n f t) _ n ca am n cm W (HT4.out.mono (Nat.le_refl _) hb) (HM4.out.mono (Nat.le_refl _) hb) (HEV.out.mono (Nat.le_refl _) (bstep HB4.out hb)))
      have hall := mov_all (n := n) (i := f) (k := t) (by omega) (by omega) hfn htn
      have hbl : (rowsP (chnE (srcT n) (movT n f t))).length = (chnE (srcT n) (movT n f t)).length := rowsP_len _
      rw [mov_chk (by omega) hfn htn] at HDI HCH
      obtain ⟨C, hC⟩ : ∃ C, rowsP (chnE (srcT n) (movT n f t)) = C := ⟨_, rfl⟩
      rw [hC] at HCH hbl
      obtain ⟨nd, hnd⟩ : ∃ nd, (bksE (srcT n) (movT n f t)).length = nd := ⟨_, rfl⟩
      rw [hnd] at HDI hall
      rw [← hbl] at hall
      obtain ⟨nc, hnc⟩ : ∃ nc, C.length = nc := ⟨_, rfl⟩
      rw [hnc] at hall
      have HNC := Lib.hid hnc
      clear ho hb hm e0 e1 e2 e3 e4 e5 hC hbl hnd hnc
      go_wp2_with (fail)
      refine HDI.out.mono ?_
      rintro e w5 ⟨rfl, hb⟩
      have HX5 := Lib.hid hb
      have HB5 := Lib.hid (bstep HB4.out hb)
      clear hb
      go_wp2_with (fail)
      refine (HCH.out _ HX5.out).mono ?_
      rintro e w6 ⟨acp, ccp, rfl, -, -, hb⟩
      rw [HNC.out]
      have HB6 := Lib.hid (bstep HB5.out hb)
      have HAW := Lib.hid (awake13 w6 (HEV.out.mono (Nat.le_refl _) HB6.out))
      clear hb
      by_cases hft : f = t
      · obtain ⟨h1, h2⟩ := hall.1 hft
        have df : ((f : Int) == (t : Int)) = true := by rw [beq_iff_eq]; omega
        have dd : ((nd : Int) == 0) = true := by rw [beq_iff_eq]; omega
        have dc : ((nc : Int) == (n : Int)) = true := by rw [beq_iff_eq]; omega
        clear hall h1 h2 hft
        go_wp2_with (fail)
        refine HAW.out.mono ?_
        rintro e w7 ⟨rfl, hb⟩
        have HB7 := Lib.hid (bstep HB6.out hb)
        clear hb
        go_wp2_with (fail)
        go_ret
        exact ⟨rfl, HB7.out⟩
      · obtain ⟨h1, h2⟩ := hall.2 hft
        have df : ((f : Int) == (t : Int)) = false := by rw [beq_eq_false_iff_ne]; omega
        have dd : ((nd : Int) == 1) = true := by rw [beq_iff_eq]; omega
        have dc : ((nc : Int) == (n : Int) - 1) = true := by rw [beq_iff_eq]; omega
        have m6 : IntKind.i64.wrap ((n : Int) - 1) = (n : Int) - 1 := IntWalk.i64_in _ (by omega)
        clear hall h1 h2 hft
        go_wp2_with (fail)
        refine HAW.out.mono ?_
        rintro e w7 ⟨rfl, hb⟩
        have HB7 := Lib.hid (bstep HB6.out hb)
        clear hb
        go_wp2_with (fail)
        go_ret
        exact ⟨rfl, HB7.out⟩
end Go.Proofs.YtbahddjbncinbaaGreatDoor
