/-
  Words of an edition; Names (program).
-/
import Derived.Test.YtngdmpkoedpgdaaGreatDoorWo
import Derived.Test.YtngdmpkoedpgdaaGreatDoorCk
import Derived.Test.YtngdmpkoedpgdaaGreatDoorOpC
namespace Go.Ap
open Go Go.RowKit Go.Deep Go.ChangeShapes Go.WideShapes Go.ChangeAt
structure Wrd where
  text : Str
  col : Int
  unit : Int
  dec : Int
  joined : Bool
  verse : Bool
  name : Str
instance : Inhabited Wrd := ⟨⟨[], 0, 0, 0, false, false, []⟩⟩
def wrdC (x : Wrd) : Array Value := #[.string (bs x.text), .int .i64 x.col, .int .i64 x.unit, .int .i64 x.dec, .bool x.joined, .bool x.verse, .string (bs x.name)]
/-- seven cells that read as a word -/
structure WrdM (w : World) (b o : Nat) (x : Wrd) : Prop where
  c0 : w.cell? ⟨b, o, none⟩ = some (.string (bs x.text))
  c1 : w.cell? ⟨b, o + 1, none⟩ = some (.int .i64 x.col)
  c2 : w.cell? ⟨b, o + 2, none⟩ = some (.int .i64 x.unit)
  c3 : w.cell? ⟨b, o + 3, none⟩ = some (.int .i64 x.dec)
  c4 : w.cell? ⟨b, o + 4, none⟩ = some (.bool x.joined)
  c5 : w.cell? ⟨b, o + 5, none⟩ = some (.bool x.verse)
  c6 : w.cell? ⟨b, o + 6, none⟩ = some (.string (bs x.name))
  short : x.name.length ≤ 281474976710656
abbrev Wrds := SlM 7 WrdM
theorem WrdM.mono {w w' : World} {B b o : Nat} {x : Wrd} (h : WrdM w b o x) (hB : w.heap.size ≤ B) (hb : Below B w w') : WrdM w' b o x :=
  ⟨cell_kept hB hb h.c0, cell_kept hB hb h.c1, cell_kept hB hb h.c2, cell_kept hB hb h.c3, cell_kept hB hb h.c4, cell_kept hB hb h.c5, cell_kept hB hb h.c6, h.short⟩
theorem Wrds.mono {w w' : World} {B : Nat} {a : Option Addr} {n : Nat} {l : List Wrd} (h : Wrds w a n l) (hB : w.heap.size ≤ B) (hb : Below B w w') : Wrds w' a n l := SlM.mono h fun _ _ _ hr => hr.mono hB hb
/-- the entries of names -/
def namesEs (sec : Str) (ps : List (Str × Int)) : List Entry := ps.flatMap fun p => if p.1 = [] then [] else [((p.1, sec), p.2)]
def scanN : List (Str × Int) → Int
  | [] => 0
  | p :: r => if p.1 ≠ [] ∧ nameB p.1 = false then 14 else if lineOk p.2 = false then 2 else scanN r
theorem namesEs_snoc (sec : Str) {ps : List (Str × Int)} {i : Nat} {p : Str × Int} (h : ps[i]? = some p) : namesEs sec (ps.take (i + 1)) = namesEs sec (ps.take i) ++ if p.1 = [] then [] else [((p.1, sec), p.2)] := by
  unfold namesEs
  rw [take_snoc h, List.flatMap_append]
  simp
theorem namesEs_len (sec : Str) (ps : List (Str × Int)) : (namesEs sec ps).length ≤ ps.length := by
  induction ps with
  | nil => simp [namesEs]
  | cons p r ih =>
    have : namesEs sec (p :: r) = (if p.1 = [] then [] else [((p.1, sec), p.2)]) ++ namesEs sec r := rfl
    rw [this, List.length_append, List.length_cons]
    have : (if p.1 = [] then [] else [((p.1, sec), p.2)] : List Entry).length ≤ 1 := by split <;> simp
    omega
theorem namesEs_mem {sec : Str} {ps : List (Str × Int)} {x : Entry} : x ∈ namesEs sec ps ↔ ∃ p ∈ ps, p.1 ≠ [] ∧ x = ((p.1, sec), p.2) := by
  unfold namesEs
  rw [List.mem_flatMap]
  constructor
  · rintro ⟨p, hp, hx⟩
    split at hx
    · cases hx
    · rename_i h
      rw [List.mem_singleton] at hx
      exact ⟨p, hp, h, hx⟩
  · rintro ⟨p, hp, h, rfl⟩
    exact ⟨p, hp, by rw [if_neg h]; exact List.mem_singleton.2 rfl⟩
theorem scanN_drop {ps : List (Str × Int)} {i : Nat} {p : Str × Int} (h : ps[i]? = some p) : scanN (ps.drop i) = if p.1 ≠ [] ∧ nameB p.1 = false then 14 else if lineOk p.2 = false then 2 else scanN (ps.drop (i + 1)) := by
  obtain ⟨hi, rfl⟩ := List.getElem?_eq_some_iff.1 h
  rw [List.drop_eq_getElem_cons hi]
  rfl
theorem zipn_at {bs : List Wrd} {ls : List Int} {i : Nat} {x : Wrd} {y : Int} (h1 : bs[i]? = some x) (h2 : ls[i]? = some y) : ((bs.map Wrd.name).zip ls)[i]? = some (x.name, y) := by
  rw [List.getElem?_zip_eq_some]
  exact ⟨by rw [List.getElem?_map, h1]; rfl, h2⟩
end Go.Ap
namespace Go.Proofs.YtngdmpkoedpgdaaGreatDoor
open Go.RowKit Go.Ap Go.Shelf Go.Proofs

attribute [local go_sem] Oper.semAt_some bs_toList empty_toList bs_size bs_extract
set_option maxHeartbeats 1000000 in
theorem idxWrd (p : Wrd → Bool) (a : Option Addr) (n c : Nat) (xs : List Wrd) (g : Nat) (cap : Array Value) (w : World) (h : Wrds w a n xs)
    (eg : ∀ args w, (callFunc g args).run Tryz.prog w = .ok (.enter g args) w)
    (hp : ∀ t ∈ xs, ∀ W, t.name.length ≤ 281474976710656 → Below w.heap.size w W → Calls Tryz.prog g (#[.agg (wrdC t)] ++ cap) W fun e w' => e = .returned (.bool (p t)) ∧ Below W.heap.size W w') :
    Calls Tryz.prog 102 #[.slice a n c, .func (.func g) #[] cap] w fun e w' => e = .returned (.int .i64 (idxF p xs)) ∧ Below w.heap.size w w' := by
  have hlen := h.len
  have hsm := h.small
  have HL := Lib.hid hlen
  have HP := Lib.hid hp
  have HX := Lib.hid h
  clear hlen hp h
  unfold wrdC at HP
  go_enter Tryz.func102, Tryz.ntmps102
  go_wp2_with (fail)
  go_loopw [8] (fun i wr => ∃ k : Nat, k ≤ n ∧ i = .int .i64 k ∧ Below w.heap.size w wr ∧ idxG (pAt p xs) (n - k) k = idxF p xs) (fun i _ => n - (intOf i).toNat)
  case atStart => exact ⟨0, by omega, rfl, Below.refl _ _, by unfold idxF; rw [HL.out]; rfl⟩
  case round =>
    obtain ⟨k, hk, rfl, hb, hch⟩ := hrel
    have HC := Lib.hid hch
    have HB := Lib.hid hb
    clear hch
    by_cases hlt : k < n
    · obtain ⟨t, b, off, ht, rfl, c0, c1, c2, c3, c4, c5, c6, hts⟩ := (Wrds.mono HX.out (Nat.le_refl _) hb).at hlt
      obtain ⟨f, hf⟩ : ∃ f, n - k = f + 1 := ⟨n - k - 1, by omega⟩
      have HF := Lib.hid hf
      have HPA := Lib.hid (show pAt p xs k = p t by simp [pAt, ht])
      have HCALL := Lib.hid (HP.out t (List.mem_of_getElem? ht) wr hts hb)
      clear hf ht hts hb
      go_wp2_with (fail)
      refine HCALL.out.mono ?_
      rintro e w' ⟨rfl, hb2⟩
      have HB2 := Lib.hid (bstep HB.out hb2)
      clear hb2
      cases hpx : p t
      all_goals
        have HPX := Lib.hid hpx
        clear hpx
        go_wp2_with (fail)
      · exact ⟨⟨k + 1, by omega, by go_num, HB2.out, by rw [← HC.out, HF.out, idxG_no (HPA.out.trans HPX.out), show n - (k + 1) = f by have := HF.out; omega]⟩, by simp [intOf]; omega⟩
      · go_ret
        exact ⟨ret_i (by rw [← HC.out, HF.out, idxG_yes (HPA.out.trans HPX.out)]), HB2.out⟩
    · go_wp2_with (fail)
      go_ret
      exact ⟨ret_i (by rw [← HC.out, show n - k = 0 by omega, idxG]), HB.out⟩
set_option maxHeartbeats 1000000 in
theorem contWrd (p : Wrd → Bool) (a : Option Addr) (n c : Nat) (xs : List Wrd) (g : Nat) (cap : Array Value) (w : World) (h : Wrds w a n xs)
    (eg : ∀ args w, (callFunc g args).run Tryz.prog w = .ok (.enter g args) w)
    (hp : ∀ t ∈ xs, ∀ W, t.name.length ≤ 281474976710656 → Below w.heap.size w W → Calls Tryz.prog g (#[.agg (wrdC t)] ++ cap) W fun e w' => e = .returned (.bool (p t)) ∧ Below W.heap.size W w') :
    Calls Tryz.prog 39 #[.slice a n c, .func (.func g) #[] cap] w fun e w' => e = .returned (.bool (xs.any p)) ∧ Below w.heap.size w w' := by
  have H := Lib.hid (idxWrd p a n c xs g cap w h eg hp)
  clear hp eg h
  go_enter Tryz.func39, Tryz.ntmps39
  go_wp2_with (fail)
  refine H.out.mono ?_
  rintro e w' ⟨rfl, hb⟩
  go_wp2_with (fail)
  go_ret
  exact ⟨ret_b (idxF_any p xs), hb⟩
def namesC (cx : Int) (n : Nat) (m : Nat) (ps : List (Str × Int)) : Int := if cx ≠ 0 then 1 else if 4096 < n then 4 else if m ≠ n then 9 else scanN ps
set_option maxRecDepth 100000 in
set_option maxHeartbeats 4000000 in
theorem namesBad (x : Coll) (ax : Option Addr) (nx cx : Nat) (ay : Option Addr) (ny cy : Nat) (az : Option Addr) (nz cz : Nat) (a1 : Option Addr) (n1 c1 : Nat) (a2 : Option Addr) (n2 c2 : Nat) (w : World) (hx : CollM w ax ay az nx ny nz x) (hcx : nx ≤ cx) (hev : EV w) (l : List Post)
    (hbad : collC x ≠ 0 ∨ 4096 < n1 ∨ n2 ≠ n1) (ps : List (Str × Int)) :
    Calls Tryz.prog 41 #[collV x.sec ax nx cx ay ny cy az nz cz, .slice a1 n1 c1, .slice a2 n2 c2] w fun e w' => WordsA e w w' (namesC (collC x) n1 n2 ps) l := by
  have HC := Lib.hid (fun W (hb : Below w.heap.size w W) => collP x ax nx cx ay ny cy az nz cz W (hx.mono (Nat.le_refl _) hb) hcx (hev.mono (Nat.le_refl _) hb))
  have HBB := Lib.hid (balloc w (.cells #[.string (bs x.sec), .slice ax nx cx, .slice ay ny cy, .slice az nz cz] 68))
  unfold namesC
  unfold collV at *
  generalize collC x = v at *
  clear hx hcx hev
  by_cases h0 : v = 0
  · subst h0
    rw [if_neg (by simp)]
    by_cases g1 : 4096 < n1
    · rw [if_pos g1]
      have d1 : decide ((4096 : Int) < (n1 : Int)) = true := by rw [decide_eq_true_eq]; omega
      clear hbad g1
      go_enter Tryz.func41, Tryz.ntmps41
      go_wp2_with (fail)
      refine (HC.out _ HBB.out).mono ?_
      rintro e W ⟨rfl, hb⟩
      have HB := Lib.hid (bstep HBB.out hb)
      clear hb
      go_wp2_with (fail)
      go_ret2
      exact WordsA.bad (by decide) HB.out
    · rw [if_neg g1]
      have d1 : decide ((4096 : Int) < (n1 : Int)) = false := by rw [decide_eq_false_iff_not]; omega
      have g2 : n2 ≠ n1 := by
        rcases hbad with h | h | h
        · exact absurd rfl h
        · exact absurd h g1
        · exact h
      rw [if_pos g2]
      have d2 : ((n2 : Int) != (n1 : Int)) = true := by rw [bne_iff_ne]; omega
      clear hbad g1 g2
      go_enter Tryz.func41, Tryz.ntmps41
      go_wp2_with (fail)
      refine (HC.out _ HBB.out).mono ?_
      rintro e W ⟨rfl, hb⟩
      have HB := Lib.hid (bstep HBB.out hb)
      clear hb
      go_wp2_with (fail)
      go_ret2
      exact WordsA.bad (by decide) HB.out
  · rw [if_pos h0]
    have d0 : (v != 0) = true := by rw [bne_iff_ne]; exact h0
    clear hbad h0
    go_enter Tryz.func41, Tryz.ntmps41
    go_wp2_with (fail)
    refine (HC.out _ HBB.out).mono ?_
    rintro e W ⟨rfl, hb⟩
    have HB := Lib.hid (bstep HBB.out hb)
    clear hb
    go_wp2_with (fail)
    go_ret2
    exact WordsA.bad (by decide) HB.out
set_option maxRecDepth 100000 in
set_option maxHeartbeats 8000000 in
theorem namesOk (x : Coll) (ax : Option Addr) (nx cx : Nat) (ay : Option Addr) (ny cy : Nat) (az : Option Addr) (nz cz : Nat) (bsl : List Wrd) (ls : List Int) (a1 : Option Addr) (n c1 : Nat) (a2 : Option Addr) (c2 : Nat) (w : World) (hx : CollM w ax ay az nx ny nz x) (hcx : nx ≤ cx) (hev : EV w)
    (h1 : Wrds w a1 n bsl) (h2 : Ints w a2 n ls) (hn : n ≤ 4096) (hok : collC x = 0) :
    Calls Tryz.prog 41 #[collV x.sec ax nx cx ay ny cy az nz cz, .slice a1 n c1, .slice a2 n c2] w fun e w' => WordsA e w w' (scanN ((bsl.map Wrd.name).zip ls)) (idxM mkB (namesEs x.sec ((bsl.map Wrd.name).zip ls))) := by
  obtain ⟨i0, hi, hz0, hz1, hz2⟩ := info_parts infoInt5
  have HC := Lib.hid (fun W (hb : Below w.heap.size w W) => collP x ax nx cx ay ny cy az nz cz W (hx.mono (Nat.le_refl _) hb) hcx (hev.mono (Nat.le_refl _) hb))
  rw [hok] at HC
  have hsec := hx.sec
  obtain ⟨sec, hsc⟩ : ∃ s, x.sec = s := ⟨_, rfl⟩
  unfold collV at *
  rw [hsc] at HC hsec ⊢
  have d1 : decide ((4096 : Int) < (n : Int)) = false := by rw [decide_eq_false_iff_not]; omega
  have d2 : ((n : Int) != (n : Int)) = false := by simp
  have HX1 := Lib.hid h1
  have HX2 := Lib.hid h2
  have HSL := Lib.hid (show sec.length ≤ maxLen from Nat.le_trans hsec (by decide))
  obtain ⟨ps, hps⟩ : ∃ ps, (bsl.map Wrd.name).zip ls = ps := ⟨_, rfl⟩
  rw [hps]
  have HPS := Lib.hid hps
  have HPL := Lib.hid (show ps.length = n by rw [← hps, List.length_zip, List.length_map, h1.len, h2.len, Nat.min_self])
  have HZL := Lib.hid (show (namesEs sec ps).length ≤ n by
    have a := namesEs_len sec ps
    have := HPL.out
    omega)
  have HWN := Lib.hid (show ∀ t ∈ bsl, t.name.length ≤ 281474976710656 from fun t ht => by
    obtain ⟨k, hk⟩ := List.getElem?_of_mem ht
    obtain ⟨_, _, _, hr⟩ := h1.cells k t hk
    exact hr.short)
  have HEL := Lib.hid (show ∀ x ∈ namesEs sec ps, x.1.1.length ≤ 4611686018427387903 ∧ x.1.2.length ≤ 4611686018427387903 from fun x hx => by
    obtain ⟨p, hp, _, rfl⟩ := namesEs_mem.1 hx
    rw [← hps] at hp
    obtain ⟨t, ht, he⟩ := List.mem_map.1 (List.of_mem_zip hp).1
    have := HWN.out t ht
    exact ⟨by show p.1.length ≤ _; rw [← he]; omega, hsec⟩)
  have HPO := Lib.hid (fun bm W (hG : Grp tHd 3 W bm w.heap.size n (grpOf (namesEs sec ps))) (hsz : w.heap.size ≤ W.heap.size) => postingsP bm w.heap.size n _ W hG hsz hn (fun s => by
    have a := grpOf_len (namesEs sec ps) s
    have b := HZL.out
    omega) (namesEs sec ps) (fun h m => grpOf_mem) HEL.out)
  have HBB := Lib.hid (balloc w (.cells #[.string (bs sec), .slice ax nx cx, .slice ay ny cy, .slice az nz cz] 68))
  have HKB := Lib.hid (BlkK.new w #[.string (bs sec), .slice ax nx cx, .slice ay ny cy, .slice az nz cz] 68)
  clear h1 h2 hok hx hcx hev hsc hps hsec
  obtain ⟨base, hbase⟩ : ∃ b, w.heap.size = b := ⟨_, rfl⟩
  simp only [hbase] at HPO
  have HBS := Lib.hid hbase
  have HK0 := Lib.hid (show BlkK (w.alloc (.cells #[.string (bs sec), .slice ax nx cx, .slice ay ny cy, .slice az nz cz] 68)) base #[.string (bs sec), .slice ax nx cx, .slice ay ny cy, .slice az nz cz] 68 by rw [← hbase]; exact HKB.out)
  clear HKB hbase
  go_enter Tryz.func41, Tryz.ntmps41
  go_wp2_with (fail)
  refine (HC.out _ HBB.out).mono ?_
  rintro e W ⟨rfl, hb⟩
  have HB0 := Lib.hid (show Below base w W by rw [← HBS.out]; exact bstep HBB.out hb)
  have HKW := Lib.hid (HK0.out.below hb)
  have hszW : base ≤ W.heap.size := by have := HB0.out.size; have := HBS.out; omega
  obtain ⟨bm, hbm⟩ : ∃ b, W.heap.size = b := ⟨_, rfl⟩
  have HBM := Lib.hid hbm
  have HG0 := Lib.hid (show Grp tHd 3 (W.alloc (.map #[] 0)) bm base 0 (grpOf (namesEs sec (ps.take 0))) by rw [← hbm]; exact Grp.made W)
  have HB1 := Lib.hid (HB0.out.alloc hszW (.map #[] 0))
  have HKM := Lib.hid (HKW.out.allocK (.map #[] 0))
  have HSW := Lib.hid hszW
  have HN0 := Lib.hid (show some base ≠ some bm by have := HKW.out.lt; intro e; cases e; omega)
  have hmm := @run_makeMap Tryz.prog
  clear hb HC hbm hszW
  go_wp2_with (fail)
  rw [HBM.out]
  clear hmm
  go_loopw [29] (fun iv wr => ∃ i : Nat, i ≤ n ∧ iv = .int .i64 i ∧ Grp tHd 3 wr bm base i (grpOf (namesEs sec (ps.take i))) ∧ Below base w wr ∧ BlkK wr base #[.string (bs sec), .slice ax nx cx, .slice ay ny cy, .slice az nz cz] 68 ∧ scanN (ps.drop i) = scanN ps) (fun iv _ => n - (intOf iv).toNat)
  case atStart => exact ⟨0, Nat.zero_le _, rfl, HG0.out, HB1.out, HKM.out, rfl⟩
  case round =>
    obtain ⟨wi, rfl⟩ : ∃ wi : World, wi = wr := ⟨_, rfl⟩
    obtain ⟨i, hile, rfl, hG, hb, hK, hsn⟩ := hrel
    have HB := Lib.hid hb
    have HG := Lib.hid hG
    have HKI := Lib.hid hK
    have HSC := Lib.hid hsn
    have HSZ := Lib.hid (show base ≤ wi.heap.size by have := hb.size; have := HBS.out; omega)
    by_cases hin : i < n
    · obtain ⟨t, b, off, ht, rfl, hwm⟩ := HX1.out.at hin
      obtain ⟨y, b2, off2, v2, hy, rfl, hcy, rfl, hiy⟩ := Sl.at HX2.out hin
      have HC0 := Lib.hid hcy
      obtain ⟨e0, e1, e2, e3, e4, e5, e6, hshort⟩ := hwm.mono (Nat.le_of_eq HBS.out) hb
      obtain ⟨tx, cl, un, dc, jn, vs, x⟩ := t
      simp only at e0 e1 e2 e3 e4 e5 e6 hshort
      have hpi : ps[i]? = some (x, y) := by rw [← HPS.out]; exact zipn_at ht hy
      have HSN := Lib.hid (namesEs_snoc sec hpi)
      have HSD := Lib.hid (scanN_drop hpi)
      simp only at HSN HSD
      have HCALL := Lib.hid (fun W => nameP x W (by omega))
      have HXL := Lib.hid (show x.length ≤ maxLen from Nat.le_trans hshort (by decide))
      have HIY := Lib.hid hiy
      have HLK := Lib.hid (fun W => checkLine63 y W)
      have i1 : (i : Int) < (n : Int) := by omega
      obtain ⟨X0, hX0⟩ : ∃ X, wi.heap.size = X := ⟨_, rfl⟩
      have hb2 := balloc wi (.cells #[.string (bs tx), .int .i64 cl, .int .i64 un, .int .i64 dc, .bool jn, .bool vs, .string (bs x)] 74)
      have HKX := Lib.hid (show BlkK (wi.alloc (.cells #[.string (bs tx), .int .i64 cl, .int .i64 un, .int .i64 dc, .bool jn, .bool vs, .string (bs x)] 74)) X0 #[.string (bs tx), .int .i64 cl, .int .i64 un, .int .i64 dc, .bool jn, .bool vs, .string (bs x)] 74 by rw [← hX0]; exact BlkK.new _ _ _)
      obtain ⟨w2, hw2⟩ : ∃ W, wi.alloc (.cells #[.string (bs tx), .int .i64 cl, .int .i64 un, .int .i64 dc, .bool jn, .bool vs, .string (bs x)] 74) = W := ⟨_, rfl⟩
      rw [hw2] at hb2 HKX
      have x6 := HKX.out.cell (i := 6) (u := .string (bs x)) rfl
      have HB2 := Lib.hid (HB.out.trans (hb2.mono HSZ.out))
      have HSZ2 := Lib.hid (show base ≤ w2.heap.size by have := hb2.size; have := HSZ.out; omega)
      have HG2 := Lib.hid (HG.out.below hb2)
      have HK2 := Lib.hid (HKI.out.below hb2)
      have s0 : w2.cell? ⟨w.heap.size, 0, none⟩ = some (.string (bs sec)) := by rw [HBS.out]; exact HK2.out.cell (i := 0) (u := .string (bs sec)) rfl
      have HCY := Lib.hid (Go.Ap.cell_kept (Nat.le_of_eq HBS.out) HB.out HC0.out)
      have HCY2 := Lib.hid (cell_keep hb2 HCY.out)
      have y2 := HCY2.out
      clear ht hy hcy hiy hpi hb hG hK hsn hb2 hwm
      by_cases hx0 : x = []
      · have HS2 := Lib.hid (show namesEs sec (ps.take (i + 1)) = namesEs sec (ps.take i) by rw [HSN.out, if_pos hx0, List.append_nil])
        have HD2 := Lib.hid (show scanN (ps.drop i) = if lineOk y = false then 2 else scanN (ps.drop (i + 1)) by rw [HSD.out, if_neg (fun h => h.1 hx0)])
        have n1 : (x == []) = true := by rw [beq_iff_eq]; exact hx0
        have n2 : x.isEmpty = true := by rw [hx0]; rfl
        have n3 : (x != []) = false := by rw [hx0]; rfl
        clear hx0
        cases hlk : lineOk y
        · rw [hlk] at HLK
          have HE := Lib.hid (show scanN ps = 2 by rw [← HSC.out, HD2.out, hlk]; rfl)
          clear hlk
          go_wp2_with (fail)
          refine (HLK.out _).mono ?_
          rintro e w3 ⟨rfl, rfl⟩
          go_wp2_with (fail)
          go_ret2
          rw [HE.out]
          exact WordsA.bad (by decide) (by rw [HBS.out]; exact HB2.out)
        · rw [hlk] at HLK
          have HE := Lib.hid (show scanN (ps.drop (i + 1)) = scanN ps by rw [← HSC.out, HD2.out, hlk]; rfl)
          clear hlk
          go_wp2_with (fail)
          refine (HLK.out _).mono ?_
          rintro e w3 ⟨rfl, rfl⟩
          go_wp2_with (fail)
          exact ⟨⟨i + 1, by omega, by simp, by rw [HS2.out]; exact HG2.out.le (Nat.le_succ i), HB2.out, HK2.out, HE.out⟩, by simp [intOf]; omega⟩
      · have n1 : (x == []) = false := by rw [beq_eq_false_iff_ne]; exact hx0
        have n2 : x.isEmpty = false := by simpa using hx0
        have n3 : (x != []) = true := by rw [bne_iff_ne]; exact hx0
        have HS2 := Lib.hid (show namesEs sec (ps.take (i + 1)) = namesEs sec (ps.take i) ++ [((x, sec), y)] by rw [HSN.out, if_neg hx0])
        cases hnm : nameB x
        · rw [hnm] at HCALL
          have HE := Lib.hid (show scanN ps = 14 by rw [← HSC.out, HSD.out, if_pos ⟨hx0, hnm⟩])
          clear hx0 hnm
          go_wp2_with (fail)
          refine (HCALL.out _).mono ?_
          rintro e w3 ⟨rfl, rfl⟩
          go_wp2_with (fail)
          go_ret2
          rw [HE.out]
          exact WordsA.bad (by decide) (by rw [HBS.out]; exact HB2.out)
        · rw [hnm] at HCALL
          have HD2 := Lib.hid (show scanN (ps.drop i) = if lineOk y = false then 2 else scanN (ps.drop (i + 1)) by rw [HSD.out, if_neg (fun h => by rw [hnm] at h; cases h.2)])
          clear hx0 hnm
          cases hlk : lineOk y
          · rw [hlk] at HLK
            have HE := Lib.hid (show scanN ps = 2 by rw [← HSC.out, HD2.out, hlk]; rfl)
            clear hlk
            go_wp2_with (fail)
            refine (HCALL.out _).mono ?_
            rintro e w3 ⟨rfl, rfl⟩
            go_wp2_with (fail)
            refine (HLK.out _).mono ?_
            rintro e w3 ⟨rfl, rfl⟩
            go_wp2_with (fail)
            go_ret2
            rw [HE.out]
            exact WordsA.bad (by decide) (by rw [HBS.out]; exact HB2.out)
          · rw [hlk] at HLK
            have HE := Lib.hid (show scanN (ps.drop (i + 1)) = scanN ps by rw [← HSC.out, HD2.out, hlk]; rfl)
            clear hlk
            go_wp2_with (fail)
            refine (HCALL.out _).mono ?_
            rintro e w3 ⟨rfl, rfl⟩
            go_wp2_with (fail)
            refine (HLK.out _).mono ?_
            rintro e w3 ⟨rfl, rfl⟩
            obtain ⟨X, hX⟩ : ∃ X, w2.heap.size = X := ⟨_, rfl⟩
            have HA := Lib.hid (balloc w2 (.cells #[.string (bs x), .string (bs sec)] 92))
            have K := Lib.hid (show BlkK (w2.alloc (.cells #[.string (bs x), .string (bs sec)] 92)) X #[.string (bs x), .string (bs sec)] 92 by rw [← hX]; exact BlkK.new w2 _ _)
            have HK0A := Lib.hid (HK2.out.allocK (.cells #[.string (bs x), .string (bs sec)] 92))
            have HBA := Lib.hid (HB2.out.alloc HSZ2.out (.cells #[.string (bs x), .string (bs sec)] 92))
            have HSA := Lib.hid (show base ≤ (w2.alloc (.cells #[.string (bs x), .string (bs sec)] 92)).heap.size by have := HSZ2.out; simp; omega)
            obtain ⟨WA, hWA⟩ : ∃ W, w2.alloc (.cells #[.string (bs x), .string (bs sec)] 92) = W := ⟨_, rfl⟩
            rw [hWA] at HA K HBA HSA HK0A
            have HGA := Lib.hid (HG2.out.below HA.out)
            have HCA := Lib.hid (cell_keep HA.out HCY2.out)
            have HNE := Lib.hid (HGA.out.ne K.out)
            go_wp2_with (fail)
            clear s0 x6 y2
            refine (wpIn_wide (n := 20)).1 ?_
            refine wpIn_region_planN (fun W' => BlkK W' X #[.string (bs x), .string (bs sec)] 92 ∧ W'.cell? ⟨b2, off2 + i, none⟩ = some (.int .i64 y)) (.take 0 <| .take 1 <| .take 2 <| .take 3 <| .take 4 <| .take 5 <| .one 6 <| .one 7 <| .take 8 <| .take 10 <| .one 9 <| .one 11 <| .fin) (fun _ => trivial) (by kernel_rfl) (by kernel_rfl) ⟨K.out.below (bdrewN _ 1), HCA.out⟩ ?_
            apply plan_take rfl rfl (by rfl)
            case hy =>
              rintro W' hb'
              clear hb'
              go_simp
              first | done | with_reducible rfl
            simp only [List.setIfInBounds_toArray, List.set_cons_zero, List.set_cons_succ]
            apply plan_take rfl rfl (by rfl)
            case hy =>
              rintro W' hb'
              have x0 : W'.cell? ⟨X, 0, none⟩ = some (.string (bs x)) := hb'.1.cell (i := 0) rfl
              have x1 : W'.cell? ⟨X, 1, none⟩ = some (.string (bs sec)) := hb'.1.cell (i := 1) rfl
              clear hb'
              go_simp
              first | done | with_reducible rfl
            simp only [List.setIfInBounds_toArray, List.set_cons_zero, List.set_cons_succ]
            apply plan_take rfl rfl (by rfl)
            case hy =>
              rintro W' hb'
              clear hb'
              go_simp
              first | done | with_reducible rfl
            simp only [List.setIfInBounds_toArray, List.set_cons_zero, List.set_cons_succ]
            apply plan_take rfl rfl (by rfl)
            case hy =>
              rintro W' hb'
              clear hb'
              go_simp
              first | done | with_reducible rfl
            simp only [List.setIfInBounds_toArray, List.set_cons_zero, List.set_cons_succ]
            apply plan_take rfl rfl (by rfl)
            case hy =>
              rintro W' hb'
              clear hb'
              go_simp
              first | done | with_reducible rfl
            simp only [List.setIfInBounds_toArray, List.set_cons_zero, List.set_cons_succ]
            apply plan_take rfl rfl (by rfl)
            case hy =>
              rintro W' hb'
              have x2 := hb'.2
              clear hb'
              go_simp
              first | done | with_reducible rfl
            simp only [List.setIfInBounds_toArray, List.set_cons_zero, List.set_cons_succ]
            have HK0B := Lib.hid (HK0A.out.allocK (.cells #[.int .i64 y] 3))
            have HCW := Lib.hid (show w.cell? ⟨b2, off2 + i, none⟩ = some (.int .i64 y) from HC0.out)
            have HBB := Lib.hid (below_drew (HBA.out.alloc HSA.out (.cells #[.int .i64 y] 3)))
            have HGB := Lib.hid (HGA.out.below (balloc WA (.cells #[.int .i64 y] 3)))
            have HKB := Lib.hid (K.out.allocK (.cells #[.int .i64 y] 3))
            have HNB := Lib.hid (show BlkK (WA.alloc (.cells #[.int .i64 y] 3)) WA.heap.size #[.int .i64 y] 3 from BlkK.new _ _ _)
            refine plan_one rfl ?_
            gi_wp2_with (fail)
            refine ⟨⟨HKB.out, Go.Ap.cell_kept (Nat.le_of_eq HBS.out) HBB.out HCW.out⟩, ?_⟩
            obtain ⟨V, hV⟩ : ∃ V, WA.heap.size = V := ⟨_, rfl⟩
            rw [hV] at HNB
            have hVB : base ≤ V := by rw [← hV]; exact HSA.out
            have hbV : bm < V := by rw [← hV]; exact HGA.out.lt
            obtain ⟨WB, hWB⟩ : ∃ W, (WA.alloc (.cells #[.int .i64 y] 3)).drew = W := ⟨_, rfl⟩
            replace HBB := Lib.hid (show Below base w WB by rw [← hWB]; exact HBB.out)
            replace HGB := Lib.hid (show Grp tHd 3 WB bm base i (grpOf (namesEs sec (ps.take i))) by rw [← hWB]; exact HGB.out)
            replace HK0B := Lib.hid (show BlkK WB base #[.string (bs sec), .slice ax nx cx, .slice ay ny cy, .slice az nz cz] 68 by rw [← hWB]; exact HK0B.out)
            replace HKB := Lib.hid (show BlkK WB X #[.string (bs x), .string (bs sec)] 92 by rw [← hWB]; exact HKB.out)
            replace HNB := Lib.hid (show BlkK WB V #[.int .i64 y] 3 by rw [← hWB]; exact HNB.out)
            have HVB := Lib.hid hVB
            have HbV := Lib.hid hbV
            rw [hV, hWB]
            clear hWB hV hVB hbV
            obtain ⟨u, w1, st, o1, hme, hou, hg1, ho1, hoc1, _, hst⟩ := Grp.entry (s := (x, sec)) rfl HGB.out (by unfold maxLen; omega) ⟨HXL.out, HSL.out⟩
            replace hme : (Instr.mapEntry 90 (.map (some bm)) (.agg #[.string (bs x), .string (bs sec)])).run Tryz.prog WB = .ok (.tuple #[u, st]) w1 := hme
            have HBM1 := Lib.hid (show base ≤ bm by have := HSW.out; have := HBM.out; omega)
            have hszB := HBB.out.size
            have HB3 := Lib.hid (HBB.out.grown hg1 (by have := HBS.out; omega) fun k hk => by cases hk; exact HBM1.out)
            have HK03 := Lib.hid (HK0B.out.keptE hg1 HN0.out)
            have HK3 := Lib.hid (HKB.out.keptE hg1 HNE.out)
            have HN3 := Lib.hid (HNB.out.keptE hg1 (by have := HbV.out; simp; omega))
            have HOU := Lib.hid hou
            have HO1 := Lib.hid ho1
            have HOC := Lib.hid hoc1
            have HST := Lib.hid hst
            have HS3 := Lib.hid (show base ≤ w1.heap.size by have := HB3.out.size; have := HBS.out; omega)
            have HGL := Lib.hid (show (grpOf (namesEs sec (ps.take i)) (x, sec)).length ≤ 4096 by
              have a := grpOf_len (namesEs sec (ps.take i)) (x, sec)
              have b := namesEs_len sec (ps.take i)
              rw [List.length_take] at b
              omega)
            clear hou hg1 ho1 hoc1 hst hszB
            refine plan_one rfl ?_
            gi_wp2_with (fail)
            refine ⟨⟨HK3.out, Go.Ap.cell_kept (Nat.le_of_eq HBS.out) HB3.out HCW.out⟩, ?_⟩
            clear hme
            apply plan_take rfl rfl (by rfl)
            case hy =>
              rintro W' hb'
              clear hb'
              go_simp
              first | done | with_reducible rfl
            simp only [List.setIfInBounds_toArray, List.set_cons_zero, List.set_cons_succ]
            apply plan_take rfl rfl (by rfl)
            case hy =>
              rintro W' hb'
              clear hb'
              go_simp
              first | done | with_reducible rfl
            simp only [List.setIfInBounds_toArray, List.set_cons_zero, List.set_cons_succ]
            have HNW := Lib.hid (show ∀ (j : Nat) (u : Value), [.int .i64 y][j]? = some u → w1.cell? ((⟨V, 0, none⟩ : Addr).add j) = some u from World.news_of_block (cs := #[.int .i64 y]) HN3.out)
            refine plan_one rfl ?_
            refine wpListIn_append_own_at _ rfl _ _ 26 rfl base 3 i0 (.int .i64 0) 1 8 Tryz.underlying26 hi hz0 hz1 hz2 rfl (by decide) u _ _ rfl HOU.out.1 ⟨V, 0, none⟩ 1 1 [.int .i64 y] rfl rfl HNW.out (by simp [Value.oneCell']) (by have := HGL.out; unfold maxLen; omega) (by have := HGL.out; omega) HS3.out ?_
            intro v' w9 hown' hgr' _ hat
            have hv9 : OwnI 3 w9 base v' (grpOf (namesEs sec (ps.take i)) (x, sec) ++ [y]) := HOU.out.push1 HIY.out hown'
            obtain ⟨w4, hes, hG4, hg4⟩ := HST.out w9 v' _ ((hgr'.block bm (by have := HO1.out; exact (Array.getElem?_eq_some_iff.1 this).1) (fun e => (own_not HOU.out.1 HO1.out HOC.out).elim (fun h => by rw [h] at e; cases e) (fun h => h e.symm))).trans HO1.out) hgr' hv9 (by simp) (hat.imp id fun h => ⟨_, Nat.le_refl _, h⟩)
            rw [grpOf_add _ _ [y]] at hG4
            have HB9 := Lib.hid (HB3.out.grown hgr' HS3.out fun k hk => (HOU.out.1.lt k hk).1)
            have HK09 := Lib.hid (HK03.out.keptE hgr' (HK03.out.apart HOU.out.1 (by decide)))
            have HK9 := Lib.hid (HK3.out.keptE hgr' (HK3.out.apart HOU.out.1 (by decide)))
            have HS9 := Lib.hid (show base ≤ w9.heap.size by have := HB9.out.size; have := HBS.out; omega)
            have HB10 := Lib.hid (HB9.out.grown hg4 HS9.out fun k hk => by cases hk; exact HBM1.out)
            have HK010 := Lib.hid (HK09.out.keptE hg4 HN0.out)
            have HK10 := Lib.hid (HK9.out.keptE hg4 HNE.out)
            have HG10 := Lib.hid (show Grp tHd 3 w4 bm base (i + 1) (grpOf (namesEs sec (ps.take (i + 1)))) by rw [HS2.out]; exact hG4)
            clear hown' hgr' hat hv9 hG4 hg4
            rw [put_some (d := 66) rfl]
            simp only [List.setIfInBounds_toArray, List.set_cons_zero, List.set_cons_succ]
            gi_wp2_with (fail)
            refine ⟨⟨HK9.out, Go.Ap.cell_kept (Nat.le_of_eq HBS.out) HB9.out HCW.out⟩, ?_⟩
            refine plan_one rfl ?_
            gi_wp2_with (fail)
            refine ⟨⟨HK10.out, Go.Ap.cell_kept (Nat.le_of_eq HBS.out) HB10.out HCW.out⟩, ?_⟩
            clear hes
            refine plan_fin ?_
            gi_wp2_with (fail)
            go_wp2_with (fail)
            go_roundw
            case rel => exact ⟨i + 1, by omega, by simp, HG10.out, HB10.out, HK010.out, HE.out⟩
            case measure => simp [intOf]; omega
    · obtain rfl : n = i := by omega
      have HG1 := Lib.hid (show Grp tHd 3 wi bm base n (grpOf (namesEs sec ps)) by
        have := HG.out
        rw [List.take_of_length_le (Nat.le_of_eq HPL.out)] at this
        exact this)
      have HE := Lib.hid (show scanN ps = 0 by rw [← HSC.out, List.drop_of_length_le (Nat.le_of_eq HPL.out)]; rfl)
      have HCQ := Lib.hid (HPO.out bm wi HG1.out HSZ.out)
      clear hG hb hK hsn
      go_wp2_with (fail)
      refine HCQ.out.mono ?_
      rintro e w2 ⟨⟨u, rfl, hu⟩, hb2⟩
      have HU := Lib.hid hu
      have HB2 := Lib.hid hb2
      clear hu hb2
      go_wp2_with (fail)
      go_ret2
      rw [HE.out]
      exact ⟨u, rfl, fun _ => HU.out, fun h => absurd rfl h, by rw [HBS.out]; exact HB.out.trans HB2.out⟩
theorem namesP (x : Coll) (ax : Option Addr) (nx cx : Nat) (ay : Option Addr) (ny cy : Nat) (az : Option Addr) (nz cz : Nat) (bsl : List Wrd) (ls : List Int) (a1 : Option Addr) (n1 c1 : Nat) (a2 : Option Addr) (n2 c2 : Nat) (w : World) (hx : CollM w ax ay az nx ny nz x) (hcx : nx ≤ cx) (hev : EV w)
    (h1 : Wrds w a1 n1 bsl) (h2 : Ints w a2 n2 ls) :
    Calls Tryz.prog 41 #[collV x.sec ax nx cx ay ny cy az nz cz, .slice a1 n1 c1, .slice a2 n2 c2] w fun e w' => WordsA e w w' (namesC (collC x) n1 n2 ((bsl.map Wrd.name).zip ls)) (idxM mkB (namesEs x.sec ((bsl.map Wrd.name).zip ls))) := by
  by_cases hbad : collC x ≠ 0 ∨ 4096 < n1 ∨ n2 ≠ n1
  · exact namesBad x ax nx cx ay ny cy az nz cz a1 n1 c1 a2 n2 c2 w hx hcx hev _ hbad _
  · have g0 : collC x = 0 := Classical.byContradiction fun h => hbad (.inl h)
    have g1 : ¬4096 < n1 := fun h => hbad (.inr (.inl h))
    obtain rfl : n2 = n1 := Classical.byContradiction fun h => hbad (.inr (.inr h))
    have hc : namesC (collC x) n2 n2 ((bsl.map Wrd.name).zip ls) = scanN ((bsl.map Wrd.name).zip ls) := by
      unfold namesC
      rw [if_neg (by simp [g0]), if_neg g1, if_neg (by simp)]
    rw [hc]
    exact namesOk x ax nx cx ay ny cy az nz cz bsl ls a1 n2 c1 a2 c2 w hx hcx hev h1 h2 (by omega) g0
end Go.Proofs.YtngdmpkoedpgdaaGreatDoor
