/-
  Blocks and Distance of the program.
-/
import Derived.Test.YtbahddjbncinbaaGreatDoorBk
import Derived.RangeFuncNested
namespace Go.Ap
open Go Go.RowKit
def blkC (c : Blk) : List Value := [.int .i64 c.fst, .int .i64 c.snd, .int .i64 c.len]
/-- blocks in a slice of the call's own -/
def OwnB (w : World) (base : Nat) (v : Value) (bs : List Blk) : Prop := w.ownsRow base 54 3 v bs.length (bs.flatMap blkC)
/-- what Blocks answers -/
def bksE (xs ys : List Tok) : List Blk := blkF (outL (prsE xs ys))
def GivesB (w : World) (bs : List Blk) (er : Int) (e : Ending) (w' : World) : Prop := ∃ v, e = .returned (.tuple #[v, .int .i64 er]) ∧ OwnB w' w.heap.size v bs ∧ Below w.heap.size w w'
theorem wpIn_name {F : Fence} {n : Nat} {P : Program} {Q : Exit → Act → World → Prop} {c : Code} {a : Act} {w : World} (h : ∀ A, A = a → c.wpIn F n P Q A w) : c.wpIn F n P Q a w := h a rfl
theorem prsE_lt {xs ys : List Tok} {p : Nat × Nat} (h : p ∈ prsE xs ys) : p.1 ≤ 1024 ∧ p.2 ≤ 1024 := by
  unfold prsE at h
  split at h
  · rename_i hk
    obtain ⟨h1, h2, _, _⟩ := chkT_zero hk
    have := pair_lt (show (p.1, p.2) ∈ _ from h)
    rw [keysT_len, keysT_len] at this
    omega
  · simp at h
theorem out_lt {xs ys : List Tok} {p : Nat × Nat} (h : p ∈ outL (prsE xs ys)) : p.1 ≤ 1024 ∧ p.2 ≤ 1024 := prsE_lt ((selF_sub _ 0).subset h)
theorem out_len_le (xs ys : List Tok) : (outL (prsE xs ys)).length ≤ 1024 := by
  have := in_out_len (prsE xs ys)
  have := @prsE_len xs ys
  omega
end Go.Ap
namespace Go.Proofs.YtbahddjbncinbaaGreatDoor
open Go.RowKit Go.Ap Go.Shelf Go.Proofs

attribute [local go_sem] Oper.semAt_some bs_toList empty_toList bs_size bs_extract
theorem blocks65 (a : Option Addr) (n c : Nat) (w : World) :
    Calls Tryz.prog 65 #[.slice a n c] w fun e w' => e = .returned (.func (.func 89) #[] #[.pointer (some ⟨w.heap.size, 0, none⟩)]) ∧ w' = w.alloc (.cells #[.slice a n c] 25) := by
  go_enter Tryz.func65, Tryz.ntmps65
  go_wp2
  go_ret
  exact ⟨rfl, rfl⟩
theorem blocks_stops (l : List (Nat × Nat)) (a : Option Addr) (n c : Nat) (w w0 : World) (hn : n ≤ 1024) (hsm : ∀ p ∈ l, p.1 ≤ 1024 ∧ p.2 ≤ 1024) (hx : Rows2 w0 a n (rowsP l)) (Bx : Nat) (hb0 : Below w0.heap.size w0 w) (hBx : Bx < w.heap.size)
    (hbx : w.cell? ⟨Bx, 0, none⟩ = some (.slice a n c)) (m : Nat) (hm : 1 ≤ m) :
    SeqStopsK Fence.wide m Tryz.prog 89 #[.pointer (some ⟨Bx, 0, none⟩)] (fun r : Blk => #[blkV r]) (KeepR w0.heap.size Bx Bx) (fun ys => ys = blkF l) (fun pre => pre <+: blkF l) (blkF l).length w :=
  fun lp J Jx W hW hJ _ hY h0 => blocks_it Fence.wide rfl m hm lp Bx w0.heap.size l a n c J Jx hn hsm (fun pre r W h1 h2 => hY pre r W h1 h2) W w0 rfl (Nat.le_trans hb0.size hW.size) (Nat.lt_of_lt_of_le hBx hW.size) (hb0.trans (hW.mono hb0.size)) hx hJ (cell_keep hW hbx) h0
set_option maxRecDepth 100000 in
set_option maxHeartbeats 8000000 in
theorem blocksOk (xs ys : List Tok) (a1 : Option Addr) (n1 c1 : Nat) (a2 : Option Addr) (n2 c2 : Nat) (w : World) (h1 : Toks w a1 n1 xs) (h2 : Toks w a2 n2 ys) (hv : EV w) (hk : chkT xs ys = 0) :
    CallsIn Fence.wide 10 Tryz.prog 32 #[.slice a1 n1 c1, .slice a2 n2 c2] w (GivesB w (bksE xs ys) 0) := by
  obtain ⟨i0, hi0, hz0, hz1, hz2⟩ := info_parts infoBk
  obtain ⟨g1, g2, g3, g4⟩ := chkT_zero hk
  have HC := Lib.hid (checkP xs ys a1 n1 c1 a2 n2 c2 w h1 h2 hv)
  rw [hk] at HC
  have HP := Lib.hid (fun W (hb : Below w.heap.size w W) => pairsP xs ys a1 n1 c1 a2 n2 c2 W (Toks.mono h1 (Nat.le_refl _) hb) (Toks.mono h2 (Nat.le_refl _) hb) (fun t ht => tok_flags (g3 t ht)) (fun t ht => tok_flags (g4 t ht)) (by have := h1.len; omega) (by have := h2.len; omega))
  have HE := Lib.hid (show prsE xs ys = pairsL (keysT xs) (keysT ys) by unfold prsE; rw [if_pos hk])
  have hpl := @prsE_len xs ys
  have HOL := Lib.hid (fun p (h : p ∈ outL (prsE xs ys)) => out_lt h)
  have hol := out_len_le xs ys
  have HCE := Lib.hid (show bksE xs ys = blkF (outL (prsE xs ys)) from rfl)
  obtain ⟨l, hll⟩ : ∃ l, prsE xs ys = l := ⟨_, rfl⟩
  rw [hll] at HE hpl HCE HOL hol
  rw [← HE.out] at HP
  rw [HCE.out]
  have hbc := blkF_count (outL l)
  have eg := enters_of Tryz.func89 (by kernel_rfl) rfl
  have hF1 : Fence.wide.fn 50 := trivial
  have hF2 : Fence.wide.fn 51 := trivial
  have hF3 : Fence.wide.fn 54 := trivial
  have hF4 : Fence.wide.fn 65 := trivial
  clear h1 h2 hv hk g1 g2 g3 g4 hll
  unfold GivesB
  refine callsIn_of_wp_marks Tryz.func32 rfl trivial ?_ rfl
  simp only [Tryz.ntmps32, List.size_toArray, List.length_cons, List.length_nil, Nat.reduceAdd, Nat.reduceSub, Array.replicate_succ, Array.replicate_zero, List.push_toArray, List.append_toArray, List.nil_append, List.cons_append]
  gi_wp2_with (fail)
  refine (callsIn_wide.2 HC.out).mono ?_
  rintro e wa ⟨rfl, hba⟩
  have HBA := Lib.hid hba
  clear hba
  gi_wp2_with (fail)
  refine (callsIn_wide.2 (HP.out _ HBA.out)).mono ?_
  rintro e wb ⟨v, rfl, ho, hb⟩
  obtain ⟨ap, kp, rfl, hr⟩ := ho.rows (by rw [rowsP_len]; omega) rows_two
  rw [rowsP_len] at hr ⊢
  have HCH := Lib.hid (chainP l ap l.length kp wb hr hpl)
  have HB := Lib.hid (bstep HBA.out hb)
  clear ho hb hr
  gi_wp2_with (fail)
  refine (callsIn_wide.2 HCH.out).mono ?_
  rintro e wc ⟨v1, v2, rfl, hch, hb⟩
  obtain ⟨ao, ko, rfl, hro⟩ := hch.2.1.rows hb (by rw [rowsP_len]; omega)
  rw [rowsP_len] at hro ⊢
  have HRO := Lib.hid hro
  have HB2 := Lib.hid (bstep HB.out hb)
  obtain ⟨n, hn⟩ : ∃ n, (outL l).length = n := ⟨_, rfl⟩
  rw [hn] at HRO hol hbc ⊢
  have hsc := HB2.out.size
  clear hch hb hro hn
  gi_wp2_with (fail)
  refine (callsIn_wide.2 (blocks65 ao n ko _)).mono ?_
  rintro e wd ⟨rfl, hwd⟩
  obtain ⟨S, hS⟩ : ∃ S, wc.heap.size = S := ⟨_, rfl⟩
  simp only [World.size_alloc] at hwd ⊢
  have bO := Boxed.new wc 46 (.slice none 0 0)
  have kb1 := balloc wc (.cells #[.slice none 0 0] 46)
  have kb2 := balloc (wc.alloc (.cells #[.slice none 0 0] 46)) (.cells #[.slice ao n ko] 25)
  rw [← hwd] at kb2
  have hws : wd.heap.size = S + 2 := by rw [hwd]; simp [hS]
  have HBX := Lib.hid (show wd.cell? ⟨S + 1, 0, none⟩ = some (.slice ao n ko) by
    have := World.alloc_heap_new (wc.alloc (.cells #[.slice none 0 0] 46)) (.cells #[.slice ao n ko] 25)
    rw [World.size_alloc, hS, ← hwd] at this
    exact blk_cell this rfl)
  have HBC := Lib.hid (show Below wc.heap.size wc wd from bstep kb1 kb2)
  have HBO := Lib.hid (show Boxed wd S 46 (.slice none 0 0) by have := boxed_below bO kb2; rwa [hS] at this)
  have HSQ := Lib.hid (fun m hm => blocks_stops (outL l) ao n ko wd wc (by omega) HOL.out HRO.out (S + 1) HBC.out (by omega) HBX.out m hm)
  have HSS := Lib.hid hS
  rw [hS]
  clear kb1 kb2 bO hwd
  gi_wp2_with (fail)
  refine wpIn_name ?_
  intro A hA
  refine wpIn_rangeFunc_ownH (F := Fence.wide) rfl (by omega) (gf := 89) (by rw [hA]; rfl) trivial eg
    (HSQ.out _ (by omega)) KeepR.trans (keepR_b (w := wd) (by omega) (by omega) (by omega)) (Below.refl _ _) (fun _ => rfl)
    (fun (pre : List Blk) W => ((∃ v, Boxed W S 46 v ∧ W.ownsRow (S + 2) 54 3 v pre.length (pre.flatMap blkC) ∧ True) ∧ Below wc.heap.size wc W) ∧ wd.heap.size ≤ W.heap.size)
    (fun _ _ _ => False)
    (OwnFrom.and (OwnFrom.and (Own.from (holdsRow_own (S + 2) S 46 54 3 (fun pre : List Blk => pre.length) (fun pre : List Blk => pre.flatMap blkC) (fun _ _ => True)) _) (ownFrom_below (Nat.le_refl _) (by omega))) (fun _ _ _ _ hs hg _ => Nat.le_trans hs hg.size))
    (fun _ _ _ _ _ hs _ _ => hs)
    ⟨⟨⟨_, HBO.out, World.ownsRow_nil _ _ _ _, trivial⟩, HBC.out⟩, Nat.le_refl _⟩
    (fun (r : Blk) a' W => ∃ B8, a' = { tmps := (A.tmps.setIfInBounds 26 (blkV r)).setIfInBounds 10 (.pointer (some ⟨B8, 0, none⟩)), defers := [] } ∧ BlkK W B8 (blkC r).toArray 54)
    (fun r a' _ X Y row h hg hr => by obtain ⟨B8, e, h1⟩ := h; exact ⟨B8, e, h1.keptN hg (fun r he => (hr r he).2)⟩) ?assign ?body ?done ?stop
  case assign =>
    rintro lp pre r W K ⟨⟨⟨v, hv, hrow, -⟩, hB⟩, hsz⟩ hK
    have HK := Lib.hid hK
    subst hA
    unfold blkV
    gi_wp2_with (fail)
    have b1 := balloc W (.cells #[.int .i64 r.fst, .int .i64 r.snd, .int .i64 r.len] 54)
    exact HK.out _ _ ((KeepsOthers.of_grownBy (show W.grownBy _ none from ⟨b1.os, b1.tape, b1.output, b1.size, fun k hk _ => b1.block k hk⟩) (by simp)).from _) (KeepR.of_below b1 (by omega) (by omega) (by omega)) ⟨⟨⟨v, boxed_below hv b1, owns_below hrow b1, trivial⟩, bstep hB b1⟩, Nat.le_trans hsz b1.size⟩ ⟨W.heap.size, rfl, BlkK.new W _ _⟩
  case body =>
    rintro lp pre r a' W hlw hlr ⟨⟨⟨v, hv, hrow, -⟩, hB⟩, hsz⟩ ⟨B8, rfl, h8⟩ hlt
    have HB3 := Lib.hid hB
    have HV := Lib.hid hv
    have HROW := Lib.hid hrow
    have hc := hv.cell
    have k0 := h8.cell (i := 0) (u := .int .i64 r.fst) rfl
    have k1 := h8.cell (i := 1) (u := .int .i64 r.snd) rfl
    have k2 := h8.cell (i := 2) (u := .int .i64 r.len) rfl
    subst hA
    unfold blkV
    simp only [List.setIfInBounds_toArray, List.set_cons_zero, List.set_cons_succ]
    have HNW := Lib.hid (show ∀ (j : Nat) (u : Value), [.int .i64 r.fst, .int .i64 r.snd, .int .i64 r.len][j]? = some u → (W.alloc (.cells #[.int .i64 r.fst, .int .i64 r.snd, .int .i64 r.len] 54)).cell? ((⟨W.heap.size, 0, none⟩ : Addr).add j) = some u from World.news_of_block (cs := #[.int .i64 r.fst, .int .i64 r.snd, .int .i64 r.len]) (heap_fresh rfl))
    clear hB hrow hlr h8
    gi_wp2_with (gi_at_builtin; refine wpListIn_append_own _ rfl _ _ 46 rfl (S + 2) 54 i0 (.agg #[.int .i64 0, .int .i64 0, .int .i64 0]) 3 24 Tryz.underlying46 hi0 hz0 hz1 hz2 rfl (by decide) _ _ _ rfl (HROW.out.alloc _) ⟨W.heap.size, 0, none⟩ 1 1 [.int .i64 r.fst, .int .i64 r.snd, .int .i64 r.len] rfl rfl HNW.out (by simp [Value.oneCell']) (by unfold maxLen; omega) (by omega) (by simp; omega) ?_; intro v' w1 hown' hgrow _; obtain ⟨g', cap', rfl⟩ := ownsRow_succ hown'; obtain ⟨hv1, hv2, -, hk2, hb2⟩ := hv.appended (n₀ := S) (by decide) (owns_mono HROW.out (by omega)) (by omega) (Nat.le_refl _) (owns_mono hown' (by omega)) hgrow; have hc1 := hv1.cell; have hf1 := hv1.frozen)
    have HK2 := Lib.hid hk2
    have HB4 := Lib.hid hb2
    have hrow2 := hown'.kept (grownBy_setCell' w1 S (.slice (some ⟨g', 0, none⟩) (pre.length + 1) cap')) (.inr (hv1.not_row (by decide) hown').symm)
    refine ⟨HK2.out.from _, ⟨HB4.out.os, HB4.out.tape, HB4.out.output, HB4.out.size, fun k hk => ?_⟩, ⟨⟨_, hv2, ?_, trivial⟩, HB3.out.trans (HB4.out.mono (Nat.le_of_eq HSS.out))⟩, Nat.le_trans hsz HB4.out.size⟩
    · rcases Nat.lt_or_ge k S with hkS | hkS
      · exact HB4.out.block k hkS
      · have hk3 : k = S + 1 := by have := HSS.out; omega
        subst hk3
        refine (Below.heap_setCell _ _ _ (S + 1) (by simp)).trans ((hgrow.block (S + 1) (by simp; omega) (fun e => ?_)).trans (Below.heap_alloc _ _ _ (by omega)))
        have := (HROW.out.lt _ e.symm).1
        omega
    · simpa [blkC] using hrow2
  case done =>
    rintro D bs W hD rfl ⟨⟨⟨v, hv, hrow, -⟩, hB⟩, hsz⟩ hK
    have HROW := Lib.hid hrow
    have HB3 := Lib.hid hB
    have hK2 := hK
    have hc := hv.cell
    subst hA
    clear hv hrow hB
    gi_wp2_with (fail)
    refine ⟨by simp, .inl ⟨_, _, rfl, run_takeDeferred hK, ?_⟩⟩
    refine ⟨.tuple #[v, .int .i64 0], by simp [results, Tryz.f32, go_sem], v, rfl, owns_mono (ownsRow_putObj HROW.out _ hK2 rfl) (by have := HSS.out; omega), bstep HB2.out ((HB3.out).trans (belowK_b (w := wc) (Nat.le_refl _) W D _ _ (by have := HSS.out; omega) hK2 rfl rfl))⟩
  case stop =>
    rintro D c pre W _ _ h _
    exact h.elim
set_option maxHeartbeats 4000000 in
theorem BlocksP (xs ys : List Tok) (a1 : Option Addr) (n1 c1 : Nat) (a2 : Option Addr) (n2 c2 : Nat) (w : World) (h1 : Toks w a1 n1 xs) (h2 : Toks w a2 n2 ys) (hv : EV w) :
    Calls Tryz.prog 32 #[.slice a1 n1 c1, .slice a2 n2 c2] w (GivesB w (bksE xs ys) (chkT xs ys)) := by
  by_cases hk : chkT xs ys = 0
  · rw [hk]
    exact callsIn_wide.1 (blocksOk xs ys a1 n1 c1 a2 n2 c2 w h1 h2 hv hk)
  · have HC := Lib.hid (checkP xs ys a1 n1 c1 a2 n2 c2 w h1 h2 hv)
    have HE := Lib.hid (show bksE xs ys = [] by unfold bksE prsE; rw [if_neg hk]; rfl)
    have dn : (chkT xs ys != 0) = true := by simpa using hk
    obtain ⟨k, hk2⟩ : ∃ k, chkT xs ys = k := ⟨_, rfl⟩
    rw [hk2] at HC dn ⊢
    rw [HE.out]
    clear h1 h2 hv hk hk2
    unfold GivesB
    go_enter Tryz.func32, Tryz.ntmps32
    go_wp2_with (fail)
    refine HC.out.mono ?_
    rintro e wa ⟨rfl, hba⟩
    have HBA := Lib.hid hba
    clear hba
    go_wp2_with (fail)
    go_ret2
    exact ⟨_, rfl, World.ownsRow_nil _ _ _ _, HBA.out⟩
theorem ownB_slice {w : World} {base : Nat} {v : Value} {bs : List Blk} (h : OwnB w base v bs) : ∃ a c, v = .slice a bs.length c := by
  rcases h.2 with ⟨rfl, h0⟩ | ⟨g, cap, cur, rfl, _⟩
  · exact ⟨none, 0, by rw [h0]⟩
  · exact ⟨_, _, rfl⟩
set_option maxHeartbeats 4000000 in
theorem DistanceP (xs ys : List Tok) (a1 : Option Addr) (n1 c1 : Nat) (a2 : Option Addr) (n2 c2 : Nat) (w : World) (h1 : Toks w a1 n1 xs) (h2 : Toks w a2 n2 ys) (hv : EV w) :
    Calls Tryz.prog 27 #[.slice a1 n1 c1, .slice a2 n2 c2] w fun e w' => e = .returned (.tuple #[.int .i64 ((bksE xs ys).length : Int), .int .i64 (chkT xs ys)]) ∧ Below w.heap.size w w' := by
  have HB := Lib.hid (BlocksP xs ys a1 n1 c1 a2 n2 c2 w h1 h2 hv)
  clear h1 h2 hv
  go_enter Tryz.func27, Tryz.ntmps27
  go_wp2_with (fail)
  refine HB.out.mono ?_
  rintro e w1 ⟨v, rfl, ho, hb⟩
  obtain ⟨a, c, rfl⟩ := ownB_slice ho
  clear ho
  go_wp2_with (fail)
  go_ret2
  exact ⟨rfl, hb⟩
end Go.Proofs.YtbahddjbncinbaaGreatDoor
