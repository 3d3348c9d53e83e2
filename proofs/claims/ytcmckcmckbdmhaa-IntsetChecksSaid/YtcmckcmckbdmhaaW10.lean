import Derived.Test.YtcmckcmckbdmhaaW9
namespace Go.Proofs.Ytcmckcmckbdmhaa
open Go.RowKit Go.Ap Go.Shelf

/-- 'choose', by one more index at each level: over the places from i on -/
def chooseG (bs : List Nat) (want : Nat) (go : Nat → Nat → Option (List Int)) (hv : Nat) : Nat → Nat → Option (List Int)
  | 0, _ => none
  | f + 1, i => if andNotN (bs.getD i 0) want = 0 then (match go (i + 1) (hv ||| bs.getD i 0) with | some l => some ((i : Int) :: l) | none => chooseG bs want go hv f (i + 1)) else chooseG bs want go hv f (i + 1)
def chooseL (bs : List Nat) (want : Nat) : Nat → Nat → Nat → Option (List Int)
  | 0, _, hv => if hv = want then some [] else none
  | l + 1, i, hv => chooseG bs want (chooseL bs want l) hv (bs.length - i) i

def fv56 (Bw Bs Bc Bch : Nat) : Value := .func (.func 56) #[] #[.pointer (some ⟨Bw, 0, none⟩), .pointer (some ⟨Bs, 0, none⟩), .pointer (some ⟨Bc, 0, none⟩), .pointer (some ⟨Bch, 0, none⟩)]

/-- what lies in memory while indices are chosen -/
structure ChSt (w : World) (Bw Bs : Nat) (W : World) (ch : List Int) : Prop where
  box : ∃ v, Boxed W w.heap.size 22 v ∧ W.ownsRow w.heap.size 3 1 v ch.length (ch.map (Value.int .i64))
  fn : Boxed W (w.heap.size + 1) 61 (fv56 Bw Bs w.heap.size (w.heap.size + 1))
  below : Below w.heap.size w W

def ChPost (w : World) (Bw Bs : Nat) (ch : List Int) (r : Option (List Int)) (e : Ending) (W' : World) : Prop :=
  match r with
  | some l => e = .returned (.bool true) ∧ ChSt w Bw Bs W' (ch ++ l)
  | none => e = .returned (.bool false) ∧ ChSt w Bw Bs W' ch

theorem ChSt.pushed {w W w1 : World} {Bw Bs : Nat} {ch : List Int} {v v' : Value} {x : Int} {tmp : Obj} (h : ChSt w Bw Bs W ch) (hv : Boxed W w.heap.size 22 v) (hrow : W.ownsRow w.heap.size 3 1 v ch.length (ch.map (Value.int .i64)))
    (hown' : w1.ownsRow w.heap.size 3 1 v' (ch.length + 1) (ch.map (Value.int .i64) ++ [.int .i64 x])) (hgrow : (W.alloc tmp).grownBy w1 v.ownBlock) :
    Boxed w1 w.heap.size 22 v ∧ ChSt w Bw Bs (w1.setCell ⟨w.heap.size, 0, none⟩ v') (ch ++ [x]) := by
  obtain ⟨hv1, hv2, hr2, _, hb2⟩ := hv.appended (by decide) hrow h.below.size (Nat.le_refl _) hown' hgrow
  have hf1 : Boxed w1 (w.heap.size + 1) 61 (fv56 Bw Bs w.heap.size (w.heap.size + 1)) := (h.fn.alloc tmp).kept hgrow (h.fn.not_row (by decide) hrow)
  refine ⟨hv1, ⟨⟨v', hv2, by simpa using hr2⟩, hf1.kept (grownBy_setCell' _ _ _) (by simp), h.below.trans hb2⟩⟩

theorem ChSt.popped {w W : World} {Bw Bs : Nat} {ch : List Int} {x : Int} {g n cap : Nat} (h : ChSt w Bw Bs W (ch ++ [x])) (hv : Boxed W w.heap.size 22 (.slice (some ⟨g, 0, none⟩) n cap))
    (hrow : W.ownsRow w.heap.size 3 1 (.slice (some ⟨g, 0, none⟩) n cap) (ch.length + 1) ((ch ++ [x]).map (Value.int .i64))) :
    ChSt w Bw Bs (W.setCell ⟨w.heap.size, 0, none⟩ (.slice (some ⟨g, 0, none⟩) ch.length cap)) ch := by
  have hr2 : W.ownsRow w.heap.size 3 1 (.slice (some ⟨g, 0, none⟩) ch.length cap) ch.length (ch.map (Value.int .i64)) := by
    refine ⟨by simp, .inr ?_⟩
    rcases hrow.2 with ⟨h0, _⟩ | ⟨g', cap', cur, he, hg, hh, h1, h2, h3, h4⟩
    · cases h0
    · cases he
      refine ⟨g, cap, cur, rfl, hg, hh, by omega, h2, h3, ?_⟩
      have := congrArg (List.take ch.length) h4
      rw [List.take_take, List.map_append, List.take_left' (by simp)] at this
      rw [← this]
      congr 1
      omega
  refine ⟨⟨_, hv.set _, hr2.kept (grownBy_setCell' W w.heap.size _) (.inr (hv.not_row (by decide) hr2).symm)⟩, h.fn.kept (grownBy_setCell' _ _ _) (by simp), h.below.setCell (p := ⟨w.heap.size, 0, none⟩) (Nat.le_refl _) _⟩

theorem map_bits_getD (xss : List (List Int)) (k : Nat) (xs : List Int) (h : xss[k]? = some xs) : (xss.map bitsN).getD k 0 = bitsN xs := by
  rw [List.getD_eq_getElem?_getD, List.getElem?_map, h]; rfl

theorem chooseG_skip {bs : List Nat} {want : Nat} {go : Nat → Nat → Option (List Int)} {hv f i : Nat} (h : andNotN (bs.getD i 0) want ≠ 0) : chooseG bs want go hv (f + 1) i = chooseG bs want go hv f (i + 1) := by
  rw [chooseG, if_neg h]
theorem chooseG_miss {bs : List Nat} {want : Nat} {go : Nat → Nat → Option (List Int)} {hv f i : Nat} (h : andNotN (bs.getD i 0) want = 0) (hg : go (i + 1) (hv ||| bs.getD i 0) = none) : chooseG bs want go hv (f + 1) i = chooseG bs want go hv f (i + 1) := by
  rw [chooseG, if_pos h, hg]
theorem chooseG_hit {bs : List Nat} {want : Nat} {go : Nat → Nat → Option (List Int)} {hv f i : Nat} {l : List Int} (h : andNotN (bs.getD i 0) want = 0) (hg : go (i + 1) (hv ||| bs.getD i 0) = some l) : chooseG bs want go hv (f + 1) i = some ((i : Int) :: l) := by
  rw [chooseG, if_pos h, hg]

set_option maxRecDepth 100000 in
set_option maxHeartbeats 2000000 in
theorem choose56 (w : World) (Bw Bs want n c : Nat) (a : Option Addr) (xss : List (List Int)) (hw : w.cell? ⟨Bw, 0, none⟩ = some (.int .u64 (want : Nat))) (hs : w.cell? ⟨Bs, 0, none⟩ = some (.slice a n c))
    (hr : Rows2 w a n xss) (hsets : ∀ xs ∈ xss, ∀ x ∈ xs, 0 ≤ x ∧ x ≤ 63) (hn : n ≤ 16) (hwant : want < 2 ^ 64) :
    ∀ (left i hv : Nat) (W : World) (ch : List Int), i ≤ n → hv < 2 ^ 64 → ch.length + left ≤ 16 → ChSt w Bw Bs W ch →
      Calls Try.prog 56 #[.int .i64 i, .int .i64 left, .int .u64 hv, .pointer (some ⟨Bw, 0, none⟩), .pointer (some ⟨Bs, 0, none⟩), .pointer (some ⟨w.heap.size, 0, none⟩), .pointer (some ⟨w.heap.size + 1, 0, none⟩)] W
        (ChPost w Bw Bs ch (chooseL (xss.map bitsN) want left i hv)) := by
  have hBw := World.block_lt_of_cell? w _ hw
  have hBs := World.block_lt_of_cell? w _ hs
  obtain ⟨i0, hi, hz0, hz1, hz2⟩ := info_parts info3
  intro left
  induction left with
  | zero =>
    intro i hv W ch _ _ _ hst
    have hcw : W.cell? ⟨Bw, 0, none⟩ = some (.int .u64 (want : Nat)) := (hst.below.cell (p := ⟨Bw, 0, none⟩) hBw).trans hw
    have HST := Lib.hid hst
    clear hst hw hs
    by_cases h : hv = want
    · have hR : chooseL (xss.map bitsN) want 0 i hv = some [] := by rw [chooseL, if_pos h]
      rw [hR]
      subst h
      clear hR
      go_enter Try.func56, Try.ntmps56
      go_wp2_with (fail)
      go_ret
      exact ⟨rfl, by simpa using HST.out⟩
    · have hR : chooseL (xss.map bitsN) want 0 i hv = none := by rw [chooseL, if_neg h]
      rw [hR]
      have hb : ((hv : Int) == (want : Int)) = false := by simp only [beq_eq_false_iff_ne]; omega
      clear hR h
      go_enter Try.func56, Try.ntmps56
      go_wp2_with (fail)
      go_ret
      exact ⟨rfl, HST.out⟩
  | succ left ih =>
    intro i hv W ch hin hhv hlen hst
    have hxl := hr.len
    have HXL := Lib.hid hxl
    have HIH := Lib.hid ih
    obtain ⟨R, hR⟩ : ∃ R, R = chooseL (xss.map bitsN) want (left + 1) i hv := ⟨_, rfl⟩
    rw [← hR]
    have HR := Lib.hid hR
    have HST := Lib.hid hst
    clear hst hxl ih hR
    go_enter Try.func56, Try.ntmps56
    go_wp2_with (fail)
    go_loopw [11] (fun t wr => ∃ k f : Nat, k + f = n ∧ t = .int .i64 k ∧ ChSt w Bw Bs wr ch ∧ chooseG (xss.map bitsN) want (chooseL (xss.map bitsN) want left) hv f k = R) (fun t _ => n - (intOf t).toNat)
    case atStart => exact ⟨i, n - i, by omega, rfl, HST.out, by rw [HR.out, chooseL, List.length_map, HXL.out]⟩
    case round =>
      obtain ⟨k, f, hkf, rfl, hst, hch⟩ := hrel
      have hcw : wr.cell? ⟨Bw, 0, none⟩ = some (.int .u64 (want : Nat)) := (hst.below.cell (p := ⟨Bw, 0, none⟩) hBw).trans hw
      have hcs : wr.cell? ⟨Bs, 0, none⟩ = some (.slice a n c) := (hst.below.cell (p := ⟨Bs, 0, none⟩) hBs).trans hs
      have hcf := hst.fn.cell
      obtain ⟨v, hbox, hrow⟩ := hst.box
      have hcb := hbox.cell
      have hfb := hbox.frozen
      have HST1 := Lib.hid hst
      have HCH := Lib.hid hch
      have HBX := Lib.hid hbox
      have HRW := Lib.hid hrow
      have HKF := Lib.hid hkf
      have hsz := hst.below.size
      clear hst hch hbox hrow hkf HST hw hs
      unfold fv56 at hcf
      by_cases hlt : k < n
      · obtain ⟨xs, b, off, v', hx, rfl, hc, a', n', c', rfl, hI⟩ := Sl.at (Rows2.mono hr (Nat.le_refl _) HST1.out.below) hlt
        obtain ⟨f, rfl⟩ : ∃ g, f = g + 1 := ⟨f - 1, by have := HKF.out; omega⟩
        have hxm := hsets xs (List.mem_of_getElem? hx)
        have hb64 : bitsN xs < 2 ^ 64 := bitsN_lt xs hxm
        have HB := Lib.hid (map_bits_getD xss k xs hx)
        have H55 := Lib.hid (bits55 a' n' c' xs wr hI hxm)
        have e1 := andNot_u64 (bitsN xs) want (by omega) (by omega)
        have e2 := bits_or_u64_nat hv (bitsN xs) (by omega) (by omega)
        have e3 : (hv ||| bitsN xs) < 2 ^ 64 := Nat.or_lt_two_pow hhv hb64
        clear hx hxm hI hsets
        generalize bitsN xs = q at *
        by_cases hq : andNotN q want = 0
        · have hq' : (((andNotN q want : Nat) : Int) == 0) = true := by simp only [beq_iff_eq]; omega
          have HQ := Lib.hid hq
          clear hq
          go_wp2_with (fail)
          refine (H55.out).mono ?_
          rintro e w' ⟨rfl, rfl⟩
          go_wp2_with (at_builtin; refine wpList_append_own _ rfl _ _ 22 rfl w.heap.size 3 i0 (.int .i64 0) 1 8 Try.underlying22 hi hz0 hz1 hz2 rfl (by decide) _ _ _ rfl (HRW.out.alloc _) ⟨wr.heap.size, 0, none⟩ 1 1 [.int .i64 k] rfl rfl (cell_one_new _ _ _) (by simp [Value.oneCell']) (by unfold maxLen; omega) (by omega) (by simp; omega) ?_; intro v' w1 hown' hgrow _; obtain ⟨g', cap', rfl⟩ := ownsRow_succ hown'; obtain ⟨hv1, hst2⟩ := HST1.out.pushed HBX.out HRW.out hown' hgrow; have hc1 := hv1.cell; have hf1 := hv1.frozen; have hcf2 := hst2.fn.cell; unfold fv56 at hcf2; have HST2 := Lib.hid hst2; have HOW := Lib.hid hown'; clear hst2 hown' hgrow hcf hcs hcw)
          have hcall := HIH.out (k + 1) (hv ||| q) _ (ch ++ [(k : Int)]) (by omega) e3 (by simp; omega) HST2.out
          rw [show ((k + 1 : Nat) : Int) = (k : Int) + 1 from by omega] at hcall
          obtain ⟨G, hG⟩ : ∃ G, chooseL (xss.map bitsN) want left (k + 1) (hv ||| q) = G := ⟨_, rfl⟩
          rw [hG] at hcall
          have HG := Lib.hid hG
          clear hG hc1 hf1 hv1 hcb hfb hc
          refine hcall.mono ?_
          clear hcall
          cases G with
          | some l =>
            rintro e w2 ⟨rfl, hst3⟩
            go_wp2_with (fail)
            go_ret
            have hRs : R = some ((k : Int) :: l) := by rw [← HCH.out]; exact chooseG_hit (by rw [HB.out]; exact HQ.out) (by rw [HB.out]; exact HG.out)
            rw [hRs]
            exact ⟨rfl, by simpa using hst3⟩
          | none =>
            rintro e w2 ⟨rfl, hst3⟩
            obtain ⟨v3, hb3, hr3⟩ := hst3.box
            rw [List.length_append, List.length_singleton] at hr3
            obtain ⟨g3, cap3, rfl⟩ := ownsRow_succ hr3
            have hcap : ch.length + 1 ≤ cap3 := by
              rcases hr3.2 with ⟨h0, _⟩ | ⟨_, _, _, he, _, _, h1, _⟩
              · cases h0
              · cases he; exact h1
            have hc3 := hb3.cell
            have hf3 := hb3.frozen
            have HP := Lib.hid (hst3.popped hb3 hr3)
            clear hst3 hb3 hr3
            go_wp2_with (fail)
            exact ⟨⟨k + 1, f, by have := HKF.out; omega, by go_num, HP.out, by rw [← HCH.out, chooseG_miss (by rw [HB.out]; exact HQ.out) (by rw [HB.out]; exact HG.out)]⟩, by simp [intOf]; omega⟩
        · have hq' : (((andNotN q want : Nat) : Int) == 0) = false := by simp only [beq_eq_false_iff_ne]; omega
          have HQ := Lib.hid hq
          clear hq e2
          go_wp2_with (fail)
          refine (H55.out).mono ?_
          rintro e w' ⟨rfl, rfl⟩
          go_wp2_with (fail)
          go_roundw
          case rel => exact ⟨k + 1, f, by have := HKF.out; omega, by go_num, HST1.out, by rw [← HCH.out, chooseG_skip (by rw [HB.out]; exact HQ.out)]⟩
          case measure => simp [intOf]; omega
      · go_wp2_with (fail)
        go_ret
        have hf0 : f = 0 := by have := HKF.out; omega
        have hRn : R = none := by rw [← HCH.out, hf0]; rfl
        rw [hRn]
        exact ⟨rfl, HST1.out⟩

/-- the first number of indices from m on with which a cover is found -/
def coverF (bs : List Nat) (want : Nat) : Nat → Nat → Option (List Int)
  | 0, _ => none
  | f + 1, m => match chooseL bs want m 0 0 with | some l => some l | none => coverF bs want f (m + 1)
def coverB (t : List Int) (xss : List (List Int)) : Bool := chk t != 0 || xss.any fun xs => chk xs != 0
def coverO (t : List Int) (xss : List (List Int)) : Option (List Int) := coverF (xss.map bitsN) (bitsN t) (xss.length + 1) 0
def coverR (t : List Int) (xss : List (List Int)) : List Int := if 16 < xss.length then [] else if coverB t xss = true then [] else (coverO t xss).getD []
def covE (o : Option (List Int)) : Int := if o.isSome then 0 else 6
def coverE (t : List Int) (xss : List (List Int)) : Int := if 16 < xss.length then 4 else if coverB t xss = true then 1 else covE (coverO t xss)

theorem coverF_hit {bs : List Nat} {want f m : Nat} {l : List Int} (h : chooseL bs want m 0 0 = some l) : coverF bs want (f + 1) m = some l := by rw [coverF, h]
theorem coverF_miss {bs : List Nat} {want f m : Nat} (h : chooseL bs want m 0 0 = none) : coverF bs want (f + 1) m = coverF bs want f (m + 1) := by rw [coverF, h]

theorem cover54 (a : Option Addr) (n c : Nat) (xs : List Int) (w : World) (h : Ints w a n xs) :
    Calls Try.prog 54 #[.slice a n c] w fun e w' => e = .returned (.bool (chk xs != 0)) ∧ ∃ q, w' = w.drewN q := by
  have H := Lib.hid (check_any a n c xs w h)
  go_enter Try.func54, Try.ntmps54
  go_wp2_with (fail)
  refine (H.out).mono ?_
  rintro e w' ⟨rfl, rfl⟩
  go_wp2_with (fail)
  go_ret
  exact ⟨ret_b rfl, 0, rfl⟩

theorem cover26_great (a b : Option Addr) (n m c d : Nat) (w : World) (hm : m ≤ 4611686018427387903) (hgt : 16 < m) :
    Calls Try.prog 26 #[.slice a n c, .slice b m d] w (GivesE w [] 4) := by
  go_enter Try.func26, Try.ntmps26
  go_wp2_with (fail)
  go_ret2
  exact ⟨none, 0, 0, rfl, Sl.nil _ _, (Below.refl _ w).alloc (Nat.le_refl _) _⟩

end Go.Proofs.Ytcmckcmckbdmhaa
