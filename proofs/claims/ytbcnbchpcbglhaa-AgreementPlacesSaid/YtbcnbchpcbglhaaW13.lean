/-
  Great, fine, chosen.
-/
import Derived.Test.YtbcnbchpcbglhaaW12
namespace Go.Proofs.Ytbcnbchpcbglhaa
open Go.RowKit Go.Ap Go.Shelf Go.Proofs

def greB (k l : Nat) : Bool := (decide (10 < l) && decide (l ≤ 4096)) || decide (4098 < l) || (decide (10 < l) && decide (1 < k))
def greG (S : List (List Int)) : Nat → Nat → Bool
  | 0, _ => false
  | f + 1, k => greB k (row S k).length || greG S f (k + 1)
def greN (n : Nat) : Bool := (decide (8 < n) && decide (n ≤ 32)) || decide (34 < n)
def great (S : List (List Int)) : Bool := greG S S.length 0 || greN S.length
theorem dec_n {a b : Nat} {c d : Int} (h1 : (a : Int) = c) (h2 : (b : Int) = d) {r : Bool} (h : decide (a < b) = r) : decide (c < d) = r := by
  subst h1 h2; rw [← h, decide_eq_decide]; omega
theorem dec_l {a b : Nat} {c d : Int} (h1 : (a : Int) = c) (h2 : (b : Int) = d) {r : Bool} (h : decide (a ≤ b) = r) : decide (c ≤ d) = r := by
  subst h1 h2; rw [← h, decide_eq_decide]; omega

set_option maxHeartbeats 4000000 in
theorem great11 (a : Option Addr) (n c : Nat) (S : List (List Int)) (w : World) (h : Rows2 w a n S) :
    Calls Try.prog 11 #[.slice a n c] w fun e w' => e = .returned (.bool (great S)) ∧ w = w' := by
  have HL := Lib.hid h.len
  have hsm := h.small
  have HH := Lib.hid h
  obtain ⟨R, hR⟩ : ∃ R, great S = R := ⟨_, rfl⟩
  rw [hR]
  have HR := Lib.hid (show (greG S n 0 || greN n) = R by rw [← hR, great, h.len])
  clear h hR
  go_enter Try.func11, Try.ntmps11
  go_wp2_with (fail)
  go_loop [3] (fun i => ∃ k : Nat, k ≤ n ∧ i = .int .i64 k ∧ (greG S (n - k) k || greN n) = R) (fun i => n - (intOf i).toNat)
  case atStart => exact ⟨0, by omega, rfl, HR.out⟩
  case round =>
    obtain ⟨k, hk, rfl, hch⟩ := hrel
    have HC := Lib.hid hch
    clear hch
    by_cases hlt : k < n
    · obtain ⟨b1, o1, rfl, hc1⟩ := Rows2.all HH.out (by omega)
      obtain ⟨a1, l, c1, hcell1, hI1⟩ := hc1 k hlt
      have hls := hI1.small
      have HST := Lib.hid (show greG S (n - k) k = (greB k l || greG S (n - (k + 1)) (k + 1)) by
        rw [show n - k = (n - (k + 1)) + 1 by omega, greG, hI1.len])
      clear hc1 hI1
      by_cases h1 : 10 < l
      · by_cases h2 : l ≤ 4096
        · have HY := Lib.hid (show R = true by rw [← HC.out, HST.out, greB]; simp [h1, h2])
          go_wp2_with (fail)
          go_ret
          exact ⟨ret_b (by rw [HY.out]), rfl⟩
        · by_cases h3 : 4098 < l
          · have HY := Lib.hid (show R = true by rw [← HC.out, HST.out, greB]; simp [h3])
            go_wp2_with (fail)
            go_ret
            exact ⟨ret_b (by rw [HY.out]), rfl⟩
          · by_cases h4 : 1 < k
            · have HY := Lib.hid (show R = true by rw [← HC.out, HST.out, greB]; simp [h1, h4])
              go_wp2_with (fail)
              go_ret
              exact ⟨ret_b (by rw [HY.out]), rfl⟩
            · have HN := Lib.hid (show (greG S (n - (k + 1)) (k + 1) || greN n) = R by rw [← HC.out, HST.out, greB]; simp [h2, h3, h4])
              go_wp2_with (fail)
              exact ⟨⟨k + 1, by omega, by go_num, HN.out⟩, by simp [intOf]; omega⟩
      · have HN := Lib.hid (show (greG S (n - (k + 1)) (k + 1) || greN n) = R by rw [← HC.out, HST.out, greB, show decide (4098 < l) = false by simp; omega]; simp [h1])
        go_wp2_with (fail)
        exact ⟨⟨k + 1, by omega, by go_num, HN.out⟩, by simp [intOf]; omega⟩
    · have HE := Lib.hid (show greN n = R by rw [← HC.out, show n - k = 0 by omega, greG, Bool.false_or])
      by_cases h1 : 8 < n
      · by_cases h2 : n ≤ 32
        · have HY := Lib.hid (show R = true by rw [← HE.out, greN]; simp [h1, h2])
          go_wp2_with (fail)
          go_ret
          exact ⟨ret_b (by rw [HY.out]), rfl⟩
        · have d1 : decide (8 < (n : Int)) = true := by simp; omega
          have d2 : decide ((n : Int) ≤ 32) = false := by simp; omega
          have d3 : decide (8 < n) = true := by simp; omega
          have d4 : decide (n ≤ 32) = false := by simp; omega
          by_cases h3 : 34 < n
          · have HY := Lib.hid (show R = true by rw [← HE.out, greN]; simp [h3])
            go_wp2_with (fail)
            go_ret
            exact ⟨ret_b (by rw [HY.out]; simp; omega), rfl⟩
          · have HY := Lib.hid (show R = false by rw [← HE.out, greN]; simp [h2, h3])
            go_wp2_with (fail)
            go_ret
            exact ⟨ret_b (by rw [HY.out]; simp; omega), rfl⟩
      · have HY := Lib.hid (show R = false by rw [← HE.out, greN, show decide (34 < n) = false by simp; omega]; simp [h1])
        go_wp2_with (fail)
        go_ret
        exact ⟨ret_b (by rw [HY.out]; simp; omega), rfl⟩

def fineB (S : List (List Int)) : Bool := !great S && chkS S == 0
theorem fineB_ok {S : List (List Int)} (h : fineB S = true) : chkS S = 0 := by
  unfold fineB at h
  simpa using (Bool.and_eq_true_iff.1 h).2
theorem fine21 (a : Option Addr) (n c : Nat) (S : List (List Int)) (w : World) (h : Rows2 w a n S) :
    Calls Try.prog 21 #[.slice a n c] w fun e w' => e = .returned (.bool (fineB S)) ∧ ∃ q, w' = w.drewN q := by
  have H11 := great11 a n c S w h
  have H33 := Lib.hid (check33 a n c S w h)
  clear h
  cases hg : great S
  · rw [hg] at H11
    have H11 := Lib.hid H11
    have hF : fineB S = (chkS S == 0) := by rw [fineB, hg]; rfl
    rw [hF]
    generalize chkS S = z at *
    clear hg hF
    go_enter Try.func21, Try.ntmps21
    go_wp2_with (fail)
    refine (H11.out).mono ?_
    rintro e w' ⟨rfl, rfl⟩
    go_wp2_with (fail)
    refine (H33.out).mono ?_
    rintro e w' ⟨rfl, q, rfl⟩
    go_wp2_with (fail)
    go_ret
    exact ⟨rfl, q, rfl⟩
  · rw [hg] at H11
    have H11 := Lib.hid H11
    have hF : fineB S = false := by rw [fineB, hg]; rfl
    rw [hF]
    clear hg hF
    go_enter Try.func21, Try.ntmps21
    go_wp2_with (fail)
    refine (H11.out).mono ?_
    rintro e w' ⟨rfl, rfl⟩
    go_wp2_with (fail)
    go_ret
    exact ⟨rfl, 0, rfl⟩

/-- the bit of a number that stands for i -/
def bitB (z : Int) (i : Nat) : Bool := (bits .and .u8 (z / 2 ^ (i % 8)) 1 == 1)
def chosenL (n : Nat) (z : Int) : List Int := if (memb (bitB z) n).length = 0 then memb (fun _ => true) n else memb (bitB z) n

/-- two values lie in no one block -/
def Disj (u v : Value) : Prop := ∀ b, u.ownBlock = some b → v.ownBlock = some b → False
theorem Disj.symm {u v : Value} (h : Disj u v) : Disj v u := fun b h1 h2 => h b h2 h1
theorem Disj.or {u v : Value} (h : Disj u v) : u.ownBlock = none ∨ u.ownBlock ≠ v.ownBlock := by
  cases hu : u.ownBlock with
  | none => exact .inl rfl
  | some b => exact .inr fun e => h b hu e.symm
/-- what append to one of two rows leaves -/
theorem OwnI.pushed2 {e : TypeId} {w w1 : World} {base : Nat} {v u v' : Value} {xs ys : List Int} {x : Int} {tmp : Obj} (h : OwnI e w base v xs) (k : OwnI e w base u ys) (ha : Disj u v) (hx : I64 x) (hb : base ≤ w.heap.size)
    (hown : w1.ownsRow base e 1 v' (xs.length + 1) (xs.map (Value.int .i64) ++ [.int .i64 x])) (hg : (w.alloc tmp).grownBy w1 v.ownBlock) (hat : v'.ownBlock = v.ownBlock ∨ v'.ownBlock = some (w.alloc tmp).heap.size) :
    OwnI e w1 base v' (xs ++ [x]) ∧ OwnI e w1 base u ys ∧ Disj u v' ∧ Below base w w1 := by
  have hp := h.pushed hx hb hown hg
  refine ⟨hp.1, OwnI.kept (w := w.alloc tmp) (k.kept (World.grownBy_alloc w tmp none) (by cases u.ownBlock <;> simp)) hg ha.or, fun b h1 h2 => ?_, hp.2⟩
  have hlt := owns_lt k.1 b h1
  rcases hat with h3 | h3
  · exact ha b h1 (h3 ▸ h2)
  · rw [h3] at h2
    have : (w.alloc tmp).heap.size = b := by simpa using h2
    simp at this
    omega
theorem bitB_def (z : Int) (i : Nat) : bitB z i = (bits .and .u8 (z / 2 ^ (i % 8)) 1 == 1) := rfl

def GivesI (w : World) (res : List Int) (e : Ending) (w' : World) : Prop := ∃ a m c, e = .returned (.slice a m c) ∧ Ints w' a m res ∧ Below w.heap.size w w'
set_option maxHeartbeats 2000000 in
theorem chosen22 (n : Nat) (z : Int) (w : World) (hn : n ≤ 1000) (hz : 0 ≤ z ∧ z ≤ 255) :
    Calls Try.prog 22 #[.int .i64 n, .int .u8 z] w (GivesI w (chosenL n z)) := by
  obtain ⟨i0, hi, hz0, hz1, hz2⟩ := info_parts info3
  obtain ⟨hz3, hz4⟩ := hz
  obtain ⟨G, hG⟩ : ∃ G, chosenL n z = G := ⟨_, rfl⟩
  rw [hG]
  have HG1 := Lib.hid (show (memb (bitB z) n).length = 0 → G = memb (fun _ => true) n from fun h => by rw [← hG, chosenL, if_pos h])
  have HG2 := Lib.hid (show (memb (bitB z) n).length ≠ 0 → G = memb (bitB z) n from fun h => by rw [← hG, chosenL, if_neg h])
  clear hG
  go_enter Try.func22, Try.ntmps22
  go_wp2_with (fail)
  go_loopw [5, 6, 9] (fun sv av i wr => ∃ k : Nat, k ≤ n ∧ i = .int .i64 k ∧ OwnI 3 wr w.heap.size sv (memb (bitB z) k) ∧ OwnI 3 wr w.heap.size av (memb (fun _ => true) k) ∧ Disj sv av ∧ Below w.heap.size w wr) (fun _ _ i _ => n - (intOf i).toNat)
  case atStart => exact ⟨0, by omega, rfl, OwnI.nil _ _ _, OwnI.nil _ _ _, (fun b h _ => by cases h), Below.refl _ _⟩
  case round =>
    obtain ⟨k, hk, rfl, hs, ha, hne, hb⟩ := hrel
    have HSO := Lib.hid hs
    have HAL := Lib.hid ha
    have HNE := Lib.hid hne
    have HB := Lib.hid hb
    have hsz := hb.size
    have hm1 := memb_len (bitB z) k
    have hm2 := memb_len (fun _ => true) k
    clear hs ha hne hb
    by_cases hlt : k < n
    · have HAY := Lib.hid (memb_yes (p := fun _ => true) (k := k) rfl)
      have hbd := bitB_def z k
      generalize hA : memb (fun _ => true) k = A at *
      cases hbit : bitB z k
      · have HSN := Lib.hid (memb_no hbit)
        rw [hbit] at hbd
        have hbd' := hbd.symm
        clear hbit hbd hA
        go_wp2_with (at_builtin; refine wpList_append_own_at _ rfl _ _ 23 rfl w.heap.size 3 i0 (.int .i64 0) 1 8 Try.underlying23 hi hz0 hz1 hz2 rfl (by decide) _ _ _ rfl (HAL.out.1.alloc _) ⟨wr.heap.size, 0, none⟩ 1 1 [.int .i64 k] rfl rfl (cell_one_new _ _ _) (by simp [Value.oneCell']) (by unfold maxLen; omega) (by omega) (by simp; omega) ?_; intro v1 w4 hown1 hgrow1 _ hat1; have HO2 := Lib.hid hown1; have HG := Lib.hid hgrow1; have HT := Lib.hid hat1; clear hown1 hgrow1 hat1)
        have hp := OwnI.pushed2 HAL.out HSO.out HNE.out (x := k) ⟨by omega, by omega⟩ hsz HO2.out HG.out HT.out
        exact ⟨⟨k + 1, by omega, by go_num, by rw [HSN.out]; exact hp.2.1, by rw [HAY.out]; exact hp.1, hp.2.2.1, HB.out.trans hp.2.2.2⟩, by simp [intOf]; omega⟩
      · have HSN := Lib.hid (memb_yes hbit)
        rw [hbit] at hbd
        have hbd' := hbd.symm
        clear hbit hbd hA
        generalize hL : memb (bitB z) k = L at *
        clear hL
        have tok1 : True := trivial
        go_wp2_with (first
          | (at_builtin; have _t := tok1; refine wpList_append_own_at _ rfl _ _ 23 rfl w.heap.size 3 i0 (.int .i64 0) 1 8 Try.underlying23 hi hz0 hz1 hz2 rfl (by decide) _ _ _ rfl (HAL.out.1.alloc _) ⟨wr.heap.size, 0, none⟩ 1 1 [.int .i64 k] rfl rfl (cell_one_new _ _ _) (by simp [Value.oneCell']) (by unfold maxLen; omega) (by omega) (by simp; omega) ?_; intro v1 w4 hown1 hgrow1 _ hat1; have HO2 := Lib.hid hown1; have HG := Lib.hid hgrow1; have HT := Lib.hid hat1; clear hown1 hgrow1 hat1; clear tok1 _t; have hp := OwnI.pushed2 HAL.out HSO.out HNE.out (x := k) ⟨by omega, by omega⟩ hsz HO2.out HG.out HT.out; have hs4 := Nat.le_trans hsz (show wr.heap.size ≤ w4.heap.size from hp.2.2.2.size); have HP := Lib.hid hp; clear hp)
          | (at_builtin; refine wpList_append_own_at _ rfl _ _ 23 rfl w.heap.size 3 i0 (.int .i64 0) 1 8 Try.underlying23 hi hz0 hz1 hz2 rfl (by decide) _ _ _ rfl (HP.out.2.1.1.alloc _) ⟨w4.heap.size, 0, none⟩ 1 1 [.int .i64 k] rfl rfl (cell_one_new _ _ _) (by simp [Value.oneCell']) (by unfold maxLen; omega) (by omega) (by simp; omega) ?_; intro v2 w5 hown2 hgrow2 _ hat2; have HO3 := Lib.hid hown2; have HG3 := Lib.hid hgrow2; have HT3 := Lib.hid hat2; clear hown2 hgrow2 hat2))
        have hp2 := OwnI.pushed2 HP.out.2.1 HP.out.1 HP.out.2.2.1.symm (x := k) ⟨by omega, by omega⟩ hs4 HO3.out HG3.out HT3.out
        exact ⟨⟨k + 1, by omega, by go_num, by rw [HSN.out]; exact hp2.1, by rw [HAY.out]; exact hp2.2.1, hp2.2.2.1.symm, (HB.out.trans HP.out.2.2.2).trans hp2.2.2.2⟩, by simp [intOf]; omega⟩
    · obtain rfl : n = k := by omega
      obtain ⟨a1, c1, rfl, hI1⟩ := OwnI.ints HSO.out (by omega)
      obtain ⟨a2, c2, rfl, hI2⟩ := OwnI.ints HAL.out (by omega)
      have HI1 := Lib.hid hI1
      have HI2 := Lib.hid hI2
      clear hI1 hI2 HSO HAL HNE
      generalize hl : (memb (bitB z) n).length = l at *
      have HLL := Lib.hid hl
      clear hl
      by_cases h0 : l = 0
      · subst h0
        have HG3 := Lib.hid (HG1.out rfl)
        go_wp2_with (fail)
        go_ret
        exact ⟨_, _, _, rfl, by rw [HG3.out]; exact HI2.out, HB.out⟩
      · have HG3 := Lib.hid (HG2.out h0)
        have e0 : ((l : Int) == 0) = false := by rw [beq_eq_false_iff_ne]; omega
        clear h0
        go_wp2_with (fail)
        go_ret
        exact ⟨_, _, _, rfl, by rw [HG3.out]; exact HI1.out, HB.out⟩

end Go.Proofs.Ytbcnbchpcbglhaa
