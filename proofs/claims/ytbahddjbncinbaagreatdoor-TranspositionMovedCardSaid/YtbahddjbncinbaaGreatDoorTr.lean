/-
  The reference: why two sources cannot be compared; words; the only word with a Norm; sizes.
-/
import Derived.Test.YtbahddjbncinbaaGreatDoorTc
namespace Go.Proofs.YtbahddjbncinbaaGreatDoor
open Go.RowKit Go.Ap Go.Shelf Go.Proofs

attribute [local go_sem] Oper.semAt_some bs_toList empty_toList bs_size bs_extract
set_option maxHeartbeats 4000000 in
theorem checkR (xs ys : List Tok) (a1 : Option Addr) (n1 c1 : Nat) (a2 : Option Addr) (n2 c2 : Nat) (w : World) (h1 : Toks w a1 n1 xs) (h2 : Toks w a2 n2 ys) :
    Calls Tryz.prog 52 #[.slice a1 n1 c1, .slice a2 n2 c2] w fun e w' => e = .returned (.int .i64 (chkT xs ys)) ∧ Below w.heap.size w w' := by
  have hl1 := h1.len
  have hl2 := h2.len
  have hs1 := h1.small
  have hs2 := h2.small
  have HL1 := Lib.hid hl1
  have HL2 := Lib.hid hl2
  have HX := Lib.hid h1
  have HY := Lib.hid h2
  have HT := Lib.hid (fun t (ht : TokS t) W => tokRf t W ht)
  have HV := Lib.hid (show chkT xs ys = if 1024 < n1 ∨ 1024 < n2 then 4 else if xs.any (fun t => decide (tokC t ≠ 0)) || ys.any (fun t => decide (tokC t ≠ 0)) then 1 else 0 by unfold chkT; rw [hl1, hl2])
  unfold tokV at HT
  clear h1 h2 hl1 hl2
  by_cases g1 : 1024 < n1
  · have d1 : decide ((1024 : Int) < (n1 : Int)) = true := by simp; omega
    have d1' : decide (1024 < n1) = true := by simp; omega
    rw [HV.out, if_pos (.inl g1)]
    clear g1
    go_enter Tryz.func52, Tryz.ntmps52
    go_wp2_with (fail)
    go_ret
    exact ⟨rfl, Below.refl _ _⟩
  · have d1 : decide ((1024 : Int) < (n1 : Int)) = false := by simp; omega
    have d1' : decide (1024 < n1) = false := by simp; omega
    by_cases g2 : 1024 < n2
    · have d2 : decide ((1024 : Int) < (n2 : Int)) = true := by simp; omega
      have d2' : decide (1024 < n2) = true := by simp; omega
      rw [HV.out, if_pos (.inr g2)]
      clear g1 g2
      go_enter Tryz.func52, Tryz.ntmps52
      go_wp2_with (fail)
      go_ret
      exact ⟨rfl, Below.refl _ _⟩
    · have d2 : decide ((1024 : Int) < (n2 : Int)) = false := by simp; omega
      have d2' : decide (1024 < n2) = false := by simp; omega
      rw [HV.out, if_neg (by omega)]
      obtain ⟨R, hR⟩ : ∃ R : Int, (if xs.any (fun t => decide (tokC t ≠ 0)) || ys.any (fun t => decide (tokC t ≠ 0)) then (1 : Int) else 0) = R := ⟨_, rfl⟩
      rw [hR]
      have HR := Lib.hid hR
      clear g1 g2 hR
      go_enter Tryz.func52, Tryz.ntmps52
      go_wp2_with (fail)
      go_loopw [5] (fun iv wr => ∃ i : Nat, i ≤ n1 ∧ iv = .int .i64 i ∧ Below w.heap.size w wr ∧ (xs.take i).any (fun t => decide (tokC t ≠ 0)) = false) (fun iv _ => n1 - (intOf iv).toNat)
      case atStart => exact ⟨0, Nat.zero_le _, rfl, Below.refl _ _, rfl⟩
      case round =>
        obtain ⟨wi, rfl⟩ : ∃ wi : World, wi = wr := ⟨_, rfl⟩
        obtain ⟨i, hi, rfl, hb, hno⟩ := hrel
        have HB := Lib.hid hb
        have HNO := Lib.hid hno
        clear hno
        by_cases hin : i < n1
        · obtain ⟨t, b, off, ht, rfl, ⟨⟨e0, e1, e2, e3, e4, e5⟩, hts⟩⟩ := (Toks.mono HX.out (Nat.le_refl _) hb).at hin
          have HC := Lib.hid (HT.out t hts wi)
          have HTK := Lib.hid (any_take (p := fun t => decide (tokC t ≠ 0)) ht)
          have HHIT := Lib.hid (fun h => any_hit (p := fun t => decide (tokC t ≠ 0)) ht h)
          obtain ⟨k, hk⟩ : ∃ k, tokC t = k := ⟨_, rfl⟩
          simp only [hk] at HC HTK HHIT
          have i1 : (i : Int) < (n1 : Int) := by omega
          clear ht hts hk hb
          go_wp2_with (fail)
          refine HC.out.mono ?_
          rintro e w2 ⟨rfl, hb2⟩
          have HB2 := Lib.hid (bstep HB.out hb2)
          clear hb2
          by_cases hk0 : k = 0
          · subst hk0
            go_wp2_with (fail)
            exact ⟨⟨i + 1, by omega, by simp, HB2.out, by rw [HTK.out, HNO.out]; rfl⟩, by simp [intOf]; omega⟩
          · have d5 : (k != 0) = true := by simpa using hk0
            have HX1 := Lib.hid (HHIT.out (by simpa using hk0))
            clear hk0
            go_wp2_with (fail)
            go_ret
            exact ⟨by rw [← HR.out, HX1.out, Bool.true_or]; rfl, HB2.out⟩
        · obtain rfl : n1 = i := by omega
          have HALL := Lib.hid (show xs.any (fun t => decide (tokC t ≠ 0)) = false by rw [← any_end HL1.out]; exact HNO.out)
          clear hb
          go_wp2_with (fail)
          go_loopw [6] (fun jv wr => ∃ j : Nat, j ≤ n2 ∧ jv = .int .i64 j ∧ Below w.heap.size w wr ∧ (ys.take j).any (fun t => decide (tokC t ≠ 0)) = false) (fun jv _ => n2 - (intOf jv).toNat)
          case atStart => exact ⟨0, Nat.zero_le _, rfl, HB.out, rfl⟩
          case round =>
            obtain ⟨wj, rfl⟩ : ∃ wj : World, wj = wr := ⟨_, rfl⟩
            obtain ⟨j, hj, rfl, hb, hno⟩ := hrel
            have HB := Lib.hid hb
            have HNO := Lib.hid hno
            clear hno
            by_cases hjn : j < n2
            · obtain ⟨t, b, off, ht, rfl, ⟨⟨e0, e1, e2, e3, e4, e5⟩, hts⟩⟩ := (Toks.mono HY.out (Nat.le_refl _) hb).at hjn
              have HC := Lib.hid (HT.out t hts wj)
              have HTK := Lib.hid (any_take (p := fun t => decide (tokC t ≠ 0)) ht)
              have HHIT := Lib.hid (fun h => any_hit (p := fun t => decide (tokC t ≠ 0)) ht h)
              obtain ⟨k, hk⟩ : ∃ k, tokC t = k := ⟨_, rfl⟩
              simp only [hk] at HC HTK HHIT
              have i1 : (j : Int) < (n2 : Int) := by omega
              clear ht hts hk hb
              go_wp2_with (fail)
              refine HC.out.mono ?_
              rintro e w2 ⟨rfl, hb2⟩
              have HB2 := Lib.hid (bstep HB.out hb2)
              clear hb2
              by_cases hk0 : k = 0
              · subst hk0
                go_wp2_with (fail)
                exact ⟨⟨j + 1, by omega, by simp, HB2.out, by rw [HTK.out, HNO.out]; rfl⟩, by simp [intOf]; omega⟩
              · have d5 : (k != 0) = true := by simpa using hk0
                have HX1 := Lib.hid (HHIT.out (by simpa using hk0))
                clear hk0
                go_wp2_with (fail)
                go_ret
                exact ⟨by rw [← HR.out, HX1.out, Bool.or_true]; rfl, HB2.out⟩
            · obtain rfl : n2 = j := by omega
              have HALL2 := Lib.hid (show ys.any (fun t => decide (tokC t ≠ 0)) = false by rw [← any_end HL2.out]; exact HNO.out)
              clear hb
              go_wp2_with (fail)
              go_ret
              exact ⟨by rw [← HR.out, HALL.out, HALL2.out]; rfl, HB.out⟩
theorem wordR (t : Tok) (w : World) (hf : I64 t.flags) (h0 : 0 ≤ t.flags) : Calls Tryz.prog 75 #[tokV t] w fun e w' => e = .returned (.bool (keyT t).isSome) ∧ Below w.heap.size w w' := by
  obtain ⟨f, hfl⟩ : ∃ f, t.flags = f := ⟨_, rfl⟩
  have HK := Lib.hid (show (keyT t).isSome = (decide (f / 2 % 2 = 0) && decide (f / 8 % 2 = 0)) by
    unfold keyT isGap isMark
    rw [hfl]
    have h1 := Int.emod_two_eq (f / 2)
    have h2 := Int.emod_two_eq (f / 8)
    rcases h1 with h1 | h1 <;> rcases h2 with h2 | h2 <;> simp [h1, h2])
  rw [HK.out]
  unfold tokV
  rw [hfl] at hf h0 ⊢
  clear hfl
  have hb := balloc w (.cells #[.string (bs t.text), .string (bs t.norm), .string (bs t.page), .int .i64 t.line, .int .i64 f, .string (bs t.name)] 39)
  have HB := Lib.hid hb
  obtain ⟨hf0, hf1⟩ := hf
  clear hb
  by_cases e1 : f / 2 % 2 = 0
  · have d1 : (f / 2 % 2 == 0) = true := by rw [beq_iff_eq]; exact e1
    by_cases e2 : f / 8 % 2 = 0
    · have d2 : (f / 8 % 2 == 0) = true := by rw [beq_iff_eq]; exact e2
      rw [decide_eq_true e1, decide_eq_true e2]
      clear e1 e2
      go_enter Tryz.func75, Tryz.ntmps75
      go_wp2_with (fail)
      go_ret
      exact ⟨rfl, HB.out⟩
    · have d2 : (f / 8 % 2 == 0) = false := by rw [beq_eq_false_iff_ne]; exact e2
      rw [decide_eq_true e1, decide_eq_false e2]
      clear e1 e2
      go_enter Tryz.func75, Tryz.ntmps75
      go_wp2_with (fail)
      go_ret
      exact ⟨rfl, HB.out⟩
  · have d1 : (f / 2 % 2 == 0) = false := by rw [beq_eq_false_iff_ne]; exact e1
    rw [decide_eq_false e1]
    clear e1
    go_enter Tryz.func75, Tryz.ntmps75
    go_wp2_with (fail)
    go_ret
    exact ⟨rfl, HB.out⟩
/-- what the reference's loop bears -/
theorem only_step {ks : List (Option Str)} {j : Nat} {s : Str} (h : ks[j]? = some (some s)) : lastF ks (j + 1) s = some (j : Int) := by
  rw [lastF_word h, if_pos rfl]
theorem only_skip {ks : List (Option Str)} {j : Nat} {s : Str} {x : Option Str} (h : ks[j]? = some x) (hx : x ≠ some s) : lastF ks (j + 1) s = lastF ks j s := by
  rw [lastF, h, if_neg fun e => hx (Option.some.inj e)]
theorem only_two {ks : List (Option Str)} {j : Nat} {s : Str} {v : Int} (h : ks[j]? = some (some s)) (h1 : lastF ks j s = some v) : onlyF ks s = -1 := by
  obtain ⟨i, rfl, hij, hi⟩ := lastF_some h1
  have : ks.count (some s) ≠ 1 := fun hc => by
    have e1 := idx_at hi hc
    have e2 := idx_at h hc
    omega
  unfold onlyF sglF
  rw [if_neg this]
/-- as long as no second one was met: the count is one just if the last is some -/
def OneS (ks : List (Option Str)) (j : Nat) (s : Str) : Prop := (ks.take j).count (some s) ≤ 1
theorem OneS.zero (ks : List (Option Str)) (s : Str) : OneS ks 0 s := by simp [OneS]
theorem OneS.step {ks : List (Option Str)} {j : Nat} {s : Str} (h : ks[j]? = some (some s)) (h1 : lastF ks j s = none) : OneS ks (j + 1) s := by
  unfold OneS
  rw [cnt_take h]
  have : (ks.take j).count (some s) = 0 := by
    rw [List.count_eq_zero]
    intro hm
    obtain ⟨i, hi⟩ := List.getElem?_of_mem hm
    rw [List.getElem?_take] at hi
    split at hi
    · rename_i hij
      exact lastF_none h1 i hij hi
    · cases hi
  rw [this]
  simp
theorem OneS.skip {ks : List (Option Str)} {j : Nat} {s : Str} {x : Option Str} (ho : OneS ks j s) (h : ks[j]? = some x) (hx : x ≠ some s) : OneS ks (j + 1) s := by
  unfold OneS at ho ⊢
  rw [cnt_take h, if_neg hx]
  exact ho
theorem OneS.fin {ks : List (Option Str)} {s : Str} (ho : OneS ks ks.length s) : onlyF ks s = (lastF ks ks.length s).getD (-1) := by
  unfold OneS at ho
  rw [List.take_length] at ho
  have := strF_end (ks := ks) (left := fun _ => false) (fun _ => rfl) s
  unfold strF at this
  rw [if_neg (by simp; omega)] at this
  unfold onlyF
  rw [← this]
  cases lastF ks ks.length s <;> rfl
end Go.Proofs.YtbahddjbncinbaaGreatDoor
