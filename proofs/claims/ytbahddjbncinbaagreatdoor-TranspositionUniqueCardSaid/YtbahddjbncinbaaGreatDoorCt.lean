/-
  How many words have a Norm; whether a pair is another's mirror.
-/
import Derived.Test.YtbahddjbncinbaaGreatDoorIn
namespace Go.Ap
open Go Go.RowKit
theorem keyT_plain {t : Tok} : keyT t = if (!isGap t.flags && !isMark t.flags) = true then some t.norm else none := by
  unfold keyT
  cases isGap t.flags <;> cases isMark t.flags <;> rfl
theorem count_take {ks : List (Option Str)} {i : Nat} {k : Option Str} {s : Str} (h : ks[i]? = some k) : (ks.take (i + 1)).count (some s) = (ks.take i).count (some s) + if k = some s then 1 else 0 := by
  rw [List.take_add_one, h, Option.toList_some, List.count_append, List.count_singleton]
  congr 1
  by_cases hk : k = some s
  · simp [hk]
  · simp [hk]
end Go.Ap
namespace Go.Proofs.YtbahddjbncinbaaGreatDoor
open Go.RowKit Go.Ap Go.Shelf Go.Proofs

attribute [local go_sem] Oper.semAt_some bs_toList empty_toList bs_size bs_extract
set_option maxHeartbeats 4000000 in
theorem count24 (ts : List Tok) (s : Str) (a : Option Addr) (n c : Nat) (w : World) (h : Toks w a n ts) (hf : ∀ t ∈ ts, 0 ≤ t.flags ∧ t.flags ≤ 31) (hn : n ≤ 1024) :
    Calls Tryz.prog 24 #[.slice a n c, .string (bs s)] w fun e w' => e = .returned (.int .i64 ((keysT ts).count (some s) : Nat)) ∧ Below w.heap.size w w' := by
  have hl := h.len
  have HX := Lib.hid h
  have HF := Lib.hid hf
  have HL := Lib.hid (show (keysT ts).length = n by rw [keysT_len, hl])
  clear h hf hl
  go_enter Tryz.func24, Tryz.ntmps24
  go_wp2_with (fail)
  go_loopw [5, 10] (fun nv iv wr => ∃ i m : Nat, i ≤ n ∧ iv = .int .i64 i ∧ nv = .int .i64 m ∧ m = ((keysT ts).take i).count (some s) ∧ Below w.heap.size w wr) (fun _ iv _ => n - (intOf iv).toNat)
  case atStart => exact ⟨0, 0, Nat.zero_le _, rfl, rfl, rfl, Below.refl _ _⟩
  case round =>
    obtain ⟨wi, rfl⟩ : ∃ wi : World, wi = wr := ⟨_, rfl⟩
    obtain ⟨i, m, hi, rfl, rfl, hm, hb⟩ := hrel
    have HB := Lib.hid hb
    have hmi : m ≤ i := by rw [hm]; have := List.count_le_length (a := some s) (l := (keysT ts).take i); rw [List.length_take] at this; omega
    by_cases hin : i < n
    · obtain ⟨t, b, off, ht, rfl, ⟨⟨e0, e1, e2, e3, e4, e5⟩, hts⟩⟩ := (Toks.mono HX.out (Nat.le_refl _) hb).at hin
      have hfl := HF.out t (List.mem_of_getElem? ht)
      have hct := count_take (s := s) (keysT_at ht)
      rw [← hm, keyT_plain] at hct
      have hb10 := bits10 hfl.1 hfl.2
      have bx := balloc wi (.cells #[.string (bs t.text), .string (bs t.norm), .string (bs t.page), .int .i64 t.line, .int .i64 t.flags, .string (bs t.name)] 39)
      have HB2 := Lib.hid (bstep hb bx)
      have hnw := BlkK.new wi #[.string (bs t.text), .string (bs t.norm), .string (bs t.page), .int .i64 t.line, .int .i64 t.flags, .string (bs t.name)] 39
      have k1 := hnw.cell (i := 1) (u := .string (bs t.norm)) rfl
      have k4 := hnw.cell (i := 4) (u := .int .i64 t.flags) rfl
      have i1 : (i : Int) < (n : Int) := by omega
      generalize (!isGap t.flags && !isMark t.flags) = pl at *
      have HM := Lib.hid hct
      clear ht hts hfl hct hb bx hnw hm
      cases pl
      · go_wp2_with (fail)
        go_roundw
        case rel => exact ⟨i + 1, m, by omega, by simp, rfl, by rw [HM.out]; simp, HB2.out⟩
        case measure => simp [intOf]; omega
      · by_cases hns : t.norm = s
        · have d1 : (t.norm == s) = true := by simpa using hns
          have HNS := Lib.hid hns
          clear hns
          go_wp2_with (fail)
          go_roundw
          case rel => exact ⟨i + 1, m + 1, by omega, by simp, by simp, by rw [HM.out, HNS.out]; simp, HB2.out⟩
          case measure => simp [intOf]; omega
        · have d1 : (t.norm == s) = false := by simpa using hns
          have HNS := Lib.hid hns
          clear hns
          go_wp2_with (fail)
          go_roundw
          case rel => exact ⟨i + 1, m, by omega, by simp, rfl, by rw [HM.out, if_neg (by simpa using HNS.out), Nat.add_zero], HB2.out⟩
          case measure => simp [intOf]; omega
    · obtain rfl : n = i := by omega
      rw [List.take_of_length_le (by rw [HL.out]; exact Nat.le_refl _)] at hm
      have HM := Lib.hid hm
      clear hb hm
      go_wp2_with (fail)
      go_ret
      exact ⟨by rw [HM.out]; rfl, HB.out⟩
set_option maxHeartbeats 4000000 in
theorem clo26 (p q : Nat × Nat) (Bk : Nat) (ab : Option Addr) (cb : Nat) (v : Value) (W : World) (h : RowR W v (rowP q)) (hc : W.cell? ⟨Bk, 0, none⟩ = some (.slice ab 2 cb)) (hr : Ints W ab 2 (rowP p)) :
    Calls Tryz.prog 26 (#[v] ++ #[.pointer (some ⟨Bk, 0, none⟩)]) W fun e w' => e = .returned (.bool (decide (q.1 = p.2) && decide (q.2 = p.1))) ∧ Below W.heap.size W w' := by
  obtain ⟨a, n, c, rfl, hx⟩ := h
  obtain rfl : 2 = n := hx.len
  obtain ⟨z, b, o, v, hz, rfl, hz1, rfl, _⟩ := Sl.at hx (show 1 < 2 by omega)
  obtain ⟨y, b', o', v', hy, he, hy1, rfl, _⟩ := Sl.at hx (show 0 < 2 by omega)
  cases he
  obtain ⟨z', b2, o2, v2, hz', rfl, hz2, rfl, _⟩ := Sl.at hr (show 1 < 2 by omega)
  obtain ⟨y', b3, o3, v3, hy', he, hy2, rfl, _⟩ := Sl.at hr (show 0 < 2 by omega)
  cases he
  have t1 : z = (q.2 : Int) := by simp [rowP] at hz; exact hz.symm
  have t2 : y = (q.1 : Int) := by simp [rowP] at hy; exact hy.symm
  have t3 : z' = (p.2 : Int) := by simp [rowP] at hz'; exact hz'.symm
  have t4 : y' = (p.1 : Int) := by simp [rowP] at hy'; exact hy'.symm
  subst t1 t2 t3 t4
  rw [Nat.add_zero] at hy1 hy2
  simp only [List.append_toArray, List.cons_append, List.nil_append]
  obtain ⟨q1, hq1⟩ : ∃ q1, q.1 = q1 := ⟨_, rfl⟩
  obtain ⟨q2, hq2⟩ : ∃ q2, q.2 = q2 := ⟨_, rfl⟩
  obtain ⟨p1, hp1⟩ : ∃ p1, p.1 = p1 := ⟨_, rfl⟩
  obtain ⟨p2, hp2⟩ : ∃ p2, p.2 = p2 := ⟨_, rfl⟩
  rw [hq1] at hy1 ⊢
  rw [hq2] at hz1 ⊢
  rw [hp1] at hy2 ⊢
  rw [hp2] at hz2 ⊢
  clear hx hr hz hy hz' hy' hq1 hq2 hp1 hp2
  cases e1 : decide (q1 = p2) <;> cases e2 : decide (q2 = p1)
  all_goals
    have d1 := e1
    have d2 := e2
    simp only [decide_eq_true_eq, decide_eq_false_iff_not] at d1 d2
    have f1 : ((q1 : Int) == (p2 : Int)) = decide (q1 = p2) := by rw [Bool.eq_iff_iff, beq_iff_eq, decide_eq_true_eq]; omega
    have f2 : ((q2 : Int) == (p1 : Int)) = decide (q2 = p1) := by rw [Bool.eq_iff_iff, beq_iff_eq, decide_eq_true_eq]; omega
    have g1 : (q1 == p2) = decide (q1 = p2) := by rw [Bool.eq_iff_iff]; simp
    have g2 : (q2 == p1) = decide (q2 = p1) := by rw [Bool.eq_iff_iff]; simp
    rw [e1] at f1 g1
    rw [e2] at f2 g2
    clear d1 d2 e1 e2
    go_enter Tryz.func26, Tryz.ntmps26
    go_wp2_with (fail)
    go_quiet (fail)
    go_wp2_with (fail)
    go_ret
    exact ⟨rfl, bdrewN _ _⟩
theorem any26 (p : Nat × Nat) (l : List (Nat × Nat)) (Bk : Nat) (ab : Option Addr) (cb : Nat) (a : Option Addr) (n c : Nat) (w : World) (h : Rows2 w a n (rowsP l)) (hc : w.cell? ⟨Bk, 0, none⟩ = some (.slice ab 2 cb)) (hr : Ints w ab 2 (rowP p)) (hm : (p.2, p.1) ∈ l) :
    Calls Tryz.prog 25 #[.slice a n c, .func (.func 26) #[] #[.pointer (some ⟨Bk, 0, none⟩)]] w fun e w' => e = .returned (.bool true) ∧ Below w.heap.size w w' := by
  have H := contRows (R := RowR) (fun r => decide (nth r 0 = (p.2 : Int)) && decide (nth r 1 = (p.1 : Int))) a n c (rowsP l) _ _ w h (enters_of Tryz.func26 (by kernel_rfl) rfl) (fun W v x hb hr => hr.mono (Nat.le_refl _) hb) (fun x v W hx hb hv => by
    obtain ⟨q, _, rfl⟩ := List.mem_map.1 hx
    refine (clo26 p q Bk ab cb v W hv (cell_keep hb hc) (hr.mono (Nat.le_refl _) hb)).mono fun e w' ⟨he, hw⟩ => ⟨?_, hw⟩
    rw [he]
    have g1 : decide (q.1 = p.2) = decide (nth (rowP q) 0 = (p.2 : Int)) := by simp [rowP, nth]; omega
    have g2 : decide (q.2 = p.1) = decide (nth (rowP q) 1 = (p.1 : Int)) := by simp [rowP, nth]; omega
    rw [g1, g2])
  have e : ((rowsP l).any fun r => decide (nth r 0 = (p.2 : Int)) && decide (nth r 1 = (p.1 : Int))) = true := List.any_eq_true.2 ⟨rowP (p.2, p.1), List.mem_map.2 ⟨_, hm, rfl⟩, by simp [rowP, nth]⟩
  rwa [e] at H
end Go.Proofs.YtbahddjbncinbaaGreatDoor
