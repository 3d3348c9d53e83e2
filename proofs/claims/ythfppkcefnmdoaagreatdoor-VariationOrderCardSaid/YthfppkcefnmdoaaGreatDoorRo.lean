/-
  Reorder: a valid collation in another order of the sources.
-/
import Derived.Test.YthfppkcefnmdoaaGreatDoorCz
import Derived.Test.YthfppkcefnmdoaaGreatDoorFu
import Derived.Test.YthfppkcefnmdoaaGreatDoorCk
namespace Go.Proofs.YthfppkcefnmdoaaGreatDoor
open Go.RowKit Go.Ap Go.Shelf Go.Proofs

attribute [local go_sem] Oper.semAt_some bs_toList empty_toList bs_size bs_extract
theorem ints_take {w : World} {a : Option Addr} {n i : Nat} {xs : List Int} (h : Ints w a n xs) (hi : i ≤ n) : Ints w a i (xs.take i) :=
  ⟨by rw [List.length_take, h.len]; omega, by have := h.small; omega, fun k x hk => h.cells k x (by
    rw [List.getElem?_take] at hk
    split at hk
    · exact hk
    · cases hk)⟩
theorem take_not {f : Nat → Nat} {n i : Nat} (hf : Inv n f) (hi : i < n) : ((ordL f n).take i).contains ((f i : Nat) : Int) = false := by
  rw [Bool.eq_false_iff]
  intro h
  have h : ((f i : Nat) : Int) ∈ (ordL f n).take i := by simpa using h
  unfold ordL at h
  rw [← List.map_take, List.mem_map] at h
  obtain ⟨k, hk, e⟩ := h
  rw [List.take_range, List.mem_range] at hk
  have e' : f k = f i := by omega
  have := congrArg f e'
  rw [hf.inv, hf.inv] at this
  omega
set_option maxRecDepth 100000 in
set_option maxHeartbeats 8000000 in
theorem reorderP (x : Coll) (a1 : Option Addr) (n1 c1 : Nat) (a2 : Option Addr) (n2 c2 : Nat) (a3 : Option Addr) (n3 c3 : Nat) (ao : Option Addr) (co : Nat) (f : Nat → Nat) (w : World) (h : CollM w a1 a2 a3 n1 n2 n3 x) (hc1 : n1 ≤ c1) (hev : EV w) (hok : collC x = 0) (hf : Inv x.sigla.length f) (hco : n1 ≤ co) (ho : Ints w ao n1 (ordL f n1)) (h32 : x.columns.length ≤ 1048576) :
    Calls Tryz.prog 43 #[collV x.sec a1 n1 c1 a2 n2 c2 a3 n3 c3, .slice ao n1 co] w fun e w' => ∃ b1 k1 b2 k2 b3 k3, e = .returned (.tuple #[collV x.sec b1 n1 k1 b2 n1 k2 b3 n3 k3, .int .i64 0]) ∧ CollM w' b1 b2 b3 n1 n1 n3 (reoC x f) ∧ n1 ≤ k1 ∧ Below w.heap.size w w' := by
  have hl1 := h.sigla.len
  have hl2 := h.tokens.len
  have hl3 := h.columns.len
  have hv := val_of hok
  have hpos := hv.pos
  have htk := hv.toks
  have hsm := h.sigla.small
  have hs3 := h.columns.small
  have hf1 := hf
  rw [hl1] at hpos hf1
  obtain ⟨bo, oo, rfl, HOC0⟩ := ho.at hpos
  have HOC := Lib.hid HOC0
  have HFL := Lib.hid hf1
  have HH := Lib.hid h
  have HV := Lib.hid hv
  have HCK := Lib.hid (fun W (hb : Below w.heap.size w W) => collP x a1 n1 c1 a2 n2 c2 a3 n3 c3 W (h.mono (Nat.le_refl _) hb) hc1 (hev.mono (Nat.le_refl _) hb))
  rw [hok] at HCK
  have HCH := Lib.hid (fun W (hb : Below w.heap.size w W) => callsIn_wide.1 (chooseP x a1 n1 c1 a2 n2 c2 a3 n3 c3 (some ⟨bo, oo, none⟩) co f w W h hb hv hf (Ints.mono ho (Nat.le_refl _) hb) h32))
  have HCT := Lib.hid (fun i (hi : i < n1) W (hb : Below w.heap.size w W) => contI (some ⟨bo, oo, none⟩) i co ((ordL f n1).take i) ((f i : Nat) : Int) W (ints_take (Ints.mono ho (Nat.le_refl _) hb) (by omega)))
  have HB1 := balloc w (.cells #[.string (bs x.sec), .slice a1 n1 c1, .slice a2 n2 c2, .slice a3 n3 c3] 26)
  have HB2 := balloc (w.alloc (.cells #[.string (bs x.sec), .slice a1 n1 c1, .slice a2 n2 c2, .slice a3 n3 c3] 26)) (.cells #[.string ⟨#[]⟩, .slice none 0 0, .slice none 0 0, .slice none 0 0] 26)
  have HBX := Lib.hid ((BoxC.new w x.sec a1 n1 c1 a2 n2 c2 a3 n3 c3).below HB2)
  have hbr := BlkK.new (w.alloc (.cells #[.string (bs x.sec), .slice a1 n1 c1, .slice a2 n2 c2, .slice a3 n3 c3] 26)) #[.string ⟨#[]⟩, .slice none 0 0, .slice none 0 0, .slice none 0 0] 26
  have HBR := Lib.hid (show BlkK _ (w.heap.size + 1) _ _ by simpa [World.size_alloc] using hbr)
  have HB := Lib.hid (bstep HB1 HB2)
  unfold collV at HCK HCH ⊢
  clear h hv hok hev hf hf1 ho HOC0 HB1 HB2 hbr
  go_enter Tryz.func43, Tryz.ntmps43
  obtain ⟨k0, k1, k2, k3⟩ := HBX.out
  go_wp2_with (fail)
  refine (HCK.out _ HB.out).mono ?_
  rintro e wa ⟨rfl, hba⟩
  have HBA := Lib.hid (bstep HB.out hba)
  have HBXa := Lib.hid (HBX.out.below hba)
  have HBRa := Lib.hid (HBR.out.below hba)
  clear hba k0 k1 k2 k3
  obtain ⟨k0, k1, k2, k3⟩ := HBXa.out
  go_wp2_with (fail)
  go_loopw [21] (fun iv wr => ∃ i : Nat, i ≤ n1 ∧ iv = .int .i64 i ∧ wr = wa) (fun iv _ => n1 - (intOf iv).toNat)
  case atStart => exact ⟨0, Nat.zero_le _, rfl, rfl⟩
  case round =>
    obtain ⟨i, hi, rfl, rfl⟩ := hrel
    by_cases hin : i < n1
    · have v0 := cell_keep HBA.out (HOC.out i hin)
      rw [ordL_nth hin] at v0
      have hfl := HFL.out.lt i hin
      have HTN := Lib.hid (take_not HFL.out hin)
      have HCI := Lib.hid (HCT.out i hin)
      obtain ⟨fi, hfi⟩ : ∃ fi, f i = fi := ⟨_, rfl⟩
      rw [hfi] at v0 hfl HTN HCI
      clear hfi
      have d0 : decide ((fi : Int) < 0) = false := by simp
      have d1 : decide ((n1 : Int) ≤ (fi : Int)) = false := by simp; omega
      have d1' : decide (n1 ≤ fi) = false := by simp; omega
      go_wp2_with (fail)
      refine (HCI.out _ HBA.out).mono ?_
      rintro e w5 ⟨rfl, rfl⟩
      rw [HTN.out]
      go_wp2_with (fail)
      exact ⟨⟨i + 1, by omega, by simp, by simp⟩, by simp [intOf]; omega⟩
    · obtain rfl : i = n1 := by omega
      go_wp2_with (fail)
      refine (HCH.out _ HBA.out).mono ?_
      rintro e w6 ⟨b1, q1, b2, q2, b3, q3, rfl, hown, hk, hb6⟩
      have HOWN := Lib.hid hown
      have HRES := Lib.hid (HBRa.out.below hb6)
      have HB6 := Lib.hid (bstep HBA.out hb6)
      have hszA := HBA.out.size
      have f0 := BlkK.hard (i := 0) HRES.out
      have g0 := HRES.out.cell (i := 0) rfl
      have f1 := BlkK.hard (i := 1) HRES.out
      have g1 := HRES.out.cell (i := 1) rfl
      have f2 := BlkK.hard (i := 2) HRES.out
      have g2 := HRES.out.cell (i := 2) rfl
      have f3 := BlkK.hard (i := 3) HRES.out
      have g3 := HRES.out.cell (i := 3) rfl
      clear hown hb6 k0 k1 k2 k3
      go_wp2_with (fail)
      clear f0 f1 f2 f3 g0 g1 g2 g3
      obtain ⟨WS, hWS, hbs, hgs⟩ := store4 HRES.out (.string (bs x.sec)) (.slice b1 i q1) (.slice b2 i q2) (.slice b3 n3 q3)
      rw [← hWS]
      have r0 := hbs.cell (i := 0) rfl
      have r1 := hbs.cell (i := 1) rfl
      have r2 := hbs.cell (i := 2) rfl
      have r3 := hbs.cell (i := 3) rfl
      refine bodyPost_ret (v := .tuple #[.agg #[.string (bs x.sec), .slice b1 i q1, .slice b2 i q2, .slice b3 n3 q3], .int .i64 0]) ?hres rfl ?_
      case hres => simp [results, Tryz.f43, go_sem, r0, r1, r2, r3]
      have hbw : Below w.heap.size w WS := HB6.out.grown hgs HB6.out.size fun r he => by cases he; omega
      have hoc := HOWN.out.keptE HRES.out hgs
      have e1 : (reoC x f).sigla.length = i := by show (perL f x.sigla _).length = _; rw [perL_len fun k hk => by rw [hl1] at hk ⊢; exact HFL.out.lt k hk, hl1]
      have e2 : (reoC x f).tokens.length = i := by show (perL f x.tokens _).length = _; rw [perL_len fun k hk => by rw [hl1] at hk; rw [htk, hl1]; exact HFL.out.lt k hk, hl1]
      have e3 : (reoC x f).columns.length = n3 := by show (x.columns.map _).length = _; rw [List.length_map, hl3]
      obtain ⟨d1, j1, d2, j2, d3, j3, h1, h2, h3, hj, hm⟩ := hoc.coll hbw HH.out.sec (by omega) (by omega) (by omega) (fun c hc => by
        obtain ⟨c', _, rfl⟩ := List.mem_map.1 hc
        have := List.length_filterMap_le (fun k => c'[f k]?) (List.range x.sigla.length)
        rw [List.length_range] at this
        exact Nat.le_trans this (by omega)) (fun s hs => HH.out.ssig s (perL_mem hs))
      rw [e1] at h1 hm
      rw [e2] at h2 hm
      rw [e3] at h3 hm
      cases h1
      cases h2
      cases h3
      exact ⟨b1, q1, b2, q2, b3, q3, rfl, hm, hk, hbw⟩
end Go.Proofs.YthfppkcefnmdoaaGreatDoor
