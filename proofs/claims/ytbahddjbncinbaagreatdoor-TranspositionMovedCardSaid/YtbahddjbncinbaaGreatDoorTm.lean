/-
  For each Norm that one word has, its index: the program's two maps.
-/
import Derived.Test.YtbahddjbncinbaaGreatDoorMt
import Derived.Test.YtbahddjbncinbaaGreatDoorTp
import Derived.Carry
namespace Go.Proofs.YtbahddjbncinbaaGreatDoor
open Go.RowKit Go.Ap Go.Shelf Go.Proofs

attribute [local go_sem] Oper.semAt_some bs_toList empty_toList bs_size bs_extract
theorem keyT_some {t : Tok} (h : (!isGap t.flags && !isMark t.flags) = true) : keyT t = some t.norm := by
  unfold keyT
  rw [Bool.and_eq_true, Bool.not_eq_true', Bool.not_eq_true'] at h
  rw [h.1, h.2]
  rfl
theorem keyT_none {t : Tok} (h : (!isGap t.flags && !isMark t.flags) = false) : keyT t = none := by
  unfold keyT
  cases h1 : isGap t.flags <;> cases h2 : isMark t.flags <;> simp_all
theorem cntF_le {ks : List (Option Str)} {j : Nat} {s : Str} : 0 ≤ (cntF ks j s).getD 0 ∧ (cntF ks j s).getD 0 ≤ j := by
  unfold cntF
  have := List.count_le_length (a := some s) (l := ks.take j)
  rw [List.length_take] at this
  split
  · simp
  · simp; omega
set_option maxRecDepth 100000 in
set_option maxHeartbeats 8000000 in
theorem singleP (ts : List Tok) (a : Option Addr) (n c : Nat) (w : World) (h : Toks w a n ts) (hf : ∀ t ∈ ts, 0 ≤ t.flags ∧ t.flags ≤ 31) (hn : n ≤ 1048576) :
    Calls Tryz.prog 73 #[.slice a n c] w fun e w' => ∃ b, e = .returned (.map (some b)) ∧ MapG tSI w' b n (sglF (keysT ts)) ∧ Below w.heap.size w w' := by
  have hl := h.len
  have HX := Lib.hid h
  have HF := Lib.hid hf
  have HNM := Lib.hid (show ∀ t ∈ ts, t.norm.length ≤ 4611686018427387903 from fun t ht => by
    obtain ⟨k, hk⟩ := List.getElem?_of_mem ht
    obtain ⟨_, _, _, hr⟩ := h.cells k t hk
    exact hr.2.norm)
  have HL := Lib.hid (show (keysT ts).length = n by rw [keysT_len, hl])
  obtain ⟨B, hB⟩ : ∃ B, w.heap.size = B := ⟨_, rfl⟩
  have HM1 := Lib.hid (show MapG tSI ((w.alloc (.map #[] 0)).alloc (.map #[] 0)) B 0 (lastF (keysT ts) 0) from by
    have := (MapG.made (T := tSI) w).below (balloc (w.alloc (.map #[] 0)) (.map #[] 0))
    rw [hB] at this
    exact this.ext fun s => rfl)
  have HM2 := Lib.hid (show MapG tSI ((w.alloc (.map #[] 0)).alloc (.map #[] 0)) (B + 1) 0 (cntF (keysT ts) 0) from by
    have := MapG.made (T := tSI) (w.alloc (.map #[] 0))
    rw [World.size_alloc, hB] at this
    exact this.ext fun s => by simp [cntF])
  have HB0 := Lib.hid (bstep (balloc w (.map #[] 0)) (balloc (w.alloc (.map #[] 0)) (.map #[] 0)))
  have HBB := Lib.hid hB
  have hmm := @run_makeMap Tryz.prog
  clear h hf hB
  go_enter Tryz.func73, Tryz.ntmps73
  go_wp2_with (fail)
  rw [HBB.out]
  clear hmm
  go_loopw [13] (fun iv wr => ∃ i : Nat, i ≤ n ∧ iv = .int .i64 i ∧ MapG tSI wr B i (lastF (keysT ts) i) ∧ MapG tSI wr (B + 1) i (cntF (keysT ts) i) ∧ Below w.heap.size w wr) (fun iv _ => n - (intOf iv).toNat)
  case atStart => exact ⟨0, Nat.zero_le _, rfl, HM1.out, HM2.out, HB0.out⟩
  case round =>
    obtain ⟨wi, rfl⟩ : ∃ wi : World, wi = wr := ⟨_, rfl⟩
    obtain ⟨i, hi, rfl, hm1, hm2, hb⟩ := hrel
    have HB := Lib.hid hb
    have H1 := Lib.hid hm1
    have H2 := Lib.hid hm2
    clear hm1 hm2
    by_cases hin : i < n
    · obtain ⟨t, b, off, ht, rfl, ⟨⟨e0, e1, e2, e3, e4, e5⟩, hts⟩⟩ := (Toks.mono HX.out (Nat.le_refl _) hb).at hin
      have hfl := HF.out t (List.mem_of_getElem? ht)
      have hbits := bits10 hfl.1 hfl.2
      have HKT := Lib.hid (keysT_at ht)
      have hkS := @keyT_some t
      have hkN := @keyT_none t
      have hnm := hts.norm
      obtain ⟨nm, hnm2⟩ : ∃ nm, t.norm = nm := ⟨_, rfl⟩
      rw [hnm2] at e1 hkS hnm
      obtain ⟨W1, hW1⟩ : ∃ W1, wi.alloc (.cells #[.string (bs t.text), .string (bs nm), .string (bs t.page), .int .i64 t.line, .int .i64 t.flags, .string (bs t.name)] 39) = W1 := ⟨_, rfl⟩
      have hb1 : Below wi.heap.size wi W1 := by rw [← hW1]; exact balloc _ _
      obtain ⟨X, hX⟩ : ∃ X, wi.heap.size = X := ⟨_, rfl⟩
      have hX1 := H1.out.lt
      have hX2 := H2.out.lt
      rw [hX] at hX1 hX2
      have HC1 := Lib.hid (show W1.cell? ⟨X, 1, none⟩ = some (.string (bs nm)) by rw [← hW1]; exact cell_fresh hX.symm rfl)
      have hBB1 := bstep hb hb1
      have i1 : (i : Int) < (n : Int) := by omega
      by_cases hw : (!isGap t.flags && !isMark t.flags) = true
      · have HK := Lib.hid (show (keysT ts)[i]? = some (some nm) by rw [HKT.out, hkS hw])
        rw [hw] at hbits
        obtain ⟨W2, hu2, hm2, hg2⟩ := MapG.store (T := tSI) (s := nm) (v := (i : Int)) (H1.out.below hb1) (by unfold maxLen; omega) hnm ⟨by omega, by omega⟩
        replace hu2 : (Instr.mapUpdate 96 (.map (some B)) (.string (bs nm)) (.int .i64 (i : Int))).run Tryz.prog W1 = .ok () W2 := hu2
        have hm3 := ((H2.out.below hb1).kept hg2 (by simp))
        have hlk := hm3.look (T := tSI) (s := nm) hnm
        replace hlk : (Instr.lookup 96 (.map (some (B + 1))) (.string (bs nm)) false).run Tryz.prog W2 = .ok (.int .i64 ((cntF (keysT ts) i nm).getD 0)) W2 := hlk
        have hcl := @cntF_le (keysT ts) i nm
        have HCW := Lib.hid (cntF_word HK.out)
        have HLW := Lib.hid (lastF_word HK.out)
        obtain ⟨cv, hcv⟩ : ∃ cv, (cntF (keysT ts) i nm).getD 0 = cv := ⟨_, rfl⟩
        rw [hcv] at hlk hcl HCW
        obtain ⟨W3, hu3, hm4, hg3⟩ := MapG.store (T := tSI) (s := nm) (v := cv + 1) hm3 (by unfold maxLen; omega) hnm ⟨by omega, by omega⟩
        replace hu3 : (Instr.mapUpdate 96 (.map (some (B + 1))) (.string (bs nm)) (.int .i64 (cv + 1))).run Tryz.prog W2 = .ok () W3 := hu3
        have c2 := hg2.cell HC1.out (by simp; omega)
        have HN1 := Lib.hid (show MapG tSI W3 B (i + 1) (lastF (keysT ts) (i + 1)) from (hm2.kept hg3 (by simp)).ext fun s => by rw [HLW.out]; rfl)
        have HN2 := Lib.hid (show MapG tSI W3 (B + 1) (i + 1) (cntF (keysT ts) (i + 1)) from hm4.ext fun s => by rw [HCW.out]; rfl)
        have HBN := Lib.hid (show Below w.heap.size w W3 from (hBB1.grown hg2 hBB1.size fun r hr => by cases hr; rw [HBB.out]; omega).grown hg3 (by have := hg2.size; have := hBB1.size; omega) fun r hr => by cases hr; rw [HBB.out]; omega)
        have c1 := HC1.out
        clear ht hts hb hb1 hkS hkN hw hm2 hm3 hm4 hg2 hg3 hcv hBB1 hnm2
        subst hW1 hX
        go_wp2_with (fail)
        exact ⟨⟨i + 1, by omega, by simp, HN1.out, HN2.out, HBN.out⟩, by simp [intOf]; omega⟩
      · rw [Bool.not_eq_true] at hw
        have HK := Lib.hid (show (keysT ts)[i]? = some none by rw [HKT.out, hkN hw])
        rw [hw] at hbits
        have HN1 := Lib.hid (show MapG tSI W1 B (i + 1) (lastF (keysT ts) (i + 1)) from ((H1.out.below hb1).mono (by omega)).ext fun s => by rw [lastF_other HK.out])
        have HN2 := Lib.hid (show MapG tSI W1 (B + 1) (i + 1) (cntF (keysT ts) (i + 1)) from ((H2.out.below hb1).mono (by omega)).ext fun s => by rw [cntF_none HK.out])
        have HBN := Lib.hid hBB1
        clear ht hts hb hb1 hkS hkN hw hBB1 hnm2
        subst hW1 hX
        go_wp2_with (fail)
        exact ⟨⟨i + 1, by omega, by simp, HN1.out, HN2.out, HBN.out⟩, by simp [intOf]; omega⟩
    · obtain rfl : n = i := by omega
      obtain ⟨Wr, cnt0, hrg, hmr, hgr, hsr⟩ := H2.out.range
      replace hrg : (Instr.range 96 (.map (some (B + 1)))).run Tryz.prog wi = .ok (.pointer (some ⟨wi.heap.size, 0, none⟩)) Wr := hrg
      have hX1 := H1.out.lt
      have hX2 := H2.out.lt
      obtain ⟨r, hr⟩ : ∃ r, wi.heap.size = r := ⟨_, rfl⟩
      rw [hr] at hrg hmr hX1 hX2 hsr
      have hszw := hb.size
      rw [hr, HBB.out] at hszw
      have HN0 := Lib.hid (show MapG tSI Wr B n (strF (keysT ts) fun s => (cntF (keysT ts) n s).isSome) from (H1.out.kept hgr (by simp)).ext fun s => by
        have := strF_start (ks := keysT ts) s
        rw [HL.out] at this
        rw [this])
      have HR0 := Lib.hid hmr
      have HBR := Lib.hid (show Below w.heap.size w Wr from hb.grown hgr hb.size fun r hr => by cases hr)
      have HRR := Lib.hid hr
      clear hb hmr hgr hr
      go_wp2_with (fail)
      try rw [HRR.out]
      clear hrg
      go_loopw [34] (fun _ wr => ∃ (left : Str → Bool) (cnt : Nat), MapR tSI wr (B + 1) r n (cntF (keysT ts) n) left cnt ∧ MapG tSI wr B n (strF (keysT ts) left) ∧ Below w.heap.size w wr) (fun _ wr => wr.rangeLeft (B + 1) r)
      case atStart => exact ⟨_, _, HR0.out, HN0.out, HBR.out⟩
      case round =>
        obtain ⟨wj, rfl⟩ : ∃ wj : World, wj = wr := ⟨_, rfl⟩
        obtain ⟨left, cnt, hR, hO, hb⟩ := hrel
        have HB := Lib.hid hb
        have HO := Lib.hid hO
        rcases hR.next 0 with ⟨_, hall, hrun⟩ | ⟨s, v, W2, cnt', hk, hls, hfs, _, hrun, hR2, hlt, hg2, hs2, hen⟩
        · have HE := Lib.hid (show MapG tSI wj B n (sglF (keysT ts)) from HO.out.ext fun s => strF_end hall s)
          clear hb hO hR hall
          go_wp2_with (fail)
          go_ret
          exact ⟨B, rfl, HE.out, HB.out⟩
        · have hrun : (Instr.next (.pointer (some ⟨r, 0, none⟩)) false 0).run Tryz.prog wj = .ok (.tuple #[.bool true, .string (bs s), .int .i64 v]) W2 := hrun
          replace hen : (Instr.entry (.pointer (some ⟨r, 0, none⟩))).run Tryz.prog W2 = .ok (.tuple #[.string (bs s), .int .i64 v]) W2 := hen
          have hle := hR.left_eq
          have hsl : s.length ≤ 4611686018427387903 := by
            obtain ⟨x, hx⟩ : ∃ x, cntF (keysT ts) n s = some x := ⟨v, hfs⟩
            have : some s ∈ keysT ts := by
              rw [← HL.out, cntF_all] at hx
              split at hx
              · cases hx
              · exact List.count_pos_iff.1 (by omega)
            obtain ⟨t, ht, hkt⟩ := List.mem_map.1 this
            have hn := HNM.out t ht
            unfold keyT at hkt
            split at hkt
            · cases hkt
            · cases hkt; exact hn
          have hv : v = ((keysT ts).count (some s) : Nat) := by
            rw [← HL.out, cntF_all] at hfs
            split at hfs
            · cases hfs
            · cases hfs; rfl
          have hbw2 := hb.grown hg2 hb.size fun q hq => by cases hq; rw [HBB.out]; omega
          have hO2 := hO.kept hg2 (by simp; omega)
          by_cases hmany : 1 < (keysT ts).count (some s)
          · obtain ⟨W3, hd, hO3, hg3⟩ := hO2.drop (T := tSI) (s := s) hsl 0
            replace hd : (Builtin.delete_ #[96, 9] 0 #[.map (some B), .string (bs s)]).run Tryz.prog W2 = .ok (.tuple #[]) W3 := hd
            have d1 : decide (1 < v) = true := by rw [hv]; simp; omega
            have hR3 := hR2.kept hg3 (by simp) (by simp; omega)
            have HR3 := Lib.hid hR3
            have HO3 := Lib.hid (show MapG tSI W3 B n (strF (keysT ts) fun x => left x && !decide (x = s)) from hO3.ext fun x => by rw [strF_many hmany]; rfl)
            have HB3 := Lib.hid (hbw2.grown hg3 (by have := hbw2.size; omega) fun q hq => by cases hq; rw [HBB.out]; omega)
            have hle3 := hR3.left_eq
            clear hb hO hR hO2 hR2 hO3 hg3 hR3 hbw2 hmany hv hfs hk hls hsl
            go_wp2_with (fail)
            go_roundw
            case rel => exact ⟨_, cnt', HR3.out, HO3.out, HB3.out⟩
            case measure => rw [hle3, hle]; omega
          · have d1 : decide (1 < v) = false := by rw [hv]; simp; omega
            have HO3 := Lib.hid (show MapG tSI W2 B n (strF (keysT ts) fun x => left x && !decide (x = s)) from hO2.ext fun x => by rw [strF_few hmany])
            have HR3 := Lib.hid hR2
            have HB3 := Lib.hid hbw2
            have hle3 := hR2.left_eq
            clear hb hO hR hO2 hR2 hbw2 hmany hv hfs hk hls hsl
            go_wp2_with (fail)
            go_roundw
            case rel => exact ⟨_, cnt', HR3.out, HO3.out, HB3.out⟩
            case measure => rw [hle3, hle]; omega
end Go.Proofs.YtbahddjbncinbaaGreatDoor
