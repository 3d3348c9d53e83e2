/-
  all: what any order of steps leads to.
-/
import Derived.Test.YtamdonlncfmmmaaWordA
import Derived.Test.YtamdonlncfmmmaaIter
namespace Go.Proofs.Ytamdonlncfmmmaa
open Go.RowKit Go.Ap Go.Shelf Go.Proofs

attribute [local go_sem] Oper.semAt_some bs_toList empty_toList bs_size ext_drop ext_take bs_append

theorem OwnS_q {base : Nat} (w : World) (hb : base ≤ w.heap.size) (x : Str) : OwnQ (w.alloc (.cells #[.string (bs x)] 9)) base (.slice (some ⟨w.heap.size, 0, none⟩) 1 1) [x] := OwnQ.one w hb x
set_option maxRecDepth 100000 in
set_option maxHeartbeats 4000000 in
theorem all37 (a : Option Addr) (n c : Nat) (rs : List Rule) (s : Str) (w : World) (h : Rls w a n rs) (hv : Val rs) (hs : s.length ≤ 4611686018427387903) :
    CallsIn Fence.wide 20 Try.prog 37 #[.slice a n c, .string (bs s)] w (GivesS w (allE rs s).1 (allE rs s).2) := by
  have hF54 : Fence.wide.fn 54 := trivial
  have hF55 : Fence.wide.fn 55 := trivial
  have hF56 : Fence.wide.fn 56 := trivial
  have hmm := @run_makeMap Try.prog
  have HH := Lib.hid h
  have HV := Lib.hid hv
  clear h hv
  have eg : ∀ args w, (callFunc 68 args).run Try.prog w = .ok (.enter 68 args) w := enters_of Try.func68 (by kernel_rfl) rfl
  obtain ⟨W1, hupd, hS1, hg1⟩ := SetM.add (x := s) (SetM.made ((w.alloc (.cells #[.slice none 0 0] 26)).alloc (.cells #[.int .i64 0] 27))) (by simp) hs
  simp only [World.size_alloc] at hupd hS1 hg1
  have hf : w.heap.size + 3 ≤ W1.heap.size := by have := hg1.size; simp at this; omega
  have HS1 := Lib.hid hS1
  have HG1 := Lib.hid hg1
  clear hS1 hg1
  refine callsIn_of_wp_marks Try.func37 rfl trivial ?_ rfl
  simp only [Try.ntmps37, List.size_toArray, List.length_cons, List.length_nil, Nat.reduceAdd, Nat.reduceSub, Array.replicate_succ, Array.replicate_zero, List.push_toArray, List.append_toArray, List.nil_append, List.cons_append]
  gi_wp2_with (fail)
  clear hupd
  refine wpIn_loop (fun a' w' => ∃ (u9 u10 u11 u18 u19 u20 u21 u22 u23 u24 u25 u26 u27 u28 u29 u30 u31 u32 u33 u34 u35 u36 u37 u38 u39 u40 u41 u42 u43 u44 u45 : Value) (Ds : List Nat) (i : Nat) (L N : List Str), StA w.heap.size (w.heap.size + 1 + 1) W1.heap.size (W1.heap.size + 1) (W1.heap.size + 1 + 1 + 1) rs s w w' Ds i L N ∧ a' = ⟨#[.slice a n c, .string (bs s), undef, undef, .pointer (some ⟨w.heap.size, 0, none⟩), .pointer (some ⟨w.heap.size + 1, 0, none⟩), .pointer (some ⟨W1.heap.size + 1, 0, none⟩), .map (some W1.heap.size), .pointer (some ⟨W1.heap.size + 1 + 1 + 1, 0, none⟩), u9, u10, u11, .map (some (w.heap.size + 1 + 1)), .string (bs s), .map (some (w.heap.size + 1 + 1)), .map (some W1.heap.size), .string (bs s), .slice (some ⟨W1.heap.size + 1 + 1, 0, none⟩) 1 1, u18, u19, u20, u21, u22, u23, u24, u25, u26, u27, u28, u29, u30, u31, u32, u33, u34, u35, u36, u37, u38, u39, u40, u41, u42, u43, u44, u45, undef, undef, undef], Ds.map mk⟩) (fun a' _ => 4097 - a'.defers.length) ?_ ?_
  · refine ⟨undef, undef, undef, undef, undef, undef, undef, undef, undef, undef, undef, undef, undef, undef, undef, undef, undef, undef, undef, undef, undef, undef, undef, undef, undef, undef, undef, undef, undef, undef, undef, [], 0, [s], [], ?_, rfl⟩
    have b0 := HG1.out
    have x4 : Boxed W1 w.heap.size 26 (.slice none 0 0) := (((Boxed.new w 26 (.slice none 0 0)).alloc _).alloc _).kept b0 (by simp <;> omega)
    have x5 : Boxed W1 (w.heap.size + 1) 27 (.int .i64 0) := by
      have := ((Boxed.new (w.alloc (.cells #[.slice none 0 0] 26)) 27 (.int .i64 0)).alloc (.map #[] 0)).kept b0 (by simp <;> omega)
      rwa [World.size_alloc] at this
    have x6 : Boxed (((W1.alloc (.map #[] 0)).alloc (.cells #[.map (some (w.heap.size + 1 + 1))] 65))) (W1.heap.size + 1) 65 (.map (some (w.heap.size + 1 + 1))) := by
      have := Boxed.new (W1.alloc (.map #[] 0)) 65 (.map (some (w.heap.size + 1 + 1)))
      rwa [World.size_alloc] at this
    have x7 := OwnS_q (base := w.heap.size) ((W1.alloc (.map #[] 0)).alloc (.cells #[.map (some (w.heap.size + 1 + 1))] 65)) (by simp; omega) s
    simp only [World.size_alloc] at x7
    have x8 : Boxed ((((W1.alloc (.map #[] 0)).alloc (.cells #[.map (some (w.heap.size + 1 + 1))] 65)).alloc (.cells #[.string (bs s)] 9)).alloc (.cells #[.slice (some ⟨W1.heap.size + 1 + 1, 0, none⟩) 1 1] 26)) (W1.heap.size + 1 + 1 + 1) 26 (.slice (some ⟨W1.heap.size + 1 + 1, 0, none⟩) 1 1) := by
      have := Boxed.new (((W1.alloc (.map #[] 0)).alloc (.cells #[.map (some (w.heap.size + 1 + 1))] 65)).alloc (.cells #[.string (bs s)] 9)) 26 (.slice (some ⟨W1.heap.size + 1 + 1, 0, none⟩) 1 1)
      simpa using this
    exact ⟨(((x4.alloc _).alloc _).alloc _).alloc _, (((x5.alloc _).alloc _).alloc _).alloc _, (((HS1.out.kept (World.grownBy_alloc _ _ none) (by simp)).kept (World.grownBy_alloc _ _ none) (by simp)).kept (World.grownBy_alloc _ _ none) (by simp)).kept (World.grownBy_alloc _ _ none) (by simp),
      (x6.alloc _).alloc _, (((SetM.made W1).kept (World.grownBy_alloc _ _ none) (by simp)).kept (World.grownBy_alloc _ _ none) (by simp)).kept (World.grownBy_alloc _ _ none) (by simp),
      ⟨_, x8, x7.kept (World.grownBy_alloc _ _ none) (by simp [Value.ownBlock])⟩, AtB.start, ⟨by simp, fun k hk => by cases hk⟩, rfl, by
        have h1 : Below w.heap.size w W1 := (((((Below.refl _ w).alloc (Nat.le_refl _) _).alloc (by simp) _).alloc (by simp; omega) _).grown b0 (by simp; omega) (fun k hk => by injection hk with hk; omega))
        exact (((h1.alloc (by omega) _).alloc (by simp; omega) _).alloc (by simp; omega) _).alloc (by simp; omega) _⟩
  · rintro a' W ⟨u9, u10, u11, u18, u19, u20, u21, u22, u23, u24, u25, u26, u27, u28, u29, u30, u31, u32, u33, u34, u35, u36, u37, u38, u39, u40, u41, u42, u43, u44, u45, Ds, i, L, N, hst, rfl⟩
    have hst0 := hst
    obtain ⟨b4, b5, m1, b6, m2, ⟨qv, b8, hq⟩, hat, hmk, hnum, hbel⟩ := hst0
    have HST := Lib.hid hst
    clear hst
    have hle := hat.le
    have hszW := b8.lt
    have B4 := Lib.hid b4
    have B5 := Lib.hid b5
    have M1 := Lib.hid m1
    have B6 := Lib.hid b6
    have M2 := Lib.hid m2
    have B8 := Lib.hid b8
    have HQ := Lib.hid hq
    have HAT := Lib.hid hat
    have HMK := Lib.hid hmk
    have HNUM := Lib.hid hnum
    have HBEL := Lib.hid hbel
    have c8 := b8.cell
    have f8 := b8.frozen
    by_cases hil : i < L.length
    · obtain ⟨x, hx⟩ : ∃ x, L[i]? = some x := ⟨L[i], List.getElem?_eq_getElem hil⟩
      have hdr : L.drop i = x :: L.drop (i + 1) := by rw [List.drop_eq_getElem_cons hil]; rw [List.getElem?_eq_getElem hil] at hx; injection hx with hx; rw [hx]
      rw [hdr] at hq
      have hlen := hq.len
      obtain ⟨a0, hia, hca⟩ := hq.head
      obtain ⟨qv', hsl, hq', hob⟩ := hq.tail
      have HX := Lib.hid hx
      have hxl : x.length ≤ 4611686018427387903 := Nat.le_trans (hat.len x (List.mem_of_getElem? hx)) hs
      rw [List.length_cons] at hlen
      obtain ⟨mq, hmq⟩ : ∃ mq, (L.drop (i + 1)).length = mq := ⟨_, rfl⟩
      rw [hmq] at hlen
      obtain ⟨gq, oq, cq, rfl⟩ := hq'.form
      rw [hmq] at hsl hq' hob
      have HQ' := Lib.hid hq'
      have d1 : decide (0 < ((mq + 1 : Nat) : Int)) = true := by simp
      clear hmq hdr hx hq' hob hq hbel hmk hnum hat b4 b5 m1 b6 m2 b8 HQ
      gi_wp2_with (fail)
      refine (callsIn_wide.2 (results54 _ _ _ _ _)).mono ?_
      rintro en w' ⟨rfl, hw'⟩
      simp only [World.size_alloc] at hw' ⊢
      have hs8 : (W.setCell ⟨W1.heap.size + 1 + 1 + 1, 0, none⟩ (.slice (some ⟨gq, oq, none⟩) mq cq)).heap.size = W.heap.size := by simp [World.setCell]
      rw [hs8]
      obtain ⟨hIA, hbw, hcw, hcr, hszB⟩ := start_IA (x := x) (a := a) (n := n) (c := c) HST.out (by omega) HQ'.out w' hw'
      have HIA := Lib.hid hIA
      have HSEQ := Lib.hid (fun m hm => results_stopsP a n c rs x w' w HH.out hxl (W.heap.size + 1 + 1) (W.heap.size + 1) hbw hcw hcr m hm)
      clear hw' hs8 hlen hia hca hsl hIA hcw hcr c8 f8
      gi_wp2_with (fail)
      refine wpIn_rangeFunc_ownG (F := Fence.wide) rfl (by omega) (gf := 68) rfl trivial eg
        (HSEQ.out _ (by omega)) KeepR.trans (keepR_b (w := w') (by omega) (by omega) (by omega)) (Below.refl _ _) (fun _ => rfl)
        (fun (pre : List {y : Str // y ∈ resL rs x}) W' => IA w.heap.size (w.heap.size + 1 + 1) W1.heap.size (W1.heap.size + 1) (W1.heap.size + 1 + 1 + 1) W.heap.size (W.heap.size + 1 + 1) (W.heap.size + 1) w Ds N i (expandL L (pre.map (·.1))) (decide (pre = [])) W')
        (fun cd (pre : List {y : Str // y ∈ resL rs x}) W' => cd = .ret ∧ 4096 < (expandL L (pre.map (·.1))).length ∧ Boxed W' w.heap.size 26 (.slice none 0 0) ∧ Boxed W' (w.heap.size + 1) 27 (.int .i64 4) ∧ Marks w.heap.size W' Ds ∧ Below w.heap.size w W')
        (fun _ _ _ _ hI hg hr => hI.own (B := w'.heap.size) hg hr (by omega) (by omega) (by omega) (by omega) (by omega) (by omega) (fun D hD => by have := HMK.out.lt D hD; omega))
        (fun _ _ _ _ _ hI hg hr => by
          obtain ⟨h1, h2, h3, h4, h5, h6⟩ := hI
          exact ⟨h1, h2, boxed_k h3 hg hr, boxed_k h4 hg hr, ⟨h5.1, fun k hk => ⟨(h5.2 k hk).1, (hg.block k (h5.lt k hk) fun he => by have := (hr k he.symm).1; have := HMK.out.lt k hk; omega).trans (h5.2 k hk).2⟩⟩, h6.grown hg (by have := h3.lt; omega) fun k hk => by have := (hr k hk).1; omega⟩)
        (by simpa [expandL_nil] using HIA.out)
        (fun y => { tmps := #[.slice a n c, .string (bs s), undef, undef, .pointer (some ⟨w.heap.size, 0, none⟩), .pointer (some ⟨w.heap.size + 1, 0, none⟩), .pointer (some ⟨W1.heap.size + 1, 0, none⟩), .map (some W1.heap.size), .pointer (some ⟨W1.heap.size + 1 + 1 + 1, 0, none⟩), .string (bs x), .pointer (some ⟨W.heap.size, 0, none⟩), .string (bs y.1), .map (some (w.heap.size + 1 + 1)), .string (bs s), .map (some (w.heap.size + 1 + 1)), .map (some W1.heap.size), .string (bs s), .slice (some ⟨W1.heap.size + 1 + 1, 0, none⟩) 1 1, qv, .int .i64 (mq + 1), .bool true, qv, .pointer (some a0), .string (bs x), qv, .slice (some ⟨gq, oq, none⟩) mq cq, .slice a n c, .string (bs x), .func (.func 68) #[] #[.pointer (some ⟨W.heap.size + 1 + 1, 0, none⟩), .pointer (some ⟨W.heap.size + 1, 0, none⟩)], .string (bs y.1), u30, u31, u32, u33, u34, u35, u36, u37, u38, u39, u40, u41, u42, u43, u44, u45, undef, undef, undef], defers := [] }) ?assign ?body ?done ?stop
      case assign =>
        intro l y W' K hK
        gi_wp2
        exact hK
      case body =>
        rintro l pre y W' hI hlt
        have hyl : y.1.length ≤ 4611686018427387903 := Nat.le_trans (resL_len HV.out y.2) hxl
        obtain ⟨LL, hLL⟩ : ∃ LL, expandL L (pre.map (·.1)) = LL := ⟨_, rfl⟩
        have HLL := Lib.hid hLL
        rw [hLL] at hI
        have hLi : i + 1 ≤ LL.length := by rw [← hLL]; have := (expandL_pre (L := L) (ys := pre.map (·.1))).length_le; omega
        clear hLL
        have hI2 := hI.ends (by omega)
        have c10 := hI.b10.cell
        have f10 := hI.b10.frozen
        have c6 := hI2.b6.cell
        have hlook := hI2.m1.look hyl
        have HI := Lib.hid hI
        have HI2 := Lib.hid hI2
        have HKF := Lib.hid (show KeepsFrom w'.heap.size W' (W'.setCell ⟨W.heap.size, 0, none⟩ (.bool false)) from keepsFrom_grown (grownBy_setAt _ _ _ _) (fun r hr => by injection hr with hr; subst hr; exact .inr ⟨_, _, _, hI.b10⟩))
        have HKR := Lib.hid (show KeepR w.heap.size (W.heap.size + 1 + 1) (W.heap.size + 1) W' (W'.setCell ⟨W.heap.size, 0, none⟩ (.bool false)) from keepR_grown (grownBy_setAt _ _ _ _) hI.lw.1 hI.lw.2 (fun r hr => by injection hr with hr; omega) (by have := hI.lw.1; omega))
        have HEX := Lib.hid (show expandL L ((pre ++ [y]).map (·.1)) = addN LL y.1 by rw [List.map_append, List.map_singleton, expandL_snoc, HLL.out])
        have hne : decide (pre ++ [y] = []) = false := by simp
        have HNE := Lib.hid hne
        clear hI hI2 hne
        by_cases hmem : y.1 ∈ LL
        · rw [decide_eq_true hmem] at hlook
          have HAD := Lib.hid (show addN LL y.1 = LL by rw [addN, if_pos hmem])
          clear hmem
          gi_wp2_with (fail)
          refine ⟨HKF.out, HKR.out, ?_⟩
          show IA w.heap.size (w.heap.size + 1 + 1) W1.heap.size (W1.heap.size + 1) (W1.heap.size + 1 + 1 + 1) W.heap.size (W.heap.size + 1 + 1) (W.heap.size + 1) w Ds N i (expandL L ((pre ++ [y]).map (·.1))) (decide (pre ++ [y] = [])) _
          rw [HEX.out, HAD.out, HNE.out]
          exact HI2.out
        · rw [decide_eq_false hmem] at hlook
          have HAD := Lib.hid (show addN LL y.1 = LL ++ [y.1] by rw [addN, if_neg hmem])
          obtain ⟨V2, qw, hupd2, hlen2, c62, c82, e4, e5, emk, ebel, ekf, g3, o3, n3, k3, V3, happ, c83, f83, hkf3, hkr3, hIA3⟩ := HI2.out.push hmem hyl (by omega) (by omega) (by omega) hLi (by omega) (by omega) (by omega) (by omega) (show w.heap.size + 1 + 1 < w'.heap.size by omega)
          have HE4 := Lib.hid e4
          have HE5 := Lib.hid e5
          have HEM := Lib.hid emk
          have HEB := Lib.hid ebel
          have HEK := Lib.hid ekf
          have HK3 := Lib.hid hkf3
          have HR3 := Lib.hid hkr3
          have HI3 := Lib.hid hIA3
          have c4 := e4.cell
          have f4 := e4.frozen
          have e5' := e5.kept (grownBy_setAt V2 w.heap.size 0 (.slice none 0 0)) (by simp)
          have c5 := e5'.cell
          have f5 := e5'.frozen
          have HE5' := Lib.hid e5'
          have hle4 := HI.out.le
          obtain ⟨ln, hln⟩ : ∃ ln, LL.length = ln := ⟨_, rfl⟩
          have HLN := Lib.hid hln
          rw [hln] at hlen2 hle4
          clear hmem e4 e5 emk ebel ekf hkf3 hkr3 hIA3 hln e5' hLi
          by_cases h4 : ln = 4096
          · have d4 : decide (4096 < (ln : Int) + 1) = true := by simp; omega
            have HOV := Lib.hid (show 4096 < (expandL L ((pre ++ [y]).map (·.1))).length by rw [HEX.out, HAD.out, List.length_append, HLN.out, List.length_singleton]; omega)
            clear h4 c83 f83 happ
            gi_wp2_with (fail)
            have g4 := grownBy_setAt V2 w.heap.size 0 (.slice none 0 0)
            have g5 := grownBy_setAt (V2.setCell ⟨w.heap.size, 0, none⟩ (.slice none 0 0)) (w.heap.size + 1) 0 (.int .i64 4)
            have q4 := HE4.out.set (.slice none 0 0)
            refine ⟨HKF.out.trans (HEK.out.trans ((keepsFrom_grown g4 (fun r hr => by injection hr with hr; subst hr; exact .inr ⟨_, _, _, HE4.out⟩)).trans (keepsFrom_grown g5 (fun r hr => by injection hr with hr; subst hr; exact .inr ⟨_, _, _, HE5'.out⟩)))), rfl, HOV.out, q4.kept g5 (by simp), HE5'.out.set _, (HEM.out.grown g4 (fun r hr => by injection hr with hr; subst hr; exact cells_ne_mark HE4.out)).grown g5 (fun r hr => by injection hr with hr; subst hr; exact cells_ne_mark HE5'.out), (HEB.out.setCell (p := ⟨w.heap.size, 0, none⟩) (by simp) _).setCell (p := ⟨w.heap.size + 1, 0, none⟩) (by simp) _⟩
          · have d4 : decide (4096 < (ln : Int) + 1) = false := by simp; omega
            have hlt4 : ln + 1 ≤ 4096 := by omega
            have HAP := Lib.hid happ
            clear h4 c4 f4 c5 f5 happ
            gi_wp2_with (gi_at_builtin; refine wpListIn_append_run _ rfl _ _ 26 rfl _ _ _ _ rfl rfl HAP.out ?_)
            refine ⟨HKF.out.trans HK3.out, HKR.out.trans HR3.out, ?_⟩
            show IA w.heap.size (w.heap.size + 1 + 1) W1.heap.size (W1.heap.size + 1) (W1.heap.size + 1 + 1 + 1) W.heap.size (W.heap.size + 1 + 1) (W.heap.size + 1) w Ds N i (expandL L ((pre ++ [y]).map (·.1))) (decide (pre ++ [y] = [])) _
            rw [HEX.out, HAD.out, HNE.out]
            exact HI3.out (by rw [HLN.out]; exact hlt4)
      case done =>
        rintro D ys W' hD hS hI hK
        have hpre : expandL L (ys.map (·.1)) = expandL L (resL rs x) := by rw [show ys.map (·.1) = resL rs x from hS]
        have hemp : decide (ys = []) = decide (resL rs x = []) := by
          have h2 : ys.map (·.1) = resL rs x := hS
          rw [decide_eq_decide]
          exact ⟨fun he => by rw [← h2, he]; rfl, fun he => List.map_eq_nil_iff.1 (h2.trans he)⟩
        rw [hpre, hemp] at hI
        have HI := Lib.hid hI
        have HK := Lib.hid hK
        have hnx := HAT.out.next HV.out HX.out hI.le
        have HNX := Lib.hid hnx
        have c10 := hI.b10.cell
        have hxN : x.length ≤ 4611686018427387903 := hxl
        obtain ⟨V2, hupd, hm2, hg2⟩ := hI.m2.add (x := x) (by have := HAT.out.nlen; omega) hxl
        have HM2 := Lib.hid hm2
        have HG2 := Lib.hid hg2
        clear hpre hemp hS hK hnx hm2 hg2
        by_cases hz : resL rs x = []
        · have HZ := Lib.hid hz
          rw [decide_eq_true hz] at c10
          clear hI hz
          gi_wp2_with (fail)
          refine ⟨⟨_, _, _, _, _, _, _, _, _, _, _, _, _, _, _, _, _, _, _, _, _, _, _, _, _, _, _, _, _, _, _, D :: Ds, i + 1, expandL L (resL rs x), N ++ [x], ?_, rfl⟩, ?_⟩
          · have h1 := HNX.out
            rw [if_pos HZ.out] at h1
            obtain ⟨i4, i5, i1, i6, i2, ⟨qn, i8, iq, _⟩, _, i10, ile, ind, imk, ibel⟩ := HI.out
            have hg := HG2.out
            exact ⟨i4.kept hg (fun he => box_set i4 i2 (Option.some.inj he)), i5.kept hg (fun he => box_set i5 i2 (Option.some.inj he)), i1.kept hg (by simp; omega), i6.kept hg (fun he => box_set i6 i2 (Option.some.inj he)), HM2.out, ⟨qn, i8.kept hg (fun he => box_set i8 i2 (Option.some.inj he)), iq.kept hg (set_q i2 iq)⟩, h1,
              (imk.cons (by omega) (fun k hk => by have := HMK.out.lt k hk; omega) HK.out).grown hg (fun r hr => by injection hr with hr; subst hr; exact set_ne_mark i2), by simp [HNUM.out], ibel.grown hg (by have := i4.lt; omega) (fun k hk => by injection hk with hk; omega)⟩
          · have := HNUM.out
            simp; omega
        · have HZ := Lib.hid hz
          rw [decide_eq_false hz] at c10
          clear hI hz
          gi_wp2_with (fail)
          refine ⟨⟨_, _, _, _, _, _, _, _, _, _, _, _, _, _, _, _, _, _, _, _, _, _, _, _, _, _, _, _, _, _, _, D :: Ds, i + 1, expandL L (resL rs x), N, ?_, rfl⟩, ?_⟩
          · have h1 := HNX.out
            rw [if_neg HZ.out] at h1
            obtain ⟨i4, i5, i1, i6, i2, ⟨qn, i8, iq, _⟩, _, i10, ile, ind, imk, ibel⟩ := HI.out
            exact ⟨i4, i5, i1, i6, i2, ⟨qn, i8, iq⟩, h1, imk.cons (by omega) (fun k hk => by have := HMK.out.lt k hk; omega) HK.out, by simp [HNUM.out], ibel⟩
          · have := HNUM.out
            simp; omega
      case stop =>
        rintro D cd pre W' hD hpre ⟨rfl, h4, hb4, hb5, hmk, hbel⟩ hK
        have HD := Lib.hid (HAT.out.over HX.out hpre h4)
        have H4 := Lib.hid hb4
        have H5 := Lib.hid hb5
        have HM := Lib.hid (hmk.cons (D := D) (by omega) (fun k hk => by have := HMK.out.lt k hk; omega) hK)
        have HBE := Lib.hid hbel
        clear hpre h4 hb4 hb5 hmk hbel hK
        gi_wp2_with (fail)
        refine leaves_marks (e := w.heap.size) (D :: Ds) W' HM.out fun W2 hsh => ?_
        have e1 := (hsh.boxed H4.out).cell
        have e2 := (hsh.boxed H5.out).cell
        exact ⟨.tuple #[.slice none 0 0, .int .i64 4], by simp [results, Try.f37, go_sem, e1, e2], tr_ret HD.out (OwnS.nil _ _) (HBE.out.trans hsh.below)⟩
    · have hil2 : L.length ≤ i := by omega
      have hdr : L.drop i = [] := List.drop_eq_nil_of_le hil2
      rw [hdr] at hq
      have hlen := hq.len
      have HDN := Lib.hid (hat.done (by have := hat.il; omega))
      have c4 := b4.cell
      have f4 := b4.frozen
      have g4 := grownBy_setAt W w.heap.size 0 (.slice none 0 0)
      have hnl := hat.nlen
      have hnn := Lib.hid hat.nn
      have HSK := Lib.hid (fun W' (h : SetM W' W1.heap.size N) => Try.slices_Sorted_keys_55_56 W1.heap.size N.length (setD N) (plainElem Try.prog 4) W' h (by rw [setD_size N hnn.out]; unfold maxLen; omega) (by rw [setD_size N hnn.out]; omega))
      clear hdr hil2 hq hat
      gi_wp2_with (fail)
      refine (callsIn_wide.2 (callsIn_wide.1 (Try.maps_Keys_56 (some W1.heap.size) _))).mono ?_
      rintro en w' ⟨rfl, hw'⟩
      subst hw'
      gi_wp2_with (fail)
      refine (callsIn_wide.2 (callsIn_wide.1 (HSK.out _ M2.out))).mono ?_
      rintro en w' ⟨v, ss, rfl, hperm, hown, -, hbel2⟩
      have hso : sortS N = ss.mergeSort fun x y => decide (x ≤ y) := (mergeSort_of_perm (setD_keys hnn.out hperm)).symm
      have hown2 : OwnS w' w.heap.size v (sortS N) := by
        refine OwnS.mono (base := (W.alloc (.cells #[.map (some W1.heap.size)] 65)).heap.size) ?_ (by simp; omega)
        unfold OwnS
        rw [hso, List.length_mergeSort]
        exact hown
      have z4 : Boxed w' w.heap.size 26 (.slice none 0 0) := (hbel2.block _ (by simp; omega)).trans (B4.out.alloc _)
      have z5 : Boxed w' (w.heap.size + 1) 27 (.int .i64 0) := (hbel2.block _ (by have := B5.out.lt; simp; omega)).trans (B5.out.alloc _)
      have zmk : Marks w.heap.size w' Ds := (marks_alloc HMK.out _).below hbel2
      have zbel : Below w.heap.size w w' := (HBEL.out.alloc (by omega) _).trans (hbel2.mono (by simp; omega))
      obtain ⟨A, nn, cc, rfl⟩ : ∃ A nn cc, v = .slice A nn cc := by
        rcases hown2.2 with ⟨rfl, _⟩ | ⟨g, cap, _, rfl, _⟩
        · exact ⟨_, _, _, rfl⟩
        · exact ⟨_, _, _, rfl⟩
      have HO := Lib.hid hown2
      have HZM := Lib.hid zmk
      have HZB := Lib.hid zbel
      have Z4 := Lib.hid z4
      have c4 := z4.cell
      have f4 := z4.frozen
      have g4 := grownBy_setAt w' w.heap.size 0 (.slice A nn cc)
      have z5' := z5.kept g4 (by simp)
      have Z5 := Lib.hid z5'
      have c5 := z5'.cell
      have f5 := z5'.frozen
      have G4 := Lib.hid g4
      clear hso hown hown2 hperm hbel2 z4 z5 zmk zbel g4 z5'
      gi_wp2_with (fail)
      have g5 := grownBy_setAt (w'.setCell ⟨w.heap.size, 0, none⟩ (.slice A nn cc)) (w.heap.size + 1) 0 (.int .i64 0)
      refine leaves_marks (e := w.heap.size) Ds _ ((HZM.out.grown G4.out (fun r hr => by injection hr with hr; subst hr; exact cells_ne_mark Z4.out)).grown g5 (fun r hr => by injection hr with hr; subst hr; exact cells_ne_mark Z5.out)) fun W2 hsh => ?_
      have q4 : Boxed (w'.setCell ⟨w.heap.size, 0, none⟩ (.slice A nn cc)) w.heap.size 26 (.slice A nn cc) := Z4.out.set _
      have e1 := (hsh.boxed (q4.kept g5 (by simp))).cell
      have e2 := (hsh.boxed (Z5.out.set (.int .i64 0))).cell
      have ho2 := (World.ownsRow.kept HO.out G4.out (.inr (fun he => (Z4.out.not_row (by decide) HO.out) he.symm))).kept g5 (.inr (fun he => (Z5.out.not_row (by decide) (World.ownsRow.kept HO.out G4.out (.inr (fun he => (Z4.out.not_row (by decide) HO.out) he.symm)))) he.symm))
      exact ⟨.tuple #[.slice A nn cc, .int .i64 0], by simp [results, Try.f37, go_sem, e1, e2], tr_ret HDN.out (hsh.owns ho2) (((HZB.out.setCell (p := ⟨w.heap.size, 0, none⟩) (by simp) _).setCell (p := ⟨w.heap.size + 1, 0, none⟩) (by simp) _).trans hsh.below)⟩
end Go.Proofs.Ytamdonlncfmmmaa
