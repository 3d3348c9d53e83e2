/-
  RewritingCritical.
-/
import Derived.Test.YtamdonlncfmmmaaL6
import Derived.Test.YtamdonlncfmmmaaW16
namespace Go.Proofs.Ytamdonlncfmmmaa
open Go.RowKit Go.Ap Go.Shelf Go.Proofs

attribute [local go_sem] Oper.semAt_some bs_toList empty_toList bs_size ext_drop ext_take bs_append

/-- a rule that leads from a string to another one, and where -/
def Hit (rs : List Rule) (s y : Str) (i k : Nat) : Prop := ∃ r, rs[k]? = some r ∧ appl s i r = some y
theorem res_hit {rs : List Rule} {s y : Str} (h : y ∈ resL rs s) : ∃ i k, i < s.length ∧ k < rs.length ∧ Hit rs s y i k := by
  obtain ⟨i, r, hi, hr, ha⟩ := mem_res.1 h
  obtain ⟨k, hk⟩ := List.getElem?_of_mem hr
  exact ⟨i, k, hi, (List.getElem?_eq_some_iff.1 hk).1, r, hk, ha⟩
theorem crit7_law {rs : List Rule} (hf : fineB rs [] = true) : ((CrE rs).1 = 0 ∧ (CrE rs).2 = critL rs ∧ (critL rs).length ≤ 4096 ∧ (∀ z ∈ critL rs, z.1.length ≤ 10 ∧ ∀ (j : Nat) (y : Str), ([z.2.1, z.2.2] : List Str)[j]? = some y → ∃ i k, i < z.1.length ∧ k < rs.length ∧ Hit rs z.1 y i k) ∧ ∀ r ∈ rs, r.1.length ≤ 64 ∧ r.2.length ≤ 64) ∨ (CrE rs).1 = 4 := by
  obtain ⟨h1, _, hg⟩ := fine_ok hf
  rcases crE_rng h1 with ⟨h2, h3, h4⟩ | h
  · refine .inl ⟨h2, h3, h4, fun z hz => ⟨(crit_word h1 hg hz).1, fun j y hy => ?_⟩, short_chk h1⟩
    obtain ⟨x, x', b, hx, hx', hp⟩ := crit_mem hz
    obtain ⟨p1, p2⟩ := pair_res (ne_chk h1) hx hx' hp
    match j, hy with
    | 0, hy => simp only [List.getElem?_cons_zero, Option.some.injEq] at hy; subst hy; exact res_hit p1
    | 1, hy => simp only [List.getElem?_cons_succ, List.getElem?_cons_zero, Option.some.injEq] at hy; subst hy; exact res_hit p2
    | j + 2, hy => simp at hy
  · exact .inr h
theorem OwnS.capped {w : World} {base : Nat} {v : Value} {xs : List Str} (h : OwnS w base v xs) (hn : 0 < xs.length) : ∃ b c, v = .slice (some ⟨b, 0, none⟩) xs.length c ∧ xs.length ≤ c := by
  rcases h.2 with ⟨_, h0⟩ | ⟨g, cap, cur, rfl, hbb, hgg, hnc, hcm, hcs, htk⟩
  · omega
  · exact ⟨g, cap, rfl, hnc⟩
set_option maxRecDepth 100000 in
set_option maxHeartbeats 4000000 in
theorem law7 (a : Option Addr) (n c : Nat) (rs : List Rule) (w : World) (h : Rls w a n rs) :
    Calls Try.prog 7 #[.slice a n c] w fun e w' => e = .returned (.bool true) ∧ Below w.heap.size w w' := by
  have HX := Lib.hid (fun W (hb : Below w.heap.size w W) => h.mono (Nat.le_refl _) hb)
  have H32 := Lib.hid (fine32 a none n 0 c 0 rs [] w h (Sl.nil _ _) (by intro s hs; cases hs))
  have H13 := Lib.hid awake13
  have HL := Lib.hid h.len
  have hsm := h.small
  cases hf : fineB rs []
  · rw [hf] at H32
    clear hf HX h
    go_enter Try.func7, Try.ntmps7
    go_wp2_with (fail)
    refine H32.out.mono ?_
    rintro e w1 ⟨rfl, hb⟩
    have B1 := Lib.hid hb
    clear hb
    go_wp2_with (fail)
    refine (H13.out _).mono ?_
    rintro e w2 ⟨rfl, hb⟩
    go_wp2_with (fail)
    go_ret
    exact ⟨rfl, bstep B1.out hb⟩
  · rw [hf] at H32
    have HR := Lib.hid (fun W hb => callsIn_wide.1 (critical16 a n c rs W (HX.out W hb)))
    have HD := Lib.hid (crit7_law hf)
    clear hf h
    generalize critL rs = L at *
    generalize CrE rs = cr at *
    obtain ⟨f, M⟩ := cr
    simp only at HD HR
    go_enter Try.func7, Try.ntmps7
    go_wp2_with (fail)
    refine H32.out.mono ?_
    rintro e w1 ⟨rfl, hb⟩
    have B1 := Lib.hid hb
    clear hb
    go_wp2_with (fail)
    refine (HR.out _ B1.out).mono ?_
    rintro e w3 ⟨v, rfl, ho, hb⟩
    have B3 := Lib.hid (bstep B1.out hb)
    have HO := Lib.hid ho
    clear hb B1 HR H32 ho
    rcases HD.out with ⟨rfl, hM, hlen, hall, hsh⟩ | rfl
    · obtain rfl := hM
      have HALL := Lib.hid hall
      have HSH := Lib.hid hsh
      clear HD hall hsh
      obtain ⟨av, ac, rfl⟩ := HO.out.shape
      rw [List.length_map]
      generalize hm : M.length = m at *
      have HM := Lib.hid hm
      clear hm
      go_wp2_with (fail)
      go_loopw [33] (fun kv wr => ∃ (k : Nat), k ≤ m ∧ kv = .int .i64 k ∧ Below w3.heap.size w3 wr) (fun kv _ => m - (intOf kv).toNat)
      case atStart => exact ⟨0, Nat.zero_le _, rfl, Below.refl _ _⟩
      case round =>
        obtain ⟨k, hk, rfl, hbel⟩ := hrel
        have HBE := Lib.hid hbel
        clear hbel
        by_cases hkm : k < m
        · obtain ⟨x, hx⟩ : ∃ x, M[k]? = some x := ⟨_, List.getElem?_eq_getElem (by rw [HM.out]; exact hkm)⟩
          obtain ⟨b, bc, u, hav, c1, hu⟩ := HO.out.at (k := k) (xs := tripS x) (by simp [hx])
          injection hav with hav hlq hcap
          subst hav hcap
          clear hlq
          obtain ⟨g, gc, rfl, hgc⟩ := OwnS.capped hu (by simp [tripS])
          obtain ⟨g', gc', hge, _, hcell⟩ := hu.addr (by simp [tripS])
          injection hge with hge _ _
          injection hge with hge
          injection hge with hge
          subst hge
          have HC0 := Lib.hid (hcell 0 x.1 rfl)
          have HC2 := Lib.hid (fun (j : Nat) (y : Str) (hy : ([x.2.1, x.2.2] : List Str)[j]? = some y) => hcell (1 + j) y (by rw [Nat.add_comm]; exact hy))
          simp only [tripS, List.length_cons, List.length_nil] at c1 hgc
          obtain ⟨lx, hhit⟩ := HALL.out x (List.mem_of_getElem? hx)
          have HH := Lib.hid hhit
          clear hx hu hcell hhit
          have c1' := cell_keep HBE.out c1
          obtain ⟨s, t⟩ := x
          simp only at lx HH HC0 HC2
          clear c1
          go_wp2_with (fail)
          go_loopw [43] (fun kv wr => ∃ (k : Nat), k ≤ 2 ∧ kv = .int .i64 k ∧ Below w3.heap.size w3 wr) (fun kv _ => 2 - (intOf kv).toNat)
          case atStart => exact ⟨0, Nat.zero_le _, rfl, HBE.out⟩
          case round =>
            obtain ⟨j, hj, rfl, hbel⟩ := hrel
            have HB2 := Lib.hid hbel
            clear hbel c1'
            by_cases hj2 : j < 2
            · obtain ⟨y, hy⟩ : ∃ y, ([t.1, t.2] : List Str)[j]? = some y := ⟨_, List.getElem?_eq_getElem (by simpa using hj2)⟩
              have c2 := cell_keep HB2.out (HC2.out j y hy)
              have c0 := cell_keep HB2.out HC0.out
              obtain ⟨i0, k0, hi0, hk0, hhit⟩ := HH.out j y hy
              have HIT := Lib.hid hhit
              have HI0 := Lib.hid (And.intro hi0 hk0)
              clear hy hi0 hk0 hhit
              go_wp2_with (fail)
              go_loopw [9, 51] (fun fv iv wr => ∃ (i : Nat) (fd : Bool), i ≤ s.length ∧ fv = .bool fd ∧ iv = .int .i64 i ∧ (fd = true ∨ i ≤ i0) ∧ Below w3.heap.size w3 wr) (fun _ iv _ => s.length - (intOf iv).toNat)
              case atStart => exact ⟨0, false, Nat.zero_le _, rfl, rfl, .inr (Nat.zero_le _), HB2.out⟩
              case round =>
                obtain ⟨i, fd, hi, rfl, rfl, hfd, hbel⟩ := hrel
                have HB3 := Lib.hid hbel
                have HFD := Lib.hid hfd
                clear hbel hfd c2 c0
                by_cases his : i < s.length
                · go_wp2_with (fail)
                  go_loopw [9, 56] (fun fv kv wr => ∃ (k : Nat) (fd : Bool), k ≤ n ∧ fv = .bool fd ∧ kv = .int .i64 k ∧ (fd = true ∨ i < i0 ∨ (i = i0 ∧ k ≤ k0)) ∧ Below w3.heap.size w3 wr) (fun _ kv _ => n - (intOf kv).toNat)
                  case atStart => exact ⟨0, fd, Nat.zero_le _, rfl, rfl, HFD.out.elim .inl (fun h => .inr (by omega)), HB3.out⟩
                  case round =>
                    obtain ⟨q, fe, hq, rfl, rfl, hfe, hbel⟩ := hrel
                    have HB4 := Lib.hid hbel
                    have HFE := Lib.hid hfe
                    clear hbel hfe
                    by_cases hqn : q < n
                    · obtain ⟨⟨u, v⟩, b4, off4, hxx, rfl, hc1, hc2, hl1, hl2⟩ := (HX.out wr (bstep B3.out HB4.out)).at hqn
                      obtain ⟨lu, lv⟩ := HSH.out _ (List.mem_of_getElem? hxx)
                      have HXX := Lib.hid hxx
                      simp only at hc1 hc2 hl1 hl2 lu lv
                      have c0 := cell_keep HB4.out HC0.out
                      clear hxx
                      cases hp : u.isPrefixOf (s.drop i)
                      · have HN := Lib.hid (show fe = true ∨ i < i0 ∨ (i = i0 ∧ q + 1 ≤ k0) from by
                          rcases HFE.out with h1 | h1 | ⟨h1, h2⟩
                          · exact .inl h1
                          · exact .inr (.inl h1)
                          · by_cases hqk : q = k0
                            · exfalso
                              obtain ⟨r, hr, ha⟩ := HIT.out
                              rw [← hqk, HXX.out] at hr
                              injection hr with hr
                              subst hr
                              rw [← h1, appl, if_neg (by simp [hp])] at ha
                              cases ha
                            · exact .inr (.inr ⟨h1, by omega⟩))
                        have HC := Lib.hid (fun W => cut_no s u i W hp)
                        clear hp
                        go_wp2_with (fail)
                        obtain ⟨W4, hW4⟩ : ∃ W4, wr.alloc (.cells #[.string (bs u), .string (bs v)] 46) = W4 := ⟨_, rfl⟩
                        have b4 : Below wr.heap.size wr W4 := by rw [← hW4]; exact balloc _ _
                        have B4 := Lib.hid (bstep HB4.out b4)
                        have c4 := cell_keep b4 c0
                        have c40 : W4.cell? ⟨wr.heap.size, 0, none⟩ = some (.string (bs u)) := by rw [← hW4]; exact cell_fresh rfl rfl
                        have c41 : W4.cell? ⟨wr.heap.size, 1, none⟩ = some (.string (bs v)) := by rw [← hW4]; exact cell_fresh rfl rfl
                        rw [hW4]
                        clear hW4 b4 hc1 hc2 c0
                        go_quiet ((go_at_call 33; exact Calls.quiet_of_same (HC.out _)))
                        go_wp2_with (fail)
                        go_quiet (fail)
                        go_wp2_with (fail)
                        go_roundw
                        case rel => exact ⟨q + 1, fe, by omega, rfl, by go_num, HN.out, bstep B4.out (bdrewN _ _)⟩
                        case measure => simp [intOf]; omega
                      · have ha : appl s i (u, v) = some (s.take i ++ (v ++ s.drop (i + u.length))) := by rw [appl, if_pos hp, List.append_assoc]
                        have HC := Lib.hid (fun W => cut_yes s u i W hp)
                        have hmin : min i s.length = i := by omega
                        have g1 : ¬ 9223372036854775807 < i + v.length := by omega
                        have g2 : ¬ 9223372036854775807 < i + v.length + (s.length - (i + u.length)) := by omega
                        by_cases hz : s.take i ++ (v ++ s.drop (i + u.length)) = y
                        · have e1 : (s.take i ++ (v ++ s.drop (i + u.length)) == y) = true := by rw [beq_iff_eq]; exact hz
                          clear hp hz ha
                          go_wp2_with (fail)
                          obtain ⟨W4, hW4⟩ : ∃ W4, wr.alloc (.cells #[.string (bs u), .string (bs v)] 46) = W4 := ⟨_, rfl⟩
                          have b4 : Below wr.heap.size wr W4 := by rw [← hW4]; exact balloc _ _
                          have B4 := Lib.hid (bstep HB4.out b4)
                          have c4 := cell_keep b4 c0
                          have c40 : W4.cell? ⟨wr.heap.size, 0, none⟩ = some (.string (bs u)) := by rw [← hW4]; exact cell_fresh rfl rfl
                          have c41 : W4.cell? ⟨wr.heap.size, 1, none⟩ = some (.string (bs v)) := by rw [← hW4]; exact cell_fresh rfl rfl
                          rw [hW4]
                          clear hW4 b4 hc1 hc2 c0
                          go_quiet ((go_at_call 33; exact Calls.quiet_of_same (HC.out _)))
                          go_wp2_with (fail)
                          go_quiet (fail)
                          go_wp2_with (fail)
                          go_roundw
                          case rel => exact ⟨q + 1, true, by omega, rfl, by go_num, .inl rfl, bstep B4.out (bdrewN _ _)⟩
                          case measure => simp [intOf]; omega
                        · have e1 : (s.take i ++ (v ++ s.drop (i + u.length)) == y) = false := by rw [beq_eq_false_iff_ne]; exact hz
                          have HN := Lib.hid (show fe = true ∨ i < i0 ∨ (i = i0 ∧ q + 1 ≤ k0) from by
                            rcases HFE.out with h1 | h1 | ⟨h1, h2⟩
                            · exact .inl h1
                            · exact .inr (.inl h1)
                            · by_cases hqk : q = k0
                              · exfalso
                                obtain ⟨r, hr, hb⟩ := HIT.out
                                rw [← hqk, HXX.out] at hr
                                injection hr with hr
                                subst hr
                                rw [← h1, ha] at hb
                                injection hb with hb
                                exact hz hb
                              · exact .inr (.inr ⟨h1, by omega⟩))
                          clear hp hz ha
                          go_wp2_with (fail)
                          obtain ⟨W4, hW4⟩ : ∃ W4, wr.alloc (.cells #[.string (bs u), .string (bs v)] 46) = W4 := ⟨_, rfl⟩
                          have b4 : Below wr.heap.size wr W4 := by rw [← hW4]; exact balloc _ _
                          have B4 := Lib.hid (bstep HB4.out b4)
                          have c4 := cell_keep b4 c0
                          have c40 : W4.cell? ⟨wr.heap.size, 0, none⟩ = some (.string (bs u)) := by rw [← hW4]; exact cell_fresh rfl rfl
                          have c41 : W4.cell? ⟨wr.heap.size, 1, none⟩ = some (.string (bs v)) := by rw [← hW4]; exact cell_fresh rfl rfl
                          rw [hW4]
                          clear hW4 b4 hc1 hc2 c0
                          go_quiet ((go_at_call 33; exact Calls.quiet_of_same (HC.out _)))
                          go_wp2_with (fail)
                          go_quiet (fail)
                          go_wp2_with (fail)
                          go_roundw
                          case rel => exact ⟨q + 1, fe, by omega, rfl, by go_num, HN.out, bstep B4.out (bdrewN _ _)⟩
                          case measure => simp [intOf]; omega
                    · obtain rfl : q = n := by omega
                      go_wp2_with (fail)
                      go_roundw
                      case rel => exact ⟨i + 1, fe, by omega, rfl, by go_num, HFE.out.elim .inl (fun h => .inr (by have := HI0.out.2; have := HL.out; omega)), HB4.out⟩
                      case measure => simp [intOf]; omega
                · obtain rfl : i = s.length := by omega
                  have hfd : fd = true := by
                    rcases HFD.out with h1 | h1
                    · exact h1
                    · have := HI0.out.1; omega
                  subst hfd
                  go_wp2_with (fail)
                  go_roundw
                  case rel => exact ⟨j + 1, by omega, by go_num, HB3.out⟩
                  case measure => simp [intOf]; omega
            · obtain rfl : j = 2 := by omega
              go_wp2_with (fail)
              go_roundw
              case rel => exact ⟨k + 1, by omega, by go_num, HB2.out⟩
              case measure => simp [intOf]; omega
        · obtain rfl : m = k := by omega
          go_wp2_with (fail)
          refine (H13.out _).mono ?_
          rintro e w6 ⟨rfl, hb⟩
          go_wp2_with (fail)
          go_ret
          exact ⟨rfl, bstep (bstep B3.out HBE.out) hb⟩
    · clear HD
      go_wp2_with (fail)
      refine (H13.out _).mono ?_
      rintro e w6 ⟨rfl, hb⟩
      go_wp2_with (fail)
      go_ret
      exact ⟨rfl, bstep B3.out hb⟩
end Go.Proofs.Ytamdonlncfmmmaa
