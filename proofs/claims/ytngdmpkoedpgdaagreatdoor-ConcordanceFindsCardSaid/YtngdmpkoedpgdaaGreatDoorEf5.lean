/-
  strings.EqualFold where the first string is ASCII, and the second any bytes: it answers.
-/
import Derived.Test.YtngdmpkoedpgdaaGreatDoorSf5
import Derived.Test.YtngdmpkoedpgdaaGreatDoorShc
import Derived.ScopeJumps
import Derived.WalkMore
import Derived.Laws.RangeAny
import Derived.Shelf.Unicode.DecodeLastEight
namespace Go.Ap
open Go Go.RowKit
theorem Utf8T.mono {g3 g4 B : Nat} {w w' : World} (h : Lib.Utf8Tabs g3 g4 w) (hB : w.heap.size ≤ B) (hb : Below B w w') : Lib.Utf8Tabs g3 g4 w' :=
  ⟨fun c hc => cell_kept hB hb (h.1 c hc), fun i hi => ⟨cell_kept hB hb (h.2 i hi).1, cell_kept hB hb (h.2 i hi).2⟩⟩
/-- the next rune of a string that is ASCII, wherever the world has grown to -/
theorem next_ascii {P : Program} (W : World) (s : Str) (pos g : Nat) (h : pos < s.length) (ha : s[pos].toNat < 128) (hg : W.heap[g]? = some (.stringIter (bs s) pos)) (ty : TypeId) :
    (Instr.next (.pointer (some ⟨g, 0, none⟩)) true ty).run P W = .ok (.tuple #[.bool true, .int .i64 pos, .int .i32 ((s[pos].toNat : Nat) : Int)]) { W with heap := W.heap.setIfInBounds g (.stringIter (bs s) (pos + 1)) } := by
  have hp : pos < (bs s).size := by rw [bs_size]; exact h
  have hb : (bs s)[pos]'hp = s[pos] := bs_get hp
  have hd : Utf8.decode (bs s) pos = (s[pos].toNat, 1) := by
    rw [decode_ascii (bs s) pos hp (by rw [hb]; exact ha), hb]
  simp only [Instr.next, getObj, setObj, Sem.run_bind, Sem.run, hg, Result.andThen, hp, if_true, hd]
  simp [goInt]
  rfl
theorem next_end {P : Program} (W : World) (s : Str) (pos g : Nat) (h : ¬ pos < s.length) (hg : W.heap[g]? = some (.stringIter (bs s) pos)) (ty : TypeId) :
    (Instr.next (.pointer (some ⟨g, 0, none⟩)) true ty).run P W = .ok (.tuple #[.bool false]) W := by
  have hp : ¬ pos < (bs s).size := by rw [bs_size]; exact h
  simp [Instr.next, getObj, Sem.run, hg, hp]
theorem iter_set_below {W w : World} {g B : Nat} {o : Obj} (hB : B ≤ W.heap.size) (hg : B ≤ g) (hb : Below B w W) : Below B w { W with heap := W.heap.setIfInBounds g o } := by
  refine hb.grown (row := some g) ⟨rfl, rfl, rfl, by simp, fun j _ hk => ?_⟩ hB fun k hk => by cases hk; exact hg
  simp only [Array.getElem?_setIfInBounds]
  rw [if_neg (fun e => hk (by rw [e]))]
/-- an activation of 123 slots, slot by slot -/
theorem act_letters (a : Act) (hs : a.tmps.size = 123) (hd : a.defers = []) : ∃ T : Nat → Value, a = { tmps := #[T 0, T 1, T 2, T 3, T 4, T 5, T 6, T 7, T 8, T 9, T 10, T 11, T 12, T 13, T 14, T 15, T 16, T 17, T 18, T 19, T 20, T 21, T 22, T 23, T 24, T 25, T 26, T 27, T 28, T 29, T 30, T 31, T 32, T 33, T 34, T 35, T 36, T 37, T 38, T 39, T 40, T 41, T 42, T 43, T 44, T 45, T 46, T 47, T 48, T 49, T 50, T 51, T 52, T 53, T 54, T 55, T 56, T 57, T 58, T 59, T 60, T 61, T 62, T 63, T 64, T 65, T 66, T 67, T 68, T 69, T 70, T 71, T 72, T 73, T 74, T 75, T 76, T 77, T 78, T 79, T 80, T 81, T 82, T 83, T 84, T 85, T 86, T 87, T 88, T 89, T 90, T 91, T 92, T 93, T 94, T 95, T 96, T 97, T 98, T 99, T 100, T 101, T 102, T 103, T 104, T 105, T 106, T 107, T 108, T 109, T 110, T 111, T 112, T 113, T 114, T 115, T 116, T 117, T 118, T 119, T 120, T 121, T 122], defers := [] } ∧ ∀ k v, a.tmps[k]? = some v → T k = v := by
  obtain ⟨ts, ds⟩ := a
  simp only at hs hd
  subst hd
  have e : ts = ((List.range 123).map fun k => ts.getD k undef).toArray := by
    apply Array.ext
    · simp [hs]
    · intro i h1 h2
      simp [Array.getD, h1]
  refine ⟨fun k => ts.getD k undef, ?_, fun k v hv => ?_⟩
  · congr 1
  · simp only at hv
    simp [Array.getD, Array.getElem?_eq_some_iff] at hv ⊢
    obtain ⟨h1, h2⟩ := hv
    simp [h1, h2]
end Go.Ap
namespace Go.Proofs.YtngdmpkoedpgdaaGreatDoor
open Go.RowKit Go.Ap Go.Shelf Go.Proofs

attribute [local go_sem] Oper.semAt_some bs_toList empty_toList bs_size bs_extract
abbrev UT (w : World) : Prop := Lib.Utf8Tabs 4 5 w
/-- where the jump arrives -/
def EfJ (w : World) (s t : Str) (M : Nat) (a' : Act) (w' : World) : Prop := w = w' ∧ a'.tmps.size = 123 ∧ a'.defers = [] ∧ a'.tmps[0]? = some (.string (bs s)) ∧ a'.tmps[1]? = some (.string (bs t)) ∧ ∃ i : Nat, i ≤ M ∧ a'.tmps[5]? = some (.int .i64 ((i : Nat) : Int))
set_option maxRecDepth 100000 in
set_option maxHeartbeats 8000000 in
theorem eqFoldAny (s t : Str) (w : World) (hs : ∀ c ∈ s, c.toNat < 128) (hl : s.length ≤ 4096) (hl2 : t.length ≤ 4096) (hf : FT w) (hu : UT w) :
    Calls Tryz.prog 33 #[.string (bs s), .string (bs t)] w fun e w' => (∃ b, e = .returned (.bool b)) ∧ Below w.heap.size w w' := by
  have HS := Lib.hid (fun (i : Nat) (h : i < s.length) => hs s[i] (List.getElem_mem h))
  have HF := Lib.hid hf
  have HU := Lib.hid hu
  obtain ⟨M, hM⟩ : ∃ M : Nat, min (s.length : Int) (t.length : Int) = (M : Int) := ⟨min s.length t.length, by omega⟩
  have hMs : M ≤ s.length := by omega
  have hMt : M ≤ t.length := by omega
  have hmin : ∀ (ts : Array TypeId) (tt : TypeId) (W : World), (Builtin.min_ ts tt #[.int .i64 (s.length : Int), .int .i64 (t.length : Int)]).run Tryz.prog W = .ok (.int .i64 (M : Int)) W := fun ts tt W => by
    rw [← hM]
    simp [Builtin.min_, Builtin.min2]
    omega
  clear hs hf hu hM
  go_enter Tryz.func33, Tryz.ntmps33
  go_wp2_with (fail)
  refine wp_scope_jumps 0 (EfJ w s t M) (fun _ _ => 0) rfl ?_ ?_
  · generalize hE : Exit.jump 0 (EfJ w s t M) _ = E
    have HE := Lib.hid hE
    clear hE
    go_wp2_with (fail)
    go_loopw [5] (fun iv wr => ∃ i : Nat, i ≤ M ∧ iv = .int .i64 i ∧ w = wr) (fun iv _ => M - (intOf iv).toNat)
    case atStart => exact ⟨0, Nat.zero_le _, rfl, rfl⟩
    case round =>
      obtain ⟨i, hiM, rfl, rfl⟩ := hrel
      by_cases hin : i < M
      · have z0 : (i : Int) < (M : Int) := by omega
        have his : i < s.length := by omega
        have hit : i < t.length := by omega
        have z1 : (i : Int) < (s.length : Int) := by omega
        have z2 : (i : Int) < (t.length : Int) := by omega
        have hxs : (bs s)[i]'(by rw [bs_size]; exact his) = s[i] := bs_get (by rw [bs_size]; exact his)
        have hxt : (bs t)[i]'(by rw [bs_size]; exact hit) = t[i] := bs_get (by rw [bs_size]; exact hit)
        have hx128 := HS.out i his
        obtain ⟨x, hx⟩ : ∃ x, s[i] = x := ⟨_, rfl⟩
        obtain ⟨y, hy⟩ : ∃ y, t[i] = y := ⟨_, rfl⟩
        rw [hx] at hxs hx128
        rw [hy] at hxt
        have hy256 := y.toNat_lt
        have hor : bits .or .u8 (x.toNat : Int) (y.toNat : Int) = ((x.toNat ||| y.toNat : Nat) : Int) := u8_or_nat _ _ (by omega) (by omega)
        clear hx hy
        by_cases hyh : 128 ≤ y.toNat
        · have hor128 : (128 : Int) ≤ ((x.toNat ||| y.toNat : Nat) : Int) := by
            have := Nat.right_le_or (n := x.toNat) (m := y.toNat)
            omega
          go_wp2_with (fail)
          go_step3
          show E (.goto 0) _ _
          rw [← HE.out]
          exact ⟨rfl, rfl, rfl, rfl, rfl, rfl, i, by omega, rfl⟩
        · have hor128 : ¬ ((128 : Int) ≤ ((x.toNat ||| y.toNat : Nat) : Int)) := by have := Nat.or_lt_two_pow (n := 7) hx128 (show y.toNat < 2 ^ 7 by omega); omega
          go_wp2_with (fail)
          all_goals first
            | exact ⟨⟨i + 1, by omega, by simp, by trivial⟩, by simp [intOf]; omega⟩
            | (rw [← HE.out]
               simp only [Exit.jump]
               go_ret
               exact ⟨⟨_, rfl⟩, Below.refl _ _⟩)
      · have z0 : ¬(i : Int) < (M : Int) := by omega
        go_wp2_with (fail)
        rw [← HE.out]
        simp only [Exit.jump]
        go_ret
        exact ⟨⟨_, rfl⟩, Below.refl _ _⟩
  · intro a' w' hj
    obtain ⟨rfl, hsz, hd, h0, h1, i, hi, h5⟩ := hj
    obtain ⟨T, rfl, hT⟩ := act_letters a' hsz hd
    have e0 := hT 0 _ h0
    have e1 := hT 1 _ h1
    have e5 := hT 5 _ h5
    clear hT h0 h1 h5 hsz hd
    rw [e0, e1, e5]
    generalize hE : Exit.jump 0 _ _ = E
    have HE := Lib.hid hE
    clear hE e0 e1 e5
    have z1 : (i : Int) ≤ (s.length : Int) := by omega
    have z2 : (i : Int) ≤ (t.length : Int) := by omega
    have HSS := Lib.hid (show (s.drop i).take (s.length - i) = s.drop i by rw [List.take_of_length_le (by rw [List.length_drop]; omega)])
    have HTT := Lib.hid (show (t.drop i).take (t.length - i) = t.drop i by rw [List.take_of_length_le (by rw [List.length_drop]; omega)])
    go_wp2_with (fail)
    rw [HSS.out, HTT.out]
    obtain ⟨S, hS⟩ : ∃ S, s.drop i = S := ⟨_, rfl⟩
    obtain ⟨R, hR⟩ : ∃ R, t.drop i = R := ⟨_, rfl⟩
    rw [hS, hR]
    have HSA := Lib.hid (show ∀ k (h : k < S.length), S[k].toNat < 128 from fun k h => by
      subst hS
      rw [List.getElem_drop]
      exact HS.out _ _)
    have hSl : S.length ≤ 4096 := by rw [← hS, List.length_drop]; omega
    have hRl : R.length ≤ 4096 := by rw [← hR, List.length_drop]; omega
    obtain ⟨g, hg⟩ : ∃ g, w.heap.size = g := ⟨_, rfl⟩
    have HG := Lib.hid hg
    obtain ⟨W0, hW0⟩ : ∃ W, w.iter (bs S) 0 = W := ⟨_, rfl⟩
    have HI0 := Lib.hid (show W0.heap[g]? = some (.stringIter (bs S) 0) by rw [← hW0, ← hg]; exact World.iter_heap _ _ _)
    have HB0 := Lib.hid (show Below g w W0 by rw [← hW0, ← hg]; exact balloc _ _)
    rw [hW0, hg]
    clear HSS HTT hS hR hg hW0 HS hmin hMs hMt hi z1 z2 hl hl2
    go_loopw [1] (fun tv wr => ∃ (pos : Nat) (Tl : Str), tv = .string (bs Tl) ∧ Tl.length ≤ 4096 ∧ pos ≤ S.length ∧ wr.heap[g]? = some (.stringIter (bs S) pos) ∧ Below g w wr) (fun _ wr => S.length - wr.iterPos g)
    case atStart => exact ⟨0, R, rfl, hRl, Nat.zero_le _, HI0.out, HB0.out⟩
    case round =>
      obtain ⟨W1, rfl⟩ : ∃ W1 : World, W1 = wr := ⟨_, rfl⟩
      obtain ⟨pos, Tl, rfl, hTl, hpos, hit, hb⟩ := hrel
      have HM1 := Lib.hid (show W1.iterPos g = pos by simp [World.iterPos, hit])
      by_cases hp : pos < S.length
      · have hc128 := HSA.out pos hp
        have hnext := next_ascii (P := Tryz.prog) W1 S pos g hp hc128 hit
        obtain ⟨c, hc⟩ : ∃ c, S[pos].toNat = c := ⟨_, rfl⟩
        have hlt : g < W1.heap.size := (Array.getElem?_eq_some_iff.1 hit).1
        obtain ⟨W2, hW2⟩ : ∃ W, { W1 with heap := W1.heap.setIfInBounds g (.stringIter (bs S) (pos + 1)) } = W := ⟨_, rfl⟩
        rw [hW2, hc] at hnext
        rw [hc] at hc128
        have HB2 := Lib.hid (show Below g w W2 by rw [← hW2]; exact iter_set_below (Nat.le_of_lt hlt) (Nat.le_refl _) hb)
        have HI2 := Lib.hid (show W2.heap[g]? = some (.stringIter (bs S) (pos + 1)) by rw [← hW2]; simp [hlt])
        have HW2 := Lib.hid (show g < W2.heap.size by rw [← hW2]; simpa using hlt)
        clear hW2 hc hit hb
        by_cases h0 : Tl = []
        · subst h0
          go_wp2_with (fail)
          rw [← HE.out]
          simp only [Exit.jump]
          go_ret
          exact ⟨⟨_, rfl⟩, by rw [HG.out]; exact HB2.out⟩
        · have z0 : ((Tl.length : Int) == 0) = false := by
            rw [beq_eq_false_iff_ne]
            intro e
            exact h0 (List.eq_nil_of_length_eq_zero (by omega))
          have HDC := Lib.hid (Tryz.utf8_DecodeRuneInString (bs Tl) W2 (Utf8T.mono HU.out (Nat.le_of_eq HG.out) HB2.out))
          obtain ⟨d, hd⟩ : ∃ d, (Lib.decodeGo (bs Tl)).1 = d := ⟨_, rfl⟩
          obtain ⟨z, hz⟩ : ∃ z, (Lib.decodeGo (bs Tl)).2 = z := ⟨_, rfl⟩
          have hz1 : (z : Int) ≤ (Tl.length : Int) := by
            have := Lib.decodeGo_le_size (bs Tl)
            rw [hz, bs_size] at this
            omega
          have hd1 : d ≤ 2147483647 := by
            rw [← hd]
            unfold Lib.decodeGo
            split
            · decide
            · exact decode_le _ _
          rw [hd, hz] at HDC
          clear hd hz h0
          go_wp2_with (fail)
          refine HDC.out.mono ?_
          rintro e W3 ⟨rfl, hb3⟩
          have HB3 := Lib.hid (HB2.out.trans (hb3.mono (Nat.le_of_lt HW2.out)))
          have HI3 := Lib.hid (show W3.heap[g]? = some (.stringIter (bs S) (pos + 1)) from (hb3.block g HW2.out).trans HI2.out)
          have HM3 := Lib.hid (show W3.iterPos g = pos + 1 by simp [World.iterPos, HI3.out])
          have HTD := Lib.hid (show ((Tl.drop z).take (Tl.length - z)).length ≤ 4096 by rw [List.length_take, List.length_drop]; omega)
          have HF3 := Lib.hid (HF.out.mono (Nat.le_of_eq HG.out) HB3.out)
          clear hb3 HDC hnext
          by_cases hdc : d = c
          · have e1 : ((d : Int) == (c : Int)) = true := by rw [hdc]; simp
            clear hdc
            go_wp2_with (fail)
            exact ⟨⟨pos + 1, (Tl.drop z).take (Tl.length - z), rfl, HTD.out, by omega, HI3.out, HB3.out⟩, by rw [HM1.out, HM3.out]; omega⟩
          · have e1 : ((d : Int) == (c : Int)) = false := by rw [beq_eq_false_iff_ne]; omega
            by_cases hlt2 : d < c
            · have e2 : (d : Int) < (c : Int) := by omega
              have e3 : (c : Int) < 128 := by omega
              clear hdc
              go_wp2_with (fail)
              all_goals first
                | exact ⟨⟨pos + 1, (Tl.drop z).take (Tl.length - z), rfl, HTD.out, by omega, HI3.out, HB3.out⟩, by rw [HM1.out, HM3.out]; omega⟩
                | (rw [← HE.out]
                   simp only [Exit.jump]
                   go_ret
                   exact ⟨⟨_, rfl⟩, by rw [HG.out]; exact HB3.out⟩)
            · have e2 : ¬(d : Int) < (c : Int) := by omega
              by_cases hd128 : d < 128
              · have e3 : (d : Int) < 128 := by omega
                clear hdc
                go_wp2_with (fail)
                all_goals first
                  | exact ⟨⟨pos + 1, (Tl.drop z).take (Tl.length - z), rfl, HTD.out, by omega, HI3.out, HB3.out⟩, by rw [HM1.out, HM3.out]; omega⟩
                  | (rw [← HE.out]
                     simp only [Exit.jump]
                     go_ret
                     exact ⟨⟨_, rfl⟩, by rw [HG.out]; exact HB3.out⟩)
              · have e3 : ¬(d : Int) < 128 := by omega
                have HSF := Lib.hid (sfold97 c W3 HF3.out (.inl hc128))
                have HS1 := Lib.hid (show sfF c = sfN (0 + 1) c from rfl)
                rw [HS1.out] at HSF
                go_wp2_with (fail)
                refine HSF.out.mono ?_
                rintro e W4 ⟨rfl, rfl⟩
                clear HSF HS1
                go_wp2_with (fail)
                go_loopw [13] (fun rv wr => ∃ n : Nat, n < 6 ∧ rv = .int .i32 ((sfN (n + 1) c : Nat) : Int) ∧ W3 = wr) (fun rv _ => sfM c (intOf rv).toNat)
                case atStart => exact ⟨0, by omega, rfl, rfl⟩
                case round =>
                  obtain ⟨n, hn, rfl, rfl⟩ := hrel
                  have hdom := sfN_dom (n + 1) (show sfD c from .inl hc128)
                  have HME := Lib.hid (sfM_less c n hc128 hn)
                  have HS2 := Lib.hid (show sfF (sfN (n + 1) c) = sfN (n + 1 + 1) c from rfl)
                  have HS6 := Lib.hid (fun (h : n = 5) => show sfN (n + 1) c = c by rw [h]; exact sf_round hc128)
                  obtain ⟨r, hr⟩ : ∃ r, sfN (n + 1) c = r := ⟨_, rfl⟩
                  have HSF := Lib.hid (sfold97 r W3 HF3.out (by rw [← hr]; exact hdom))
                  rw [hr] at HME HS2 HS6 ⊢
                  have hr8 : r ≤ 8490 := by
                    rw [← hr]
                    unfold sfD at hdom
                    omega
                  rw [HS2.out] at HSF
                  clear hdom hr
                  by_cases hrc : r = c
                  · have f1 : ((r : Int) != (c : Int)) = false := by rw [hrc]; simp
                    have f2 : ((r : Int) == (d : Int)) = false := by rw [beq_eq_false_iff_ne]; omega
                    clear hrc HSF hdc
                    go_wp2_with (fail)
                    rw [← HE.out]
                    simp only [Exit.jump]
                    go_ret
                    exact ⟨⟨_, rfl⟩, by rw [HG.out]; exact HB3.out⟩
                  · have f1 : ((r : Int) != (c : Int)) = true := by rw [bne_iff_ne]; omega
                    by_cases hrd : r < d
                    · have f2 : (r : Int) < (d : Int) := by omega
                      have hn2 : n + 1 < 6 := by
                        rcases Nat.lt_or_ge (n + 1) 6 with h | h
                        · exact h
                        · exact absurd (HS6.out (by omega)) hrc
                      have HRC := Lib.hid hrc
                      clear hrc hdc
                      go_wp2_with (fail)
                      refine HSF.out.mono ?_
                      rintro e W5 ⟨rfl, rfl⟩
                      go_wp2_with (fail)
                      exact ⟨⟨n + 1, hn2, rfl, by trivial⟩, by simp only [intOf, Int.toNat_natCast]; exact HME.out HRC.out⟩
                    · have f2 : ¬(r : Int) < (d : Int) := by omega
                      clear hrc hdc HSF
                      by_cases hrd2 : r = d
                      · have f3 : ((r : Int) == (d : Int)) = true := by rw [hrd2]; simp
                        clear hrd2
                        go_wp2_with (fail)
                        exact ⟨⟨pos + 1, (Tl.drop z).take (Tl.length - z), rfl, HTD.out, by omega, HI3.out, HB3.out⟩, by rw [HM1.out, HM3.out]; omega⟩
                      · have f3 : ((r : Int) == (d : Int)) = false := by rw [beq_eq_false_iff_ne]; omega
                        clear hrd2
                        go_wp2_with (fail)
                        rw [← HE.out]
                        simp only [Exit.jump]
                        go_ret
                        exact ⟨⟨_, rfl⟩, by rw [HG.out]; exact HB3.out⟩
      · have hnext := next_end (P := Tryz.prog) W1 S pos g hp hit
        have HB1 := Lib.hid hb
        clear hit hb
        go_wp2_with (fail)
        rw [← HE.out]
        simp only [Exit.jump]
        go_ret
        exact ⟨⟨_, rfl⟩, by rw [HG.out]; exact HB1.out⟩
end Go.Proofs.YtngdmpkoedpgdaaGreatDoor
