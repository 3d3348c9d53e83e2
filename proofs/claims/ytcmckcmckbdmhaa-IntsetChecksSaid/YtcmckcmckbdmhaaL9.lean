import Derived.Test.YtcmckcmckbdmhaaL8
import Derived.Test.YtcmckcmckbdmhaaCov2
import Derived.StillTailTactics
namespace Go.Proofs.Ytcmckcmckbdmhaa
open Go.RowKit Go.Ap Go.Shelf

theorem not33 (Bt : Nat) (a : Option Addr) (n c : Nat) (t : List Int) (x : Int) (w : World) (hb : w.cell? ⟨Bt, 0, none⟩ = some (.slice a n c)) (h : Ints w a n t) :
    Calls Try.prog 33 #[.int .i64 x, .pointer (some ⟨Bt, 0, none⟩)] w fun e w' => e = .returned (.bool (!hasI t x)) ∧ w = w' := by
  have H := Lib.hid (contains29h a n c t x w h)
  go_enter Try.func33, Try.ntmps33
  go_wp2_with (fail)
  refine (H.out).mono ?_
  rintro e w' ⟨rfl, rfl⟩
  go_wp2_with (fail)
  go_ret
  exact ⟨rfl, rfl⟩
theorem not34 (Bt : Nat) (a : Option Addr) (n c : Nat) (t : List Int) (x : Int) (w : World) (hb : w.cell? ⟨Bt, 0, none⟩ = some (.slice a n c)) (h : Ints w a n t) :
    Calls Try.prog 34 #[.int .i64 x, .pointer (some ⟨Bt, 0, none⟩)] w fun e w' => e = .returned (.bool (!hasI t x)) ∧ w = w' := by
  have H := Lib.hid (contains29h a n c t x w h)
  go_enter Try.func34, Try.ntmps34
  go_wp2_with (fail)
  refine (H.out).mono ?_
  rintro e w' ⟨rfl, rfl⟩
  go_wp2_with (fail)
  go_ret
  exact ⟨rfl, rfl⟩
theorem out35 (Bs : Nat) (b : Option Addr) (m d : Nat) (x : Int) (w : World) (hb : w.cell? ⟨Bs, 0, none⟩ = some (.slice b m d)) :
    Calls Try.prog 35 #[.int .i64 x, .pointer (some ⟨Bs, 0, none⟩)] w fun e w' => e = .returned (.bool (decide (x < 0) || decide ((m : Int) ≤ x))) ∧ w = w' := by
  by_cases h : x < 0
  · have d1 : decide (x < 0) = true := by simpa using h
    go_enter Try.func35, Try.ntmps35
    go_wp2_with (fail)
    go_ret
    exact ⟨ret_b (by simp [d1]), rfl⟩
  · have d1 : decide (x < 0) = false := by simpa using h
    go_enter Try.func35, Try.ntmps35
    go_wp2_with (fail)
    go_ret
    exact ⟨ret_b (by simp), rfl⟩

/-- whether indices are a cover, as the law reckons it -/
def covF (t : List Int) (xss : List (List Int)) : List Int → List Int → Bool
  | [], acc => !(t.any fun x => !hasI acc x)
  | i :: r, acc => if ((row xss i).any fun x => !hasI t x) = true then false else covF t xss r (acc ++ row xss i)

theorem not_any_not (p : Int → Bool) (l : List Int) : (!(l.any fun x => !p x)) = l.all p := by
  induction l with
  | nil => rfl
  | cons x l ih => rw [List.any_cons, List.all_cons, ← ih]; cases p x <;> simp

theorem covF_iff (t : List Int) (xss : List (List Int)) : ∀ (l acc : List Int), covF t xss l acc = true ↔ Ins t xss l ∧ Holds t xss l acc
  | [], acc => by
    rw [covF, not_any_not, List.all_eq_true]
    constructor
    · intro h; exact ⟨by intro i hi; simp at hi, fun x hx => .inl (h x (List.contains_iff_mem.1 hx))⟩
    · rintro ⟨_, h⟩ x hx
      rcases h x (List.contains_iff_mem.2 hx) with h | ⟨i, hi, _⟩
      · exact h
      · simp at hi
  | i :: l, acc => by
    have ih := covF_iff t xss l (acc ++ row xss i)
    have hc : ∀ x, (acc ++ row xss i).contains x = (acc.contains x || (row xss i).contains x) := by
      intro x; rw [Bool.eq_iff_iff]; simp
    rw [covF]
    by_cases hw : ((row xss i).any fun x => !hasI t x) = true
    · rw [if_pos hw]
      constructor
      · intro h; cases h
      · rintro ⟨h1, _⟩
        obtain ⟨x, hx, hn⟩ := List.any_eq_true.1 hw
        have := h1 i (List.mem_cons_self ..) x (List.contains_iff_mem.2 hx)
        rw [hasI, this] at hn
        cases hn
    · rw [if_neg hw, ih]
      have hw' : ∀ x, (row xss i).contains x = true → t.contains x = true := by
        intro x hx
        cases hq : t.contains x
        · exact absurd (List.any_eq_true.2 ⟨x, List.contains_iff_mem.1 hx, by rw [hasI, hq]; rfl⟩) hw
        · rfl
      constructor
      · rintro ⟨h1, h2⟩
        refine ⟨fun j hj => ?_, fun x hx => ?_⟩
        · rcases List.mem_cons.1 hj with rfl | hj
          · exact hw'
          · exact h1 j hj
        · rcases h2 x hx with h | ⟨j, hj, h⟩
          · rw [hc, Bool.or_eq_true] at h
            rcases h with h | h
            · exact .inl h
            · exact .inr ⟨i, List.mem_cons_self .., h⟩
          · exact .inr ⟨j, List.mem_cons_of_mem _ hj, h⟩
      · rintro ⟨h1, h2⟩
        refine ⟨fun j hj => h1 j (List.mem_cons_of_mem _ hj), fun x hx => ?_⟩
        rw [hc]
        rcases h2 x hx with h | ⟨j, hj, h⟩
        · exact .inl (by rw [h]; rfl)
        · rcases List.mem_cons.1 hj with rfl | hj
          · exact .inl (by rw [h, Bool.or_true])
          · exact .inr ⟨j, hj, h⟩
theorem covF_cov (t : List Int) (xss : List (List Int)) (l : List Int) : covF t xss l [] = true ↔ Cov t xss l := covF_iff t xss l []

section
variable {P : Program} {w : World}
theorem run_append_zero (base : Nat) (t ty e : TypeId) (i : TypeInfo) (size : Nat) (c : Nat) (ht : P.underlying t = some (.slice e)) (hi : P.info? e = some i)
    (v : Value) (n : Nat) (xs : List Value) (hown : w.ownsRow base e size v n xs) :
    (Builtin.append_ #[t, t] ty #[v, .slice none 0 c]).run P w = .ok v w := by
  rcases hown.2 with ⟨rfl, rfl⟩ | ⟨g, cap, cur, rfl, _, _, hnc, _⟩
  · simp [Builtin.append_, run_underlying ht, sizeOf, typeInfo, hi, Builtin.lenOf, Builtin.firstCells]
  · simp [Builtin.append_, run_underlying ht, sizeOf, typeInfo, hi, Builtin.lenOf, Builtin.firstCells, hnc, storeCells]
theorem wpList_append_zero {ops : Array Oper} {rest : List Oper} {o : Oper} {a : Act} {Q : Exit → Act → World → Prop} (hgd : o.guard = none) (s x : Operand) (t : TypeId)
    (ho : o.op = .call { callee := .builtin .append, args := #[s, x], argTypes := #[t, t] })
    (base : Nat) (e : TypeId) (i : TypeInfo) (size c : Nat) (ht : P.underlying t = some (.slice e)) (hi : P.info? e = some i)
    (v : Value) (n : Nat) (xs : List Value) (hs : a.eval s = v) (hown : w.ownsRow base e size v n xs) (hx : a.eval x = .slice none 0 c)
    (h : wpList P ops Q rest (a.put o.dst v) w) : wpList P ops Q (o :: rest) a w := by
  refine wpList_plain hgd fun K hK => ?_
  have hrun := run_append_zero (P := P) (w := w) base t o.type e i size c ht hi v n xs hown
  unfold Oper.wp
  simp [execOp, ho, resolve, invoke, builtin, hs, hx, hrun, Result.andThen]
  exact hK _ _ h
end

theorem still_tail2 {P : Program} {id : Nat} {Q : Exit → Act → World → Prop} {a : Act} {w : World} {q : Nat} {l : List Oper} (n : Nat) (hm : P.follows .mixedOrders = true) (hB : Region.lexTailB .any l.toArray n = true)
    (h : wpStill P l.toArray (w.drewN (q + 1)) (fun a' => wpList P l.toArray Q (l.drop n) a' (w.drewN (q + 1))) (l.take n) a) : (Code.region id l.toArray true).wp P Q a (w.drewN q) := wp_region_still_tail n hm hB h
theorem Boxed.appended0 {W w1 : World} {n₀ B : Nat} {t e : TypeId} {size : Nat} {v v' : Value} {k m : Nat} {xs ys : List Value}
    (hv : Boxed W B t v) (hte : t ≠ e) (hrow : W.ownsRow n₀ e size v k xs) (hn₀ : n₀ ≤ W.heap.size) (hB : n₀ ≤ B)
    (hown' : w1.ownsRow n₀ e size v' m ys) (hgrow : W.grownBy w1 v.ownBlock) :
    Boxed w1 B t v ∧ Boxed (w1.setCell ⟨B, 0, none⟩ v') B t v' ∧ (w1.setCell ⟨B, 0, none⟩ v').ownsRow n₀ e size v' m ys ∧ Below n₀ W (w1.setCell ⟨B, 0, none⟩ v') := by
  have hv1 : Boxed w1 B t v := hv.kept hgrow (hv.not_row hte hrow)
  refine ⟨hv1, hv1.set v', hown'.kept (grownBy_setCell' w1 B v') (.inr (hv1.not_row hte hown').symm), ?_⟩
  refine ((Below.refl n₀ W).grown hgrow (by omega) fun j ej => ?_).setCell (p := ⟨B, 0, none⟩) hB v'
  rcases hrow.2 with ⟨rfl, _⟩ | ⟨g, cap, cur, rfl, hb, _, _⟩
  · simp [Value.ownBlock] at ej
  · obtain rfl : g = j := by simpa [Value.ownBlock] using ej
    exact hb
theorem ints_news {w : World} {b o n : Nat} {xs : List Int} (h : Ints w (some ⟨b, o, none⟩) n xs) : ∀ j u, (xs.map (Value.int .i64))[j]? = some u → w.cell? ((⟨b, o, none⟩ : Addr).add j) = some u := by
  intro j u hu
  have hj : j < xs.length := by
    rcases Nat.lt_or_ge j xs.length with h | h
    · exact h
    · rw [List.getElem?_eq_none (by simpa using h)] at hu; cases hu
  obtain ⟨y, b', o', v', hy, ha', hc, rfl, _⟩ := Sl.at h (by rw [← h.len]; exact hj : j < n)
  cases ha'
  have hadd : (⟨b, o, none⟩ : Addr).add j = ⟨b, o + j, none⟩ := by unfold Addr.add; split <;> simp_all
  rw [hadd, hc]
  simp [hy] at hu
  rw [← hu]
theorem own_app {B : Nat} {w : World} {v : Value} {acc xs : List Int} (h : w.ownsRow B 3 1 v (acc.length + xs.length) (acc.map (Value.int .i64) ++ xs.map (Value.int .i64))) : Own w B v (acc ++ xs) := by
  unfold Own; simpa using h

set_option maxRecDepth 100000 in
set_option maxHeartbeats 2000000 in
theorem covers31 (a b e : Option Addr) (n m p c d f : Nat) (Bs Bt : Nat) (t : List Int) (xss : List (List Int)) (l : List Int) (w : World) (ct : w.cell? ⟨Bt, 0, none⟩ = some (.slice a n c)) (cs : w.cell? ⟨Bs, 0, none⟩ = some (.slice b m d))
    (ht : Ints w a n t) (hx : Rows2 w b m xss) (hl : Ints w e p l) (il : IdxL m l) (hp : p ≤ 20) (sx : ∀ xs ∈ xss, xs.length ≤ 12) :
    Calls Try.prog 31 #[.slice e p f, .pointer (some ⟨Bs, 0, none⟩), .pointer (some ⟨Bt, 0, none⟩)] w fun e w' => e = .returned (.bool (covF t xss l [])) ∧ Below w.heap.size w w' := by
  obtain ⟨i0, hi, hz0, hz1, hz2⟩ := info_parts info3
  have HT := Lib.hid ht
  have HX := Lib.hid hx
  have HLl := Lib.hid hl
  have HLP := Lib.hid hl.len
  have IL := Lib.hid il
  have SX := Lib.hid sx
  have CT := Lib.hid ct
  have CS := Lib.hid cs
  have bt := World.block_lt_of_cell? w _ ct
  have bs := World.block_lt_of_cell? w _ cs
  generalize hr : covF t xss l [] = r
  have HR := Lib.hid hr
  clear ht hx hl il hr sx ct cs
  go_enter Try.func31, Try.ntmps31
  go_wp2_with (fail)
  go_loopw [10] (fun i wr => ∃ (k : Nat) (v : Value) (acc : List Int), k ≤ p ∧ i = .int .i64 k ∧ Boxed wr w.heap.size 22 v ∧ Own wr w.heap.size v acc ∧ acc.length ≤ 12 * k ∧ (∀ x ∈ acc, I64 x) ∧ covF t xss (l.drop k) acc = r ∧ Below w.heap.size w wr) (fun i _ => p - (intOf i).toNat)
  case atStart => exact ⟨0, .slice none 0 0, [], by omega, rfl, Boxed.new _ _ _, World.ownsRow_nil _ _ _ _, by simp, by simp, HR.out, balloc _ _⟩
  case round =>
    obtain ⟨k, v, acc, hk, rfl, hbx, hown, hal, hwf, hch, hb⟩ := hrel
    obtain ⟨av, cv, rfl, hIv⟩ := ints_of_owns hown hwf (by omega)
    have HIV := Lib.hid hIv
    have HWF := Lib.hid hwf
    clear hwf hIv
    have HC := Lib.hid hch
    have HB := Lib.hid hb
    have HBX := Lib.hid hbx
    have HOW := Lib.hid hown
    have hcb := hbx.cell
    have hfb := hbx.frozen
    have hcs := (hb.cell (p := ⟨Bs, 0, none⟩) bs).trans CS.out
    have hct := (hb.cell (p := ⟨Bt, 0, none⟩) bt).trans CT.out
    have HT1 := Lib.hid (HT.out.mono (Nat.le_refl _) hb)
    have HX1 := Lib.hid (HX.out.mono (Nat.le_refl _) hb)
    have hl1 := HLl.out.mono (Nat.le_refl _) hb
    have hsz := hb.size
    clear hch hb hbx hown
    by_cases hlt : k < p
    · have hkl : k < l.length := by rw [HLP.out]; exact hlt
      have hmem := IL.out.2 _ (nth_mem hkl)
      obtain ⟨j, hj⟩ : ∃ j : Nat, nth l k = j := ⟨(nth l k).toNat, by omega⟩
      have hjm : j < m := by omega
      obtain ⟨b1, o1, rfl, hc1⟩ := Ints.at hl1 (by omega)
      have hcell := hc1 k hlt
      rw [hj] at hcell
      obtain ⟨xs, b2, o2, v2, hxs, rfl, hc2, a3, n3, c3, rfl, hI3⟩ := Sl.at HX1.out hjm
      have hrow : row xss (nth l k) = xs := by rw [hj, row]; simp [hxs]
      have hs12 : n3 ≤ 12 := by rw [← hI3.len]; exact SX.out xs (List.mem_of_getElem? hxs)
      have hstep : covF t xss (l.drop k) acc = if (xs.any fun x => !hasI t x) = true then false else covF t xss (l.drop (k + 1)) (acc ++ xs) := by
        rw [drop_nth hkl, covF, hrow]
      have HS := Lib.hid hstep
      have H32 := contf32 (fun x => !hasI t x) a3 n3 c3 xs 33 #[.pointer (some ⟨Bt, 0, none⟩)] wr hI3 (enters_of Try.func33 (by kernel_rfl) rfl) (by
        rintro q x v hx ⟨rfl, _⟩
        exact (not33 Bt a n c t x (wr.drewN q) hct HT1.out.drewN).mono (by rintro e w' ⟨rfl, rfl⟩; exact ⟨rfl, 0, rfl⟩))
      have HI3 := Lib.hid hI3
      have HL3 := Lib.hid hI3.len
      clear hxs hmem hj hrow hI3 hc1 hkl hstep hl1
      cases hany : (xs.any fun x => !hasI t x)
      · rw [hany] at H32
        have H32 := Lib.hid H32
        have HN := Lib.hid (show covF t xss (l.drop (k + 1)) (acc ++ xs) = r by rw [← HC.out, HS.out, hany]; rfl)
        clear hany
        go_wp2_with (fail)
        refine (H32.out).mono ?_
        rintro e w' ⟨rfl, q, rfl⟩
        go_wp2_with (fail)
        refine still_tail2 5 (by kernel_rfl) (by kernel_rfl) ?_
        have hbx1 : Boxed (wr.drewN (q + 1)) w.heap.size 22 (.slice av acc.length cv) := HBX.out
        have hown1 : Own (wr.drewN (q + 1)) w.heap.size (.slice av acc.length cv) acc := HOW.out
        have hbb : Below w.heap.size w (wr.drewN (q + 1)) := HB.out.trans ((bdrewN _ _).mono HB.out.size)
        have hsz2 : w.heap.size ≤ (wr.drewN (q + 1)).heap.size := hsz
        have hi31 := HI3.out.drewN (q := q + 1)
        have HBX1 := Lib.hid hbx1
        have HOW1 := Lib.hid hown1
        have HBB := Lib.hid hbb
        have HI31 := Lib.hid hi31
        have wf3 := Lib.hid hi31.wf
        have hcb2 := hbx1.cell
        have hfb2 := hbx1.frozen
        have hcs2 := (hbb.cell (p := ⟨Bs, 0, none⟩) bs).trans CS.out
        have hc22 : (wr.drewN (q + 1)).cell? ⟨b2, o2 + j, none⟩ = some (.slice a3 n3 c3) := hc2
        clear hbx1 hown1 hbb hi31 hcb hfb hcs hct hc2
        simp only [List.take_succ_cons, List.take_zero, List.drop_succ_cons, List.drop_zero]
        generalize wr.drewN (q + 1) = w2 at *
        repeat still_step
        refine wpStill_nil ?_
        have happ : ∀ v1 w1, w1.ownsRow w.heap.size 3 1 v1 (acc.length + n3) (acc.map (Value.int .i64) ++ xs.map (Value.int .i64)) → w2.grownBy w1 (Value.slice av acc.length cv).ownBlock →
            ∃ a1 c1 L, v1 = .slice a1 L c1 ∧ w1.cell? ⟨w.heap.size, 0, none⟩ = some (Value.slice av acc.length cv) ∧ w1.frozen? ⟨w.heap.size, 0, none⟩ = false ∧ Boxed (w1.setCell ⟨w.heap.size, 0, none⟩ v1) w.heap.size 22 v1 ∧ Own (w1.setCell ⟨w.heap.size, 0, none⟩ v1) w.heap.size v1 (acc ++ xs) ∧ (acc ++ xs).length ≤ 12 * (k + 1) ∧ (∀ x ∈ acc ++ xs, I64 x) ∧ Below w.heap.size w (w1.setCell ⟨w.heap.size, 0, none⟩ v1) := by
          intro v1 w1 ho hg
          rw [← HL3.out] at ho
          have hwf4 : ∀ x ∈ acc ++ xs, I64 x := by
            intro x hx
            rcases List.mem_append.1 hx with h | h
            · exact HWF.out x h
            · exact wf3.out x h
          have hl4 : (acc ++ xs).length ≤ 12 * (k + 1) := by rw [List.length_append, HL3.out]; omega
          have ho1 := own_app ho
          obtain ⟨q1, q2, q3, q4⟩ := Boxed.appended0 HBX1.out (by decide) HOW1.out hsz2 (Nat.le_refl _) ho1 hg
          obtain ⟨a1, c1, rfl, _⟩ := ints_of_owns ho1 hwf4 (by omega)
          exact ⟨a1, c1, _, rfl, q1.cell, q1.frozen, q2, q3, hl4, hwf4, HBB.out.trans q4⟩
        have HAPP := Lib.hid happ
        clear happ
        rcases Nat.eq_zero_or_pos n3 with h0 | h0
        · subst h0
          have hxs0 : xs = [] := List.eq_nil_of_length_eq_zero HL3.out
          subst hxs0
          cases a3 with
          | none =>
            refine wpList_append_zero rfl _ _ 22 rfl w.heap.size 3 i0 1 c3 Try.underlying22 hi _ _ _ rfl HOW1.out rfl ?_
            go_wp2_with (fail)
            rw [boxed_same HBX1.out]
            exact ⟨⟨k + 1, _, acc, by omega, by go_num, HBX1.out, HOW1.out, by omega, HWF.out, by simpa using HN.out, HBB.out⟩, by simp [intOf]; omega⟩
          | some ad3 =>
            refine wpList_append_own _ rfl _ _ 22 rfl w.heap.size 3 i0 (.int .i64 0) 1 8 Try.underlying22 hi hz0 hz1 hz2 rfl (by decide) _ _ _ rfl HOW1.out ad3 0 c3 [] rfl rfl (by simp) (by simp) (by unfold maxLen; omega) (by omega) hsz2 ?_
            intro v1 w1 ho hg _
            obtain ⟨a1, c1, L1, rfl, hcc, hff, g1, g2, g3, g4, g5⟩ := HAPP.out _ _ ho hg
            have G1 := Lib.hid g1
            have G2 := Lib.hid g2
            have G4 := Lib.hid g4
            have G5 := Lib.hid g5
            clear ho hg g1 g2 g4 g5 hcb2 hfb2 hcs2 hc22 hcell
            go_wp2_with (fail)
            exact ⟨⟨k + 1, _, acc ++ [], by omega, by go_num, G1.out, G2.out, g3, G4.out, HN.out, G5.out⟩, by simp [intOf]; omega⟩
        · obtain ⟨b4, o4, rfl, _⟩ := Ints.at HI31.out h0
          refine wpList_append_own _ rfl _ _ 22 rfl w.heap.size 3 i0 (.int .i64 0) 1 8 Try.underlying22 hi hz0 hz1 hz2 rfl (by decide) _ _ _ rfl HOW1.out ⟨b4, o4, none⟩ n3 c3 (xs.map (.int .i64)) rfl (by simp [HL3.out]) (ints_news HI31.out) (by intro u hu; obtain ⟨x, _, rfl⟩ := List.mem_map.1 hu; rfl) (by unfold maxLen; omega) (by omega) hsz2 ?_
          intro v1 w1 ho hg _
          obtain ⟨a1, c1, L1, rfl, hcc, hff, g1, g2, g3, g4, g5⟩ := HAPP.out _ _ ho hg
          have G1 := Lib.hid g1
          have G2 := Lib.hid g2
          have G4 := Lib.hid g4
          have G5 := Lib.hid g5
          clear ho hg g1 g2 g4 g5 hcb2 hfb2 hcs2 hc22 hcell
          go_wp2_with (fail)
          exact ⟨⟨k + 1, _, acc ++ xs, by omega, by go_num, G1.out, G2.out, g3, G4.out, HN.out, G5.out⟩, by simp [intOf]; omega⟩
      · rw [hany] at H32
        have H32 := Lib.hid H32
        have HF := Lib.hid (show r = false by rw [← HC.out, HS.out, hany]; rfl)
        clear hany
        go_wp2_with (fail)
        refine (H32.out).mono ?_
        rintro e w' ⟨rfl, q, rfl⟩
        go_wp2_with (fail)
        go_ret
        exact ⟨ret_b HF.out.symm, HB.out.trans ((bdrewN _ _).mono HB.out.size)⟩
    · obtain rfl : k = p := by omega
      have HIV1 := Lib.hid HIV.out
      have H34 := contf32 (fun x => !hasI acc x) a n c t 34 #[.pointer (some ⟨w.heap.size, 0, none⟩)] wr HT1.out (enters_of Try.func34 (by kernel_rfl) rfl) (by
        rintro q x v hx ⟨rfl, _⟩
        exact (not34 w.heap.size av acc.length cv acc x (wr.drewN q) hcb HIV.out.drewN).mono (by rintro e w' ⟨rfl, rfl⟩; exact ⟨rfl, 0, rfl⟩))
      have H34 := Lib.hid H34
      have HF : (!(t.any fun x => !hasI acc x)) = r := by
        have := HC.out
        rw [List.drop_eq_nil_of_le (by rw [HLP.out]; omega), covF] at this
        exact this
      have HF := Lib.hid HF
      clear hl1
      go_wp2_with (fail)
      refine (H34.out).mono ?_
      rintro e w' ⟨rfl, q, rfl⟩
      go_wp2_with (fail)
      go_ret
      exact ⟨ret_b (by rw [← HF.out]), HB.out.trans ((bdrewN _ _).mono HB.out.size)⟩

end Go.Proofs.Ytcmckcmckbdmhaa
