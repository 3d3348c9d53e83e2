import Derived.Test.YtngdmpkoedpgdaaGreatDoorFd
import Derived.Test.YtngdmpkoedpgdaaGreatDoorU1
import Derived.Test.YtngdmpkoedpgdaaGreatDoorSm5

/-
  append of ints and of postings that lie elsewhere, to a row of the call's own.
-/

namespace Go.Ap
open Go Go.RowKit
section
variable {P : Program} {w : World}
theorem wpList_append_ints {ops : Array Oper} {rest : List Oper} {o : Oper} {a : Act} {Q : Exit → Act → World → Prop} (hgd : o.guard = none) (s x : Operand) (t e : TypeId)
    (ho : o.op = .call { callee := .builtin .append, args := #[s, x], argTypes := #[t, t] })
    (base : Nat) (i : TypeInfo) (ht : P.underlying t = some (.slice e)) (hi : P.info? e = some i) (hz : i.zero = some (.int .i64 0)) (hsize : i.size = 1) (hby : i.bytes = 8)
    (v : Value) (xs : List Int) (hs : a.eval s = v) (hown : OwnI e w base v xs) (b off m c : Nat) (ys : List Int) (hx : a.eval x = .slice (some ⟨b, off, none⟩) m c) (hyl : ys.length = m)
    (hy : ∀ j y, ys[j]? = some y → w.cell? ⟨b, off + j, none⟩ = some (.int .i64 y)) (hyi : ∀ y ∈ ys, I64 y)
    (hlen : xs.length + m ≤ 8388608) (hbase : base ≤ w.heap.size)
    (h : ∀ v' w', OwnI e w' base v' (xs ++ ys) → Below base w w' → w.grownBy w' v.ownBlock → wpList P ops Q rest (a.put o.dst v') w') : wpList P ops Q (o :: rest) a w := by
  refine wpList_append_own w hgd s x t ho base e i (.int .i64 0) 1 8 ht hi hz hsize hby rfl (by decide) v xs.length (xs.map (Value.int .i64)) hs hown.1 ⟨b, off, none⟩ m c (ys.map (Value.int .i64)) hx (by simp [hyl]) ?_ (by intro u hu; obtain ⟨x, _, rfl⟩ := List.mem_map.1 hu; rfl) (by unfold maxLen; omega) (by omega) hbase ?_
  · intro j u hu
    rw [List.getElem?_map] at hu
    obtain ⟨y, hyj, rfl⟩ := Option.map_eq_some_iff.1 hu
    have hadd : (⟨b, off, none⟩ : Addr).add j = ⟨b, off + j, none⟩ := by unfold Addr.add; split <;> simp_all
    rw [hadd]
    exact hy j y hyj
  · intro v' w' h1 h2 _
    refine h v' w' ⟨?_, fun z hz => ?_⟩ ((Below.refl base w).grown h2 hbase fun k hk => (hown.1.lt k hk).1) h2
    · rw [List.length_append, List.map_append, hyl]
      exact h1
    · rcases List.mem_append.1 hz with h3 | h3
      · exact hown.2 z h3
      · exact hyi z h3
/-- postings that lie in a row: with their slices -/
theorem posts_items : ∀ {l : List Post} {b o n : Nat}, Posts w (some ⟨b, o, none⟩) n l → ∃ qs : List PIt, qs.map (·.1) = l ∧ (∀ j u, (qs.flatMap piC)[j]? = some u → w.cell? ⟨b, o + j, none⟩ = some u) ∧ ∀ p ∈ qs, ∃ a k, p.2 = .slice a p.1.2.length k ∧ PostS w a p.1
  | [], _, _, _, _ => ⟨[], rfl, by simp, fun _ h => absurd h List.not_mem_nil⟩
  | p :: r, b, o, n, h => by
    have hl := h.len
    have hs := h.small
    rw [List.length_cons] at hl
    obtain ⟨b', o', he, hp⟩ := h.cells 0 p rfl
    cases he
    rw [Nat.zero_mul, Nat.add_zero] at hp
    obtain ⟨a, k, c0, c1, c2, hps⟩ := hp
    have ht : Posts w (some ⟨b, o + 3, none⟩) (n - 1) r := ⟨by omega, by omega, fun j x hj => by
      obtain ⟨b', o', he, hx⟩ := h.cells (j + 1) x (by simpa using hj)
      cases he
      exact ⟨b, o + 3, rfl, by rw [show o + 3 + j * 3 = o + (j + 1) * 3 by omega]; exact hx⟩⟩
    obtain ⟨qs, q1, q2, q3⟩ := posts_items ht
    refine ⟨(p, .slice a p.2.length k) :: qs, by rw [List.map_cons, q1], fun j u hu => ?_, fun q hq => ?_⟩
    · rw [List.flatMap_cons] at hu
      by_cases hj : j < 3
      · rw [List.getElem?_append_left (by rw [piC_len]; exact hj)] at hu
        match j, hj with
        | 0, _ => simp [piC] at hu; rw [← hu]; exact c0
        | 1, _ => simp [piC] at hu; rw [← hu]; exact c1
        | 2, _ => simp [piC] at hu; rw [← hu]; exact c2
      · rw [List.getElem?_append_right (by rw [piC_len]; omega), piC_len] at hu
        have := q2 (j - 3) u hu
        rwa [show o + 3 + (j - 3) = o + j by omega] at this
    · rcases List.mem_cons.1 hq with rfl | hq
      · exact ⟨a, k, rfl, hps⟩
      · exact q3 q hq
theorem piC_flat : ∀ qs : List PIt, (qs.flatMap piC).length = qs.length * 3
  | [] => rfl
  | q :: r => by rw [List.flatMap_cons, List.length_append, piC_flat r, piC_len, List.length_cons]; omega
theorem wpList_append_posts {ops : Array Oper} {rest : List Oper} {o : Oper} {a : Act} {Q : Exit → Act → World → Prop} (hgd : o.guard = none) (s x : Operand) (t e : TypeId)
    (ho : o.op = .call { callee := .builtin .append, args := #[s, x], argTypes := #[t, t] })
    (base : Nat) (i : TypeInfo) (ht : P.underlying t = some (.slice e)) (hi : P.info? e = some i) (hz : i.zero = some (.agg #[.string { data := #[] }, .string { data := #[] }, .slice none 0 0])) (hsize : i.size = 3) (hby : i.bytes = 56)
    (v : Value) (l : List Post) (w0 : World) (hs : a.eval s = v) (hown : OwnPs e w0 w base v l) (b off m c : Nat) (qs : List PIt) (hx : a.eval x = .slice (some ⟨b, off, none⟩) m c) (hql : qs.length = m)
    (hq : ∀ j u, (qs.flatMap piC)[j]? = some u → w.cell? ⟨b, off + j, none⟩ = some u) (hqs : ∀ p ∈ qs, ∃ a k, p.2 = .slice a p.1.2.length k ∧ PostS w0 a p.1)
    (hlen : l.length + m ≤ 1048576) (hbase : base ≤ w.heap.size)
    (h : ∀ v' w', OwnPs e w0 w' base v' (l ++ qs.map (·.1)) → Below base w w' → w.grownBy w' v.ownBlock → wpList P ops Q rest (a.put o.dst v') w') : wpList P ops Q (o :: rest) a w := by
  obtain ⟨xs, hrow, hpush⟩ := hown.ready
  have hfl : (qs.flatMap piC).length = m * 3 := by
    rw [← hql]
    exact piC_flat qs
  refine wpList_append_own w hgd s x t ho base e i (.agg #[.string { data := #[] }, .string { data := #[] }, .slice none 0 0]) 3 56 ht hi hz hsize hby rfl (by decide) v l.length xs hs hrow ⟨b, off, none⟩ m c (qs.flatMap piC) hx hfl ?_ ?_ (by unfold maxLen; omega) (by omega) hbase ?_
  · intro j u hu
    have hadd : (⟨b, off, none⟩ : Addr).add j = ⟨b, off + j, none⟩ := by unfold Addr.add; split <;> simp_all
    rw [hadd]
    exact hq j u hu
  · intro u hu
    obtain ⟨q, hq1, hq2⟩ := List.mem_flatMap.1 hu
    obtain ⟨a', k', he, _⟩ := hqs q hq1
    unfold piC at hq2
    rw [he] at hq2
    simp only [List.mem_cons, List.not_mem_nil, or_false] at hq2
    rcases hq2 with rfl | rfl | rfl <;> rfl
  · intro v' w' h1 h2 _
    exact h v' w' (hpush w' v' qs (l.length + m) h1 (by rw [hql]) hqs) ((Below.refl base w).grown h2 hbase fun k hk => (hrow.lt k hk).1) h2
end
/-- with: by the place of the first that is not less -/
theorem withF_at {x : Int} : ∀ {l : List Int} {k : Nat}, k ≤ l.length → (∀ j, j < k → nth l j < x) → (∀ h : k < l.length, ¬l[k] < x) → withF l x = if l[k]? = some x then l else l.take k ++ x :: l.drop k
  | [], k, hk, _, _ => by
    obtain rfl : k = 0 := by simpa using hk
    rfl
  | y :: r, 0, _, _, h2 => by
    have h3 := h2 (by simp)
    simp only [List.getElem_cons_zero] at h3
    rw [withF, if_neg h3]
    by_cases e : y = x
    · subst e; simp
    · rw [if_neg e]
      simp [e]
  | y :: r, k + 1, hk, h1, h2 => by
    have h3 : y < x := by simpa [nth] using h1 0 (by omega)
    rw [withF, if_pos h3, withF_at (k := k) (by simpa using hk) (fun j hj => by simpa [nth] using h1 (j + 1) (by omega)) (fun h => by have := h2 (by simpa using h); rwa [List.getElem_cons_succ] at this)]
    simp only [List.getElem?_cons_succ, List.take_succ_cons, List.drop_succ_cons, List.cons_append]
    split <;> rfl
theorem addF_at {κ : Type} {c : κ → κ → Int} {g : κ} {x : Int} : ∀ {l : List (κ × List Int)} {k : Nat}, k ≤ l.length → (∀ j p, j < k → l[j]? = some p → c p.1 g < 0) → (∀ p, l[k]? = some p → ¬c p.1 g < 0) →
    addF c l g x = match l[k]? with | some p => if c p.1 g = 0 then l.take k ++ (p.1, withF p.2 x) :: l.drop (k + 1) else l.take k ++ (g, [x]) :: l.drop k | none => l ++ [(g, [x])]
  | [], k, hk, _, _ => by
    obtain rfl : k = 0 := by simpa using hk
    rfl
  | p :: r, 0, _, _, h2 => by
    have h3 := h2 p rfl
    rw [addF, if_neg h3]
    simp only [List.getElem?_cons_zero, List.take_zero, List.nil_append, List.drop_zero, List.drop_succ_cons]
  | p :: r, k + 1, hk, h1, h2 => by
    have h3 := h1 0 p (by omega) rfl
    rw [addF, if_pos h3, addF_at (k := k) (by simpa using hk) (fun j q hj hq => h1 (j + 1) q (by omega) (by simpa using hq)) (fun q hq => h2 q (by simpa using hq))]
    simp only [List.getElem?_cons_succ]
    cases r[k]? with
    | none => rfl
    | some q => simp only [List.take_succ_cons, List.drop_succ_cons, List.cons_append]; split <;> rfl
end Go.Ap

/-
  with: a further line (reference).
-/


namespace Go.Proofs.YtngdmpkoedpgdaaGreatDoor
open Go.RowKit Go.Ap Go.Shelf Go.Proofs

attribute [local go_sem] Oper.semAt_some bs_toList empty_toList bs_size bs_extract
/-- ints, handed on -/
def GivesIn (e : Ending) (w w' : World) (a0 : Addr) (l : List Int) : Prop := ∃ a c, e = .returned (.slice (some a) l.length c) ∧ Ints w' (some a) l.length l ∧ l.length ≤ c ∧ Below w.heap.size w w' ∧ (a = a0 ∨ w.heap.size ≤ a.block)
theorem own_gives {w w' : World} {v : Value} {l : List Int} (h : OwnI 3 w' w.heap.size v l) (hl : l ≠ []) (hn : l.length ≤ 4611686018427387903) (hb : Below w.heap.size w w') (a0 : Addr) : GivesIn (.returned v) w w' a0 l := by
  rcases h.1.2 with ⟨rfl, h0⟩ | ⟨g, cap, cur, rfl, hgb, _, hc, _, _, _⟩
  · exact absurd (List.eq_nil_of_length_eq_zero h0) hl
  · obtain ⟨a, c, he, hi⟩ := h.ints hn
    cases he
    exact ⟨_, cap, rfl, hi, hc, hb, .inr hgb⟩
set_option maxRecDepth 100000 in
set_option maxHeartbeats 4000000 in
theorem with156 (xs : List Int) (x : Int) (b off n c : Nat) (w : World) (h : Ints w (some ⟨b, off, none⟩) n xs) (hc : n ≤ c) (hn : n ≤ 1000000) (h0 : 0 < n) (hx : I64 x) :
    Calls Tryz.prog 156 #[.slice (some ⟨b, off, none⟩) n c, .int .i64 x] w fun e w' => GivesIn e w w' ⟨b, off, none⟩ (withF xs x) := by
  obtain ⟨i0, hi, hz0, hz1, hz2⟩ := info_parts infoInt5
  have HX := Lib.hid h
  have hcs : ∀ j, j < n → w.cell? ⟨b, off + j, none⟩ = some (.int .i64 (nth xs j)) := by
    obtain ⟨b', off', he, hq⟩ := h.at h0
    cases he
    exact hq
  have HC := Lib.hid hcs
  have HL := Lib.hid h.len
  have HI := Lib.hid (show ∀ y ∈ xs, I64 y from fun y hy => by
    obtain ⟨k, hk⟩ := List.getElem?_of_mem hy
    obtain ⟨_, _, _, _, _, hr⟩ := h.cells k y hk
    exact hr.2)
  have HIX := Lib.hid hx
  have HWL := Lib.hid (show (withF xs x).length ≤ 4611686018427387903 by have := withF_len xs x; have := h.len; omega)
  clear h hcs hx
  go_enter Tryz.func156, Tryz.ntmps156
  go_wp2_with (fail)
  go_loopw [5] (fun kv wr => ∃ k : Nat, k ≤ n ∧ kv = .int .i64 k ∧ w = wr ∧ ∀ j, j < k → nth xs j < x) (fun kv _ => n - (intOf kv).toNat)
  case atStart => exact ⟨0, Nat.zero_le _, rfl, rfl, fun j hj => absurd hj (Nat.not_lt_zero _)⟩
  case round =>
    obtain ⟨k, hk, rfl, rfl, hall⟩ := hrel
    have HA := Lib.hid hall
    clear hall
    by_cases hlt0 : k < n
    · have i1 : (k : Int) < (n : Int) := by omega
      have cx := HC.out k hlt0
      obtain ⟨y, hy⟩ : ∃ y, nth xs k = y := ⟨_, rfl⟩
      rw [hy] at cx
      have HY := Lib.hid hy
      by_cases g1 : y < x
      · have d1 : decide (y < x) = true := decide_eq_true g1
        have HG := Lib.hid g1
        clear g1 hy
        go_wp2_with (fail)
        exact ⟨⟨k + 1, by omega, by simp, trivial, fun j hj => (by
          by_cases hjk : j = k
          · subst hjk; rw [HY.out]; exact HG.out
          · exact HA.out j (by omega))⟩, by simp [intOf]; omega⟩
      · have d1 : decide (y < x) = false := decide_eq_false g1
        have hget : xs[k]? = some y := by
          have hl := HL.out
          rw [List.getElem?_eq_getElem (by omega)]
          rw [← hy]
          simp [nth, show k < xs.length by omega]
        have HW0 := Lib.hid (withF_at (x := x) (l := xs) (k := k) (by have := HL.out; omega) HA.out (fun h => by
          rw [List.getElem?_eq_getElem h, Option.some.injEq] at hget
          rw [hget]; exact g1))
        by_cases g2 : y = x
        · have d2 : (y == x) = true := by rw [beq_iff_eq]; exact g2
          have HR := Lib.hid (show withF xs x = xs by rw [HW0.out, if_pos (by rw [hget, g2])])
          clear g1 g2 hy hget
          go_wp2_with (fail)
          go_ret
          have hl := HL.out
          rw [HR.out]
          exact ⟨⟨b, off, none⟩, c, by rw [hl]; rfl, by rw [hl]; exact HX.out, by omega, Below.refl _ _, .inl rfl⟩
        · have d2 : (y == x) = false := by rw [beq_eq_false_iff_ne]; exact g2
          have HW := Lib.hid (show withF xs x = xs.take k ++ x :: xs.drop k by rw [HW0.out, if_neg (by rw [hget]; intro e; exact g2 (Option.some.inj e))])
          clear g1 g2 hy hget
          have HR := Lib.hid (show withF xs x = xs.take k ++ [x] ++ xs.drop k by rw [HW.out]; simp)
          have hkn : k ≤ n := by omega
          have hlt : (xs.take k).length = k := by rw [List.length_take, HL.out]; omega
          have hld : (xs.drop k).length = n - k := by rw [List.length_drop, HL.out]
          have s1 : (k : Int) ≤ (c : Int) := by omega
          have s2 : (k : Int) ≤ (n : Int) := by omega
          have HO1 := Lib.hid (show OwnI 3 (w.alloc (.cells #[] 3)) w.heap.size (.slice (some ⟨w.heap.size, 0, none⟩) 0 0) [] from OwnI.empty w (Nat.le_refl _))
          have HC1 := Lib.hid (show ∀ j y, (xs.take k)[j]? = some y → (w.alloc (.cells #[] 3)).cell? ⟨b, off + j, none⟩ = some (.int .i64 y) from fun j y hj => by
            have hjk : j < k := by rw [← hlt]; exact (List.getElem?_eq_some_iff.1 hj).1
            rw [List.getElem?_take_of_lt hjk] at hj
            have := HC.out j (by omega)
            rw [show nth xs j = y by simp [nth, hj]] at this
            exact cell_keep (balloc w _) this)
          go_wp2_with (at_builtin; refine wpList_append_ints rfl _ _ 26 3 rfl w.heap.size i0 Tryz.underlying26 hi hz0 hz1 hz2 _ [] rfl HO1.out b off k c (xs.take k) rfl hlt HC1.out (fun y hy => HI.out y (List.mem_of_mem_take hy)) (by simp; omega) (by simp) ?_)
          intro v1 w1 ho1 hb1 _
          have HO2 := Lib.hid (show OwnI 3 w1 w.heap.size v1 (xs.take k) from ho1)
          have HB1 := Lib.hid (show Below w.heap.size w w1 from (balloc w _).trans hb1)
          have HZ1 := Lib.hid HB1.out.size
          clear ho1 hb1
          have HO2a := Lib.hid (HO2.out.below (balloc w1 (.cells #[.int .i64 x] 3)))
          have HC2 := Lib.hid (show ∀ j y, [x][j]? = some y → (w1.alloc (.cells #[.int .i64 x] 3)).cell? ⟨w1.heap.size, 0 + j, none⟩ = some (.int .i64 y) from fun j y hj => by
            match j, hj with
            | 0, hj => simp at hj; subst hj; exact cell_fresh rfl rfl)
          go_wp2_with (at_builtin; refine wpList_append_ints rfl _ _ 26 3 rfl w.heap.size i0 Tryz.underlying26 hi hz0 hz1 hz2 _ (xs.take k) rfl HO2a.out w1.heap.size 0 1 1 [x] rfl rfl HC2.out (fun y hy => by rw [List.mem_singleton] at hy; rw [hy]; exact HIX.out) (by rw [hlt]; omega) (by have := HZ1.out; simp; omega) ?_)
          intro v2 w2 ho2 hb2 _
          have HO3 := Lib.hid (show OwnI 3 w2 w.heap.size v2 (xs.take k ++ [x]) from ho2)
          have HB2 := Lib.hid (show Below w.heap.size w w2 from (HB1.out.alloc HZ1.out _).trans hb2)
          have HZ2 := Lib.hid HB2.out.size
          clear ho2 hb2
          have HC3 := Lib.hid (show ∀ j y, (xs.drop k)[j]? = some y → w2.cell? ⟨b, off + k + j, none⟩ = some (.int .i64 y) from fun j y hj => by
            have hjk : j < n - k := by rw [← hld]; exact (List.getElem?_eq_some_iff.1 hj).1
            rw [List.getElem?_drop] at hj
            have := HC.out (k + j) (by omega)
            rw [show nth xs (k + j) = y by simp [nth, hj]] at this
            rw [Nat.add_assoc]
            exact cell_keep HB2.out this)
          have hck : ¬c = k := by omega
          go_wp2_with (at_builtin; refine wpList_append_ints rfl _ _ 26 3 rfl w.heap.size i0 Tryz.underlying26 hi hz0 hz1 hz2 _ (xs.take k ++ [x]) rfl HO3.out b (off + k) (n - k) (c - k) (xs.drop k) rfl hld HC3.out (fun y hy => HI.out y (List.mem_of_mem_drop hy)) (by rw [List.length_append, hlt, List.length_singleton]; omega) HZ2.out ?_)
          intro v3 w3 ho3 hb3 _
          have HO4 := Lib.hid (show OwnI 3 w3 w.heap.size v3 (withF xs x) by rw [HR.out]; simpa using ho3)
          have HB3 := Lib.hid (HB2.out.trans hb3)
          clear ho3 hb3
          go_wp2_with (fail)
          go_ret
          exact own_gives HO4.out (withF_some _ _) (HWL.out) HB3.out _
    · obtain rfl : n = k := by omega
      have HW := Lib.hid (show withF xs x = xs.take n ++ x :: xs.drop n by
        have hl := HL.out
        rw [withF_at (k := n) (by omega) HA.out (fun h => by omega), if_neg (by rw [List.getElem?_eq_none (by omega)]; simp)])
      have HR := Lib.hid (show withF xs x = xs.take n ++ [x] ++ xs.drop n by rw [HW.out]; simp)
      have hkn : n ≤ n := by omega
      have hlt : (xs.take n).length = n := by rw [List.length_take, HL.out]; omega
      have hld : (xs.drop n).length = n - n := by rw [List.length_drop, HL.out]
      have s1 : (n : Int) ≤ (c : Int) := by omega
      have s2 : (n : Int) ≤ (n : Int) := by omega
      have HO1 := Lib.hid (show OwnI 3 (w.alloc (.cells #[] 3)) w.heap.size (.slice (some ⟨w.heap.size, 0, none⟩) 0 0) [] from OwnI.empty w (Nat.le_refl _))
      have HC1 := Lib.hid (show ∀ j y, (xs.take n)[j]? = some y → (w.alloc (.cells #[] 3)).cell? ⟨b, off + j, none⟩ = some (.int .i64 y) from fun j y hj => by
        have hjk : j < n := by rw [← hlt]; exact (List.getElem?_eq_some_iff.1 hj).1
        rw [List.getElem?_take_of_lt hjk] at hj
        have := HC.out j (by omega)
        rw [show nth xs j = y by simp [nth, hj]] at this
        exact cell_keep (balloc w _) this)
      go_wp2_with (at_builtin; refine wpList_append_ints rfl _ _ 26 3 rfl w.heap.size i0 Tryz.underlying26 hi hz0 hz1 hz2 _ [] rfl HO1.out b off n c (xs.take n) rfl hlt HC1.out (fun y hy => HI.out y (List.mem_of_mem_take hy)) (by simp; omega) (by simp) ?_)
      intro v1 w1 ho1 hb1 _
      have HO2 := Lib.hid (show OwnI 3 w1 w.heap.size v1 (xs.take n) from ho1)
      have HB1 := Lib.hid (show Below w.heap.size w w1 from (balloc w _).trans hb1)
      have HZ1 := Lib.hid HB1.out.size
      clear ho1 hb1
      have HO2a := Lib.hid (HO2.out.below (balloc w1 (.cells #[.int .i64 x] 3)))
      have HC2 := Lib.hid (show ∀ j y, [x][j]? = some y → (w1.alloc (.cells #[.int .i64 x] 3)).cell? ⟨w1.heap.size, 0 + j, none⟩ = some (.int .i64 y) from fun j y hj => by
        match j, hj with
        | 0, hj => simp at hj; subst hj; exact cell_fresh rfl rfl)
      go_wp2_with (at_builtin; refine wpList_append_ints rfl _ _ 26 3 rfl w.heap.size i0 Tryz.underlying26 hi hz0 hz1 hz2 _ (xs.take n) rfl HO2a.out w1.heap.size 0 1 1 [x] rfl rfl HC2.out (fun y hy => by rw [List.mem_singleton] at hy; rw [hy]; exact HIX.out) (by rw [hlt]; omega) (by have := HZ1.out; simp; omega) ?_)
      intro v2 w2 ho2 hb2 _
      have HO3 := Lib.hid (show OwnI 3 w2 w.heap.size v2 (xs.take n ++ [x]) from ho2)
      have HB2 := Lib.hid (show Below w.heap.size w w2 from (HB1.out.alloc HZ1.out _).trans hb2)
      have HZ2 := Lib.hid HB2.out.size
      clear ho2 hb2
      have HC3 := Lib.hid (show ∀ j y, (xs.drop n)[j]? = some y → w2.cell? ⟨b, off + n + j, none⟩ = some (.int .i64 y) from fun j y hj => by
        have hjk : j < n - n := by rw [← hld]; exact (List.getElem?_eq_some_iff.1 hj).1
        rw [List.getElem?_drop] at hj
        have := HC.out (n + j) (by omega)
        rw [show nth xs (n + j) = y by simp [nth, hj]] at this
        rw [Nat.add_assoc]
        exact cell_keep HB2.out this)
      have hdn : xs.drop n = [] := List.drop_of_length_le (Nat.le_of_eq HL.out)
      rw [hdn] at HR
      by_cases hck : c = n
      · go_wp2_with (at_builtin; refine wpList_append_ints rfl _ _ 26 3 rfl w.heap.size i0 Tryz.underlying26 hi hz0 hz1 hz2 _ (xs.take n ++ [x]) rfl HO3.out b _ 0 _ [] rfl rfl (fun j y hj => by simp at hj) (fun y hy => by cases hy) (by rw [List.length_append, hlt, List.length_singleton]; omega) HZ2.out ?_)
        intro v3 w3 ho3 hb3 _
        have HO4 := Lib.hid (show OwnI 3 w3 w.heap.size v3 (withF xs x) by rw [HR.out]; simpa using ho3)
        have HB3 := Lib.hid (HB2.out.trans hb3)
        clear ho3 hb3
        go_wp2_with (fail)
        go_ret
        exact own_gives HO4.out (withF_some _ _) (HWL.out) HB3.out _
      · go_wp2_with (at_builtin; refine wpList_append_ints rfl _ _ 26 3 rfl w.heap.size i0 Tryz.underlying26 hi hz0 hz1 hz2 _ (xs.take n ++ [x]) rfl HO3.out b _ 0 _ [] rfl rfl (fun j y hj => by simp at hj) (fun y hy => by cases hy) (by rw [List.length_append, hlt, List.length_singleton]; omega) HZ2.out ?_)
        intro v3 w3 ho3 hb3 _
        have HO4 := Lib.hid (show OwnI 3 w3 w.heap.size v3 (withF xs x) by rw [HR.out]; simpa using ho3)
        have HB3 := Lib.hid (HB2.out.trans hb3)
        clear ho3 hb3
        go_wp2_with (fail)
        go_ret
        exact own_gives HO4.out (withF_some _ _) (HWL.out) HB3.out _
end Go.Proofs.YtngdmpkoedpgdaaGreatDoor

/-
  Postings of the call's own, with the capacity of their lines.
-/


namespace Go.Ap
open Go Go.RowKit
/-- three cells that read as a posting; its lines' capacity is no lie -/
def PostMc (w : World) (b o : Nat) (p : Post) : Prop := ∃ a k, w.cell? ⟨b, o, none⟩ = some (.string (bs p.1.1)) ∧ w.cell? ⟨b, o + 1, none⟩ = some (.string (bs p.1.2)) ∧ w.cell? ⟨b, o + 2, none⟩ = some (.slice a p.2.length k) ∧ p.2.length ≤ k ∧ PostS w a p
abbrev Postc := SlM 3 PostMc
theorem PostMc.plain {w : World} {b o : Nat} {p : Post} (h : PostMc w b o p) : PostM w b o p := by
  obtain ⟨a, k, h1, h2, h3, _, h4⟩ := h
  exact ⟨a, k, h1, h2, h3, h4⟩
theorem Postc.plain {w : World} {a : Option Addr} {n : Nat} {l : List Post} (h : Postc w a n l) : Posts w a n l := ⟨h.len, h.small, fun k x hk => by obtain ⟨b, o, he, hx⟩ := h.cells k x hk; exact ⟨b, o, he, PostMc.plain hx⟩⟩
theorem PostMc.mono {w w' : World} {B b o : Nat} {p : Post} (h : PostMc w b o p) (hB : w.heap.size ≤ B) (hb : Below B w w') : PostMc w' b o p := by
  obtain ⟨a, k, h1, h2, h3, hk, h4⟩ := h
  exact ⟨a, k, cell_kept hB hb h1, cell_kept hB hb h2, cell_kept hB hb h3, hk, h4.mono hB hb⟩
theorem Postc.mono {w w' : World} {B : Nat} {a : Option Addr} {n : Nat} {l : List Post} (h : Postc w a n l) (hB : w.heap.size ≤ B) (hb : Below B w w') : Postc w' a n l := SlM.mono h fun _ _ _ hr => hr.mono hB hb
theorem Postc.take {w : World} {b o n k : Nat} {l : List Post} (h : Postc w (some ⟨b, o, none⟩) n l) (hk : k ≤ n) : Postc w (some ⟨b, o, none⟩) k (l.take k) :=
  ⟨by rw [List.length_take, h.len]; omega, by have := h.small; omega, fun j x hj => h.cells j x (by
    by_cases hjk : j < k
    · rwa [List.getElem?_take_of_lt hjk] at hj
    · rw [List.getElem?_eq_none (by rw [List.length_take]; omega)] at hj; cases hj)⟩
theorem Postc.drop {w : World} {b o n k : Nat} {l : List Post} (h : Postc w (some ⟨b, o, none⟩) n l) (hk : k ≤ n) : Postc w (some ⟨b, o + k * 3, none⟩) (n - k) (l.drop k) :=
  ⟨by rw [List.length_drop, h.len], by have := h.small; omega, fun j x hj => by
    rw [List.getElem?_drop] at hj
    obtain ⟨b', o', he, hx⟩ := h.cells (k + j) x hj
    cases he
    exact ⟨b, o + k * 3, rfl, by rw [show o + k * 3 + j * 3 = o + (k + j) * 3 by omega]; exact hx⟩⟩
/-- a row with its items -/
def RowQ (e : TypeId) (w : World) (base : Nat) (v : Value) (qs : List PIt) : Prop := w.ownsRow base e 3 v qs.length (qs.flatMap piC)
section
variable {P : Program} {w : World}
/-- postings that lie in a row: with their slices -/
theorem postc_items : ∀ {l : List Post} {b o n : Nat}, Postc w (some ⟨b, o, none⟩) n l → ∃ qs : List PIt, qs.map (·.1) = l ∧ (∀ j u, (qs.flatMap piC)[j]? = some u → w.cell? ⟨b, o + j, none⟩ = some u) ∧ ∀ p ∈ qs, ∃ a k, p.2 = .slice a p.1.2.length k ∧ p.1.2.length ≤ k ∧ PostS w a p.1
  | [], _, _, _, _ => ⟨[], rfl, by simp, fun _ h => absurd h List.not_mem_nil⟩
  | p :: r, b, o, n, h => by
    have hl := h.len
    have hs := h.small
    rw [List.length_cons] at hl
    obtain ⟨b', o', he, hp⟩ := h.cells 0 p rfl
    cases he
    rw [Nat.zero_mul, Nat.add_zero] at hp
    obtain ⟨a, k, c0, c1, c2, hkc, hps⟩ := hp
    have ht : Postc w (some ⟨b, o + 3, none⟩) (n - 1) r := ⟨by omega, by omega, fun j x hj => by
      obtain ⟨b', o', he, hx⟩ := h.cells (j + 1) x (by simpa using hj)
      cases he
      exact ⟨b, o + 3, rfl, by rw [show o + 3 + j * 3 = o + (j + 1) * 3 by omega]; exact hx⟩⟩
    obtain ⟨qs, q1, q2, q3⟩ := postc_items ht
    refine ⟨(p, .slice a p.2.length k) :: qs, by rw [List.map_cons, q1], fun j u hu => ?_, fun q hq => ?_⟩
    · rw [List.flatMap_cons] at hu
      by_cases hj : j < 3
      · rw [List.getElem?_append_left (by rw [piC_len]; exact hj)] at hu
        match j, hj with
        | 0, _ => simp [piC] at hu; rw [← hu]; exact c0
        | 1, _ => simp [piC] at hu; rw [← hu]; exact c1
        | 2, _ => simp [piC] at hu; rw [← hu]; exact c2
      · rw [List.getElem?_append_right (by rw [piC_len]; omega), piC_len] at hu
        have := q2 (j - 3) u hu
        rwa [show o + 3 + (j - 3) = o + j by omega] at this
    · rcases List.mem_cons.1 hq with rfl | hq
      · exact ⟨a, k, rfl, hkc, hps⟩
      · exact q3 q hq
theorem RowQ.empty (e : TypeId) (w : World) {base : Nat} (hw : base ≤ w.heap.size) : RowQ e (w.alloc (.cells #[] e)) base (.slice (some ⟨w.heap.size, 0, none⟩) 0 0) [] := World.ownsRow_made w #[] 0 hw (by simp [maxLen]) rfl
theorem wpList_append_q {ops : Array Oper} {rest : List Oper} {o : Oper} {a : Act} {Q : Exit → Act → World → Prop} (hgd : o.guard = none) (s x : Operand) (t e : TypeId)
    (ho : o.op = .call { callee := .builtin .append, args := #[s, x], argTypes := #[t, t] })
    (base : Nat) (i : TypeInfo) (ht : P.underlying t = some (.slice e)) (hi : P.info? e = some i) (hz : i.zero = some (.agg #[.string { data := #[] }, .string { data := #[] }, .slice none 0 0])) (hsize : i.size = 3) (hby : i.bytes = 56)
    (v : Value) (ps : List PIt) (hs : a.eval s = v) (hown : RowQ e w base v ps) (b off m c : Nat) (qs : List PIt) (hx : a.eval x = .slice (some ⟨b, off, none⟩) m c) (hql : qs.length = m)
    (hq : ∀ j u, (qs.flatMap piC)[j]? = some u → w.cell? ⟨b, off + j, none⟩ = some u) (hqs : ∀ p ∈ qs, p.2.oneCell' = true)
    (hlen : ps.length + m ≤ 1048576) (hbase : base ≤ w.heap.size)
    (h : ∀ v' w', RowQ e w' base v' (ps ++ qs) → Below base w w' → w.grownBy w' v.ownBlock → (v'.ownBlock = v.ownBlock ∨ v'.ownBlock = some w.heap.size) → wpList P ops Q rest (a.put o.dst v') w') : wpList P ops Q (o :: rest) a w := by
  have hfl : (qs.flatMap piC).length = m * 3 := by
    rw [← hql]
    exact piC_flat qs
  refine wpList_append_own_at w hgd s x t ho base e i (.agg #[.string { data := #[] }, .string { data := #[] }, .slice none 0 0]) 3 56 ht hi hz hsize hby rfl (by decide) v ps.length (ps.flatMap piC) hs hown ⟨b, off, none⟩ m c (qs.flatMap piC) hx hfl ?_ ?_ (by unfold maxLen; omega) (by omega) hbase ?_
  · intro j u hu
    have hadd : (⟨b, off, none⟩ : Addr).add j = ⟨b, off + j, none⟩ := by unfold Addr.add; split <;> simp_all
    rw [hadd]
    exact hq j u hu
  · intro u hu
    obtain ⟨q, hq1, hq2⟩ := List.mem_flatMap.1 hu
    unfold piC at hq2
    simp only [List.mem_cons, List.not_mem_nil, or_false] at hq2
    rcases hq2 with rfl | rfl | rfl
    · rfl
    · rfl
    · exact hqs q hq1
  · intro v' w' h1 h2 _ h4
    refine h v' w' ?_ ((Below.refl base w).grown h2 hbase fun k hk => (World.ownsRow.lt hown k hk).1) h2 h4
    unfold RowQ
    rw [List.length_append, List.flatMap_append, hql]
    exact h1
/-- .. read -/
theorem RowQ.gives {e : TypeId} {base : Nat} {v : Value} {qs : List PIt} (h : RowQ e w base v qs) (h0 : qs ≠ []) (hn : qs.length ≤ 4611686018427387903) (hp : ∀ p ∈ qs, ∃ a k, p.2 = .slice a p.1.2.length k ∧ p.1.2.length ≤ k ∧ PostS w a p.1) :
    ∃ b off c, v = .slice (some ⟨b, off, none⟩) qs.length c ∧ Postc w (some ⟨b, off, none⟩) qs.length (qs.map (·.1)) ∧ qs.length ≤ c := by
  rcases h.2 with ⟨rfl, hz⟩ | ⟨g, cap, cur, rfl, _, _, hc, _, _, _⟩
  · exact absurd (List.eq_nil_of_length_eq_zero hz) h0
  · refine ⟨g, 0, cap, rfl, ⟨by simp, hn, fun k x hk => ⟨g, 0, rfl, ?_⟩⟩, hc⟩
    rw [List.getElem?_map, Option.map_eq_some_iff] at hk
    obtain ⟨p, hpk, rfl⟩ := hk
    obtain ⟨a, c, h4, hkc, h5⟩ := hp p (List.mem_of_getElem? hpk)
    have hkl : k < qs.length := (List.getElem?_eq_some_iff.1 hpk).1
    have cl : ∀ i u, (piC p)[i]? = some u → i < 3 → w.cell? ⟨g, k * 3 + i, none⟩ = some u := fun i u hu hi => by
      rw [World.ownsRow.cellAt h (k * 3 + i) (by omega)]
      exact flat3 piC_len hpk hu
    rw [Nat.zero_add]
    exact ⟨a, c, cl 0 _ rfl (by omega), cl 1 _ rfl (by omega), by rw [← h4]; exact cl 2 _ rfl (by omega), hkc, h5⟩
/-- ints elsewhere stay -/
theorem ints_grown {w' : World} {row : Option Nat} {b off n : Nat} {xs : List Int} (h : Ints w (some ⟨b, off, none⟩) n xs) (hg : w.grownBy w' row) (hne : some b ≠ row) : Ints w' (some ⟨b, off, none⟩) n xs :=
  ⟨h.len, h.small, fun k x hk => by
    obtain ⟨b', o', v, he, hv, hr⟩ := h.cells k x hk
    cases he
    exact ⟨b, off, v, rfl, hg.cell hv hne, hr⟩⟩
end
end Go.Ap
