/-
  Where the search over all orders stands, in memory: words for its walk.
-/
import Derived.Test.YtamdonlncfmmmaaOwnQ
import Derived.Test.YtamdonlncfmmmaaPAll
import Derived.Test.YtamdonlncfmmmaaMarks
import Derived.OwnWalkIn
namespace Go.Proofs.Ytamdonlncfmmmaa
open Go.RowKit Go.Ap Go.Shelf Go.Proofs

/-- where the search stands, in memory -/
structure StA (e M1 M2 B6 B8 : Nat) (rs : List Rule) (s : Str) (w W : World) (Ds : List Nat) (i : Nat) (L N : List Str) : Prop where
  b4 : Boxed W e 26 (.slice none 0 0)
  b5 : Boxed W (e + 1) 27 (.int .i64 0)
  m1 : SetM W M1 L
  b6 : Boxed W B6 65 (.map (some M1))
  m2 : SetM W M2 N
  q : ∃ qv, Boxed W B8 26 qv ∧ OwnQ W e qv (L.drop i)
  at_ : AtB rs s i L N
  mks : Marks e W Ds
  num : Ds.length = i
  bel : Below e w W

/-- where it stands while the results of one string come -/
structure IA (e M1 M2 B6 B8 B10 Bw Br : Nat) (w : World) (Ds : List Nat) (N : List Str) (i : Nat) (L : List Str) (be : Bool) (W : World) : Prop where
  b4 : Boxed W e 26 (.slice none 0 0)
  b5 : Boxed W (e + 1) 27 (.int .i64 0)
  m1 : SetM W M1 L
  b6 : Boxed W B6 65 (.map (some M1))
  m2 : SetM W M2 N
  q : ∃ qv, Boxed W B8 26 qv ∧ OwnQ W e qv (L.drop (i + 1)) ∧ qv.ownBlock ≠ some Bw ∧ qv.ownBlock ≠ some Br
  lw : Bw < W.heap.size ∧ Br < W.heap.size
  b10 : Boxed W B10 4 (.bool be)
  le : L.length ≤ 4096
  nd : L.Nodup
  mks : Marks e W Ds
  bel : Below e w W

section
variable {e M1 M2 B6 B8 B10 Bw Br B : Nat} {w X Y : World} {Ds : List Nat} {N L : List Str} {i : Nat} {be : Bool} {row : Option Nat}
/-- one block turns, or none, and it is none of the search's -/
theorem IA.kept (h : IA e M1 M2 B6 B8 B10 Bw Br w Ds N i L be X) (hg : X.grownBy Y row)
    (hr : ∀ r, row = some r → e ≤ r ∧ r ≠ e ∧ r ≠ e + 1 ∧ r ≠ M1 ∧ r ≠ M2 ∧ r ≠ B6 ∧ r ≠ B8 ∧ r ≠ B10 ∧ X.heap[r]? ≠ some (.deferred (some [])) ∧ ∀ qv, Boxed X B8 26 qv → qv.ownBlock ≠ some r) : IA e M1 M2 B6 B8 B10 Bw Br w Ds N i L be Y := by
  have hne : ∀ b, (∀ r, row = some r → r ≠ b) → some b ≠ row := fun b hb he => hb b he.symm rfl
  obtain ⟨b4, b5, m1, b6, m2, ⟨qv, b8, hq, hqw, hqr⟩, ⟨lw, lr⟩, b10, le, nd, mks, bel⟩ := h
  refine ⟨b4.kept hg (hne _ fun r h => (hr r h).2.1), b5.kept hg (hne _ fun r h => (hr r h).2.2.1), m1.kept hg (hne _ fun r h => (hr r h).2.2.2.1), b6.kept hg (hne _ fun r h => (hr r h).2.2.2.2.2.1), m2.kept hg (hne _ fun r h => (hr r h).2.2.2.2.1),
    ⟨qv, b8.kept hg (hne _ fun r h => (hr r h).2.2.2.2.2.2.1), hq.kept hg ?_, hqw, hqr⟩, ⟨Nat.lt_of_lt_of_le lw hg.size, Nat.lt_of_lt_of_le lr hg.size⟩, b10.kept hg (hne _ fun r h => (hr r h).2.2.2.2.2.2.2.1), le, nd, mks.grown hg fun r h => (hr r h).2.2.2.2.2.2.2.2.1, bel.grown hg ?_ fun k hk => (hr k hk).1⟩
  · intro hb
    cases hrow : row with
    | none => obtain ⟨g, hg', _⟩ := hq.lt; rw [hrow] at hb; rw [hb] at hg'; cases hg'
    | some r => exact (hr r hrow).2.2.2.2.2.2.2.2.2 qv b8 (by rw [hb, hrow])
  · have := b4.lt; omega
theorem IA.own (h : IA e M1 M2 B6 B8 B10 Bw Br w Ds N i L be X) (hg : X.grownBy Y row) (hr : ∀ r, row = some r → B ≤ r ∧ ∃ o : Obj, X.heap[r]? = some o ∧ o.isCells = false) (he : e + 1 < B) (h1 : M1 < B) (h2 : M2 < B) (h6 : B6 < B) (h8 : B8 < B) (h10 : B10 < B) (hD : ∀ D ∈ Ds, D < B) :
    IA e M1 M2 B6 B8 B10 Bw Br w Ds N i L be Y := by
  have hne : ∀ b, b < B → some b ≠ row := fun b hb he => by have := (hr b he.symm).1; omega
  obtain ⟨b4, b5, m1, b6, m2, ⟨qv, b8, hq, hqw, hqr⟩, ⟨lw, lr⟩, b10, le, nd, mks, bel⟩ := h
  refine ⟨b4.kept hg (hne _ (by omega)), b5.kept hg (hne _ he), m1.kept hg (hne _ h1), b6.kept hg (hne _ h6), m2.kept hg (hne _ h2), ⟨qv, b8.kept hg (hne _ h8), hq.kept hg ?_, hqw, hqr⟩, ⟨Nat.lt_of_lt_of_le lw hg.size, Nat.lt_of_lt_of_le lr hg.size⟩, b10.kept hg (hne _ h10), le, nd, ⟨mks.1, fun k hk => ⟨(mks.2 k hk).1, (hg.block k (mks.lt k hk) (hne k (hD k hk))).trans (mks.2 k hk).2⟩⟩, bel.grown hg ?_ fun k hk => by have := (hr k hk).1; omega⟩
  · intro hb
    obtain ⟨g, hg', _, _, cur, hc⟩ := hq.lt
    rw [hg'] at hb
    obtain ⟨_, o, ho, hoc⟩ := hr g hb.symm
    rw [hc] at ho
    cases ho
    cases hoc
  · have := b4.lt; omega
theorem cells_ne_mark {W : World} {b : Nat} {t : TypeId} {v : Value} (h : Boxed W b t v) : W.heap[b]? ≠ some (.deferred (some [])) := by rw [show W.heap[b]? = _ from h]; simp
theorem set_ne_mark {W : World} {b : Nat} {L : List Str} (h : SetM W b L) : W.heap[b]? ≠ some (.deferred (some [])) := by
  obtain ⟨es, clock, h1, _⟩ := h
  rw [h1]; simp
theorem box_ne {W : World} {b b' : Nat} {t t' : TypeId} {v v' : Value} (h : Boxed W b t v) (h' : Boxed W b' t' v') (hne : t ≠ t') : b ≠ b' := fun he => by
  subst he
  have h2 : W.heap[b]? = some (.cells #[v'] t' (0, 0)) := h'
  rw [show W.heap[b]? = _ from h] at h2
  simp at h2
  exact hne h2.2
theorem box_q {W : World} {b base : Nat} {t : TypeId} {v qv : Value} {xs : List Str} (h : Boxed W b t v) (hq : OwnQ W base qv xs) (ht : t ≠ 9) : qv.ownBlock ≠ some b := fun he => by
  obtain ⟨g, hg, _, _, cur, hc⟩ := hq.lt
  rw [hg] at he
  injection he with he
  subst he
  rw [show W.heap[g]? = _ from h] at hc
  simp at hc
  exact ht hc.2
theorem box_set {W : World} {b b' : Nat} {t : TypeId} {v : Value} {L : List Str} (h : Boxed W b t v) (hm : SetM W b' L) : b ≠ b' := fun he => by
  subst he
  obtain ⟨es, clock, h1, _⟩ := hm
  rw [show W.heap[b]? = _ from h] at h1
  cases h1
theorem boxed_inj {W : World} {b : Nat} {t : TypeId} {v v' : Value} (h : Boxed W b t v) (h' : Boxed W b t v') : v = v' := by
  have h2 : W.heap[b]? = some (.cells #[v'] t (0, 0)) := h'
  rw [show W.heap[b]? = _ from h] at h2
  simpa using h2
theorem set_q {W : World} {b base : Nat} {L : List Str} {qv : Value} {xs : List Str} (h : SetM W b L) (hq : OwnQ W base qv xs) : qv.ownBlock ≠ some b := fun he => by
  obtain ⟨g, hg, _, _, cur, hc⟩ := hq.lt
  rw [hg] at he
  injection he with he
  subst he
  obtain ⟨es, clock, h1, _⟩ := h
  rw [h1] at hc
  cases hc

theorem keepsFrom_grown (hg : X.grownBy Y row) (hr : ∀ r, row = some r → r < B ∨ ∃ c t f, X.heap[r]? = some (.cells c t f)) : KeepsFrom B X Y :=
  ⟨hg.size, fun k o hk ho hc => (hg.block k (Array.getElem?_eq_some_iff.1 ho).1 fun he => by
    rcases hr k he.symm with h | ⟨c, t, f, h⟩
    · omega
    · rw [h] at ho; cases ho; cases hc).trans ho⟩
theorem keepR_grown (hg : X.grownBy Y row) (hw : Bw < X.heap.size) (hb : Br < X.heap.size) (hr : ∀ r, row = some r → e ≤ r ∧ r ≠ Bw ∧ r ≠ Br) (he : e ≤ X.heap.size := by omega) : KeepR e Bw Br X Y :=
  ⟨hg.os, hg.tape, hg.output, hg.size, fun k hk => hg.block k (by omega) fun he => by
    obtain ⟨h1, h2, h3⟩ := hr k he.symm
    rcases hk with h | h | h <;> omega⟩

/-- 'ends = false' -/
theorem IA.ends (h : IA e M1 M2 B6 B8 B10 Bw Br w Ds N i L be X) (he : e ≤ B10) : IA e M1 M2 B6 B8 B10 Bw Br w Ds N i L false (X.setCell ⟨B10, 0, none⟩ (.bool false)) := by
  obtain ⟨b4, b5, m1, b6, m2, ⟨qv, b8, hq, hqw, hqr⟩, ⟨lw, lr⟩, b10, le, nd, mks, bel⟩ := h
  have hg := grownBy_setAt X B10 0 (.bool false)
  exact ⟨b4.kept hg (by simpa using box_ne b4 b10 (by decide)), b5.kept hg (by simpa using box_ne b5 b10 (by decide)), m1.kept hg (by simpa using (box_set b10 m1).symm), b6.kept hg (by simpa using box_ne b6 b10 (by decide)), m2.kept hg (by simpa using (box_set b10 m2).symm),
    ⟨qv, b8.kept hg (by simpa using box_ne b8 b10 (by decide)), hq.kept hg (box_q b10 hq (by decide)), hqw, hqr⟩, ⟨Nat.lt_of_lt_of_le lw hg.size, Nat.lt_of_lt_of_le lr hg.size⟩, b10.set _, le, nd, mks.grown hg (fun r hr => by injection hr with hr; subst hr; exact cells_ne_mark b10), bel.setCell (by simpa using he) _⟩
/-- one more string is reached -/
theorem IA.push (h : IA e M1 M2 B6 B8 B10 Bw Br w Ds N i L false X) {x : Str} (hx : x ∉ L) (hxl : x.length ≤ 4611686018427387903) (he1 : e ≤ M1) (he8 : e < B8) (h12 : M1 ≠ M2) (hi : i + 1 ≤ L.length) (hw1 : M1 ≠ Bw) (hw2 : M1 ≠ Br) (hw3 : B8 ≠ Bw) (hw4 : B8 ≠ Br) (hB : M1 < B) :
    ∃ (W2 : World) (qv : Value), (Instr.mapUpdate 65 (.map (some M1)) (.string (bs x)) (.bool true)).run Try.prog X = .ok () W2 ∧ (Builtin.len_ #[65] 3 #[.map (some M1)]).run Try.prog W2 = .ok (.int .i64 ((L.length : Nat) + 1)) W2 ∧
      W2.cell? ⟨B6, 0, none⟩ = some (.map (some M1)) ∧ W2.cell? ⟨B8, 0, none⟩ = some qv ∧ Boxed W2 e 26 (.slice none 0 0) ∧ Boxed W2 (e + 1) 27 (.int .i64 0) ∧ Marks e W2 Ds ∧ Below e w W2 ∧ KeepsFrom B X W2 ∧
      ∃ (g o n' c' : Nat) (W3 : World), (Builtin.append_ #[26, 26] 26 #[qv, .slice (some ⟨W2.heap.size, 0, none⟩) 1 1]).run Try.prog (W2.alloc (.cells #[.string (bs x)] 9)) = .ok (.slice (some ⟨g, o, none⟩) n' c') W3 ∧
        W3.cell? ⟨B8, 0, none⟩ = some qv ∧ W3.frozen? ⟨B8, 0, none⟩ = false ∧ KeepsFrom B X (W3.setCell ⟨B8, 0, none⟩ (.slice (some ⟨g, o, none⟩) n' c')) ∧ KeepR e Bw Br X (W3.setCell ⟨B8, 0, none⟩ (.slice (some ⟨g, o, none⟩) n' c')) ∧
        (L.length + 1 ≤ 4096 → IA e M1 M2 B6 B8 B10 Bw Br w Ds N i (L ++ [x]) false (W3.setCell ⟨B8, 0, none⟩ (.slice (some ⟨g, o, none⟩) n' c'))) := by
  obtain ⟨b4, b5, m1, b6, m2, ⟨qv, b8, hq, hqw, hqr⟩, ⟨lw, lr⟩, b10, le, nd, mks, bel⟩ := h
  obtain ⟨W2, hupd, s1, hg⟩ := m1.add (by omega) hxl
  have nd' : (L ++ [x]).Nodup := by
    rw [List.nodup_append]
    exact ⟨nd, by simp, fun a ha b hb => by simp at hb; subst hb; exact fun e => hx (e ▸ ha)⟩
  have hlen := s1.size nd'
  rw [List.length_append, List.length_singleton] at hlen
  have k4 := b4.kept hg (by simpa using (box_set b4 m1))
  have k5 := b5.kept hg (by simpa using (box_set b5 m1))
  have k6 := b6.kept hg (by simpa using (box_set b6 m1))
  have k8 := b8.kept hg (by simpa using (box_set b8 m1))
  have k10 := b10.kept hg (by simpa using (box_set b10 m1))
  have n2 := m2.kept hg (by simpa using Ne.symm h12)
  have kq := hq.kept hg (set_q m1 hq)
  have kmk := mks.grown hg (fun r hr => by injection hr with hr; subst hr; exact set_ne_mark m1)
  have kbel := bel.grown hg (by have := b4.lt; omega) (fun k hk => by injection hk with hk; omega)
  refine ⟨W2, qv, hupd, by simpa using hlen, k6.cell, k8.cell, k4, k5, kmk, kbel, keepsFrom_grown hg (fun r hr => by injection hr with hr; subst hr; exact .inl hB), ?_⟩
  obtain ⟨gq, hgq, hgb, hglt, curq, hcurq⟩ := kq.lt
  have ka := World.grownBy_alloc W2 (.cells #[.string (bs x)] 9) none
  have ha : (W2.alloc (.cells #[.string (bs x)] 9)).cell? ⟨W2.heap.size, 0, none⟩ = some (.string (bs x)) := cell_fresh rfl rfl
  have kq2 := kq.kept ka (by rw [hgq]; simp)
  obtain ⟨v', W3, hrun, hq3, hg3, hob⟩ := kq2.push (by have := k4.lt; simp; omega) (by rw [List.length_drop]; omega) x ⟨W2.heap.size, 0, none⟩ ha (fun g hg' => by rw [hgq] at hg'; injection hg' with hg'; simp; omega)
  obtain ⟨g, o, c', rfl⟩ := hq3.form
  have hdrop : L.drop (i + 1) ++ [x] = (L ++ [x]).drop (i + 1) := by rw [List.drop_append_of_le_length hi]
  have kb : ∀ {b : Nat} {t : TypeId} {v : Value}, Boxed W2 b t v → t ≠ 9 → Boxed W3 b t v := fun {b t v} hb ht => (hb.alloc _).kept hg3 (fun he => box_q hb kq ht he.symm)
  have ks : ∀ {b : Nat} {M : List Str}, SetM W2 b M → SetM W3 b M := fun {b M} hb => (hb.kept ka (by simp)).kept hg3 (fun he => set_q hb kq he.symm)
  have k83 := kb k8 (by decide)
  have hgs := grownBy_setAt W3 B8 0 (.slice (some ⟨g, o, none⟩) (L.drop (i + 1) ++ [x]).length c')
  have hszX := b4.lt
  have hsz2 := hg.size
  have hsz3 := hg3.size
  simp only [World.size_alloc] at hsz3
  refine ⟨g, o, _, c', W3, hrun, k83.cell, k83.frozen, ?_, ?_, fun hl => ?_⟩
  · refine (keepsFrom_grown hg (fun r hr => by injection hr with hr; subst hr; exact .inl hB)).trans ((keepsFrom_grown ka (fun r hr => by cases hr)).trans ((keepsFrom_grown hg3 fun r hr => ?_).trans (keepsFrom_grown hgs fun r hr => ?_)))
    · rw [hgq] at hr; injection hr with hr; subst hr
      exact .inr ⟨_, _, _, (Below.heap_alloc W2 _ gq hglt).trans hcurq⟩
    · injection hr with hr; subst hr
      exact .inr ⟨_, _, _, k83⟩
  · refine (keepR_grown hg (by omega) (by omega) fun r hr => ?_).trans ((keepR_grown ka (by omega) (by omega) (fun r hr => by cases hr)).trans ((keepR_grown hg3 (by simp; omega) (by simp; omega) (fun r hr => ?_) (by simp; omega)).trans (keepR_grown hgs (by omega) (by omega) fun r hr => ?_)))
    · injection hr with hr; subst hr; exact ⟨he1, hw1, hw2⟩
    · rw [hgq] at hr; injection hr with hr; subst hr
      exact ⟨hgb, fun he => hqw (by rw [hgq, he]), fun he => hqr (by rw [hgq, he])⟩
    · injection hr with hr; subst hr; exact ⟨by omega, hw3, hw4⟩
  have hnew : ∀ b, qv.ownBlock ≠ some b → b < X.heap.size → (Value.slice (some ⟨g, o, none⟩) (L.drop (i + 1) ++ [x]).length c').ownBlock ≠ some b := fun b h1 h2 h3 => by
    rcases hob with h | ⟨g1, h, hge⟩
    · exact h1 (h ▸ h3)
    · rw [h] at h3; injection h3 with h3; simp at hge; omega
  have kmk3 : Marks e W3 Ds := (kmk.grown ka (by simp)).grown hg3 (fun r hr => by
    rw [hgq] at hr; injection hr with hr; subst hr
    rw [(Below.heap_alloc W2 _ gq hglt).trans hcurq]; simp)
  exact ⟨(kb k4 (by decide)).kept hgs (by simp; omega), (kb k5 (by decide)).kept hgs (by simpa using box_ne (kb k5 (by decide)) k83 (by decide)), (ks s1).kept hgs (by simpa using (box_set k83 (ks s1)).symm),
    (kb k6 (by decide)).kept hgs (by simpa using box_ne (kb k6 (by decide)) k83 (by decide)), (ks n2).kept hgs (by simpa using (box_set k83 (ks n2)).symm), ⟨_, k83.set _, by rw [← hdrop]; exact hq3.kept hgs (box_q k83 hq3 (by decide)), hnew Bw hqw lw, hnew Br hqr lr⟩, ⟨by simp [World.setCell]; omega, by simp [World.setCell]; omega⟩,
    (kb k10 (by decide)).kept hgs (by simpa using box_ne (kb k10 (by decide)) k83 (by decide)), by simpa using hl, nd', kmk3.grown hgs (fun r hr => by injection hr with hr; subst hr; exact cells_ne_mark k83),
    ((((kbel.alloc (by have := k4.lt; omega) _).grown hg3 (by have := k4.lt; simp; omega) (fun k hk => by rw [hgq] at hk; injection hk with hk; omega))).setCell (by simp; omega) _)⟩
theorem SetM.alloc {W : World} {b : Nat} {L : List Str} (h : SetM W b L) (o : Obj) : SetM (W.alloc o) b L := h.kept (World.grownBy_alloc W o none) (by simp)
theorem OwnQ.alloc {W : World} {base : Nat} {v : Value} {xs : List Str} (h : OwnQ W base v xs) (o : Obj) : OwnQ (W.alloc o) base v xs := h.kept (World.grownBy_alloc W o none) (by obtain ⟨g, hg, _⟩ := h.lt; rw [hg]; simp)
theorem marks_alloc {W : World} (h : Marks e W Ds) (o : Obj) : Marks e (W.alloc o) Ds := h.grown (World.grownBy_alloc W o none) (by simp)
/-- one string is taken from the queue, and the iterator over its results is made -/
theorem start_IA {rs : List Rule} {s x : Str} {W : World} {a : Option Addr} {n c gq oq mq cq : Nat} (h : StA e M1 M2 B6 B8 rs s w W Ds i L N) (he : e < B8) (hq : OwnQ W e (.slice (some ⟨gq, oq, none⟩) mq cq) (L.drop (i + 1))) :
    ∀ WB, WB = ((((W.setCell ⟨B8, 0, none⟩ (.slice (some ⟨gq, oq, none⟩) mq cq)).alloc (.cells #[.bool true] 4)).alloc (.cells #[.slice a n c] 22)).alloc (.cells #[.string (bs x)] 9)) →
      IA e M1 M2 B6 B8 W.heap.size (W.heap.size + 1 + 1) (W.heap.size + 1) w Ds N i L true WB ∧ Below e w WB ∧ WB.cell? ⟨W.heap.size + 1 + 1, 0, none⟩ = some (.string (bs x)) ∧ WB.cell? ⟨W.heap.size + 1, 0, none⟩ = some (.slice a n c) ∧ WB.heap.size = W.heap.size + 3 := by
  rintro WB rfl
  obtain ⟨b4, b5, m1, b6, m2, ⟨qv', b8, _⟩, hat, mks, hnum, bel⟩ := h
  have hs8 : (W.setCell ⟨B8, 0, none⟩ (.slice (some ⟨gq, oq, none⟩) mq cq)).heap.size = W.heap.size := by simp [World.setCell]
  have hg := grownBy_setAt W B8 0 (.slice (some ⟨gq, oq, none⟩) mq cq)
  have heW := b4.lt
  have k4 := b4.kept hg (by simp; omega)
  have k5 := b5.kept hg (by simpa using box_ne b5 b8 (by decide))
  have k1 := m1.kept hg (by simpa using (box_set b8 m1).symm)
  have k6 := b6.kept hg (by simpa using box_ne b6 b8 (by decide))
  have k2 := m2.kept hg (by simpa using (box_set b8 m2).symm)
  have k8 := b8.set (.slice (some ⟨gq, oq, none⟩) mq cq)
  have kq := hq.kept hg (box_q b8 hq (by decide))
  have kmk := mks.grown hg (fun r hr => by injection hr with hr; subst hr; exact cells_ne_mark b8)
  have kbel := bel.setCell (p := ⟨B8, 0, none⟩) (by simp; omega) (.slice (some ⟨gq, oq, none⟩) mq cq)
  have x10 := Boxed.new (W.setCell ⟨B8, 0, none⟩ (.slice (some ⟨gq, oq, none⟩) mq cq)) 4 (.bool true)
  rw [hs8] at x10
  have hgl : gq < W.heap.size := by obtain ⟨g, h1, _, h2, _⟩ := hq.lt; simp [Value.ownBlock] at h1; omega
  refine ⟨⟨((k4.alloc _).alloc _).alloc _, ((k5.alloc _).alloc _).alloc _, ((k1.alloc _).alloc _).alloc _, ((k6.alloc _).alloc _).alloc _, ((k2.alloc _).alloc _).alloc _, ⟨_, ((k8.alloc _).alloc _).alloc _, ((kq.alloc _).alloc _).alloc _, by simp [Value.ownBlock]; omega, by simp [Value.ownBlock]; omega⟩, ⟨by simp [hs8], by simp [hs8]⟩, (x10.alloc _).alloc _, hat.le, hat.nd, marks_alloc (marks_alloc (marks_alloc kmk _) _) _, ?_⟩, ?_, ?_, ?_, ?_⟩
  · exact ((kbel.alloc (by omega) _).alloc (by simp; omega) _).alloc (by simp; omega) _
  · exact ((kbel.alloc (by omega) _).alloc (by simp; omega) _).alloc (by simp; omega) _
  · exact cell_fresh (by simp [hs8]) rfl
  · rw [World.cell?_alloc_lt _ _ _ (by simp [hs8])]
    exact cell_fresh (by simp [hs8]) rfl
  · simp [hs8]
end

/-- 'append(s, x)' whose run is known -/
theorem wpListIn_append_run {F : Fence} {n : Nat} {P : Program} (w : World) {ops : Array Oper} {rest : List Oper} {o : Oper} {a : Act} {Q : Exit → Act → World → Prop}
    (hg : o.guard = none) (s x : Operand) (t : TypeId) (hop : o.op = Op.call { callee := Callee.builtin Builtin.append, args := #[s, x], argTypes := #[t, t] })
    (v u v' : Value) (w' : World) (hs : a.eval s = v) (hx : a.eval x = u) (hrun : (Builtin.append_ #[t, t] o.type #[v, u]).run P w = .ok v' w')
    (hK : wpListIn F n P ops Q rest (a.put o.dst v') w') : wpListIn F n P ops Q (o :: rest) a w := by
  refine wpListIn_plain hg fun K hK' => ?_
  unfold Oper.wpIn
  refine ⟨?_, ?_⟩
  · simp [Oper.about, hop, resolve, Target.leads, Sem.run_pure]
  · rw [Oper.semAt_plain F _ _ (by rw [hop]; intro c hc'; cases hc')]
    simp [execOp, hop, resolve, invoke, builtin, hs, hx, hrun, Result.andThen]
    exact hK' _ _ hK
end Go.Proofs.Ytamdonlncfmmmaa
