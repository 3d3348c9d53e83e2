/-
  Plain laws: what the program's Cover returns is the least cover; so it is what the reference's Cover returns.
-/
import Derived.Test.YtcmckcmckbdmhaaCov
namespace Go.Proofs.Ytcmckcmckbdmhaa
open Go.RowKit Go.Ap

def orL (bs : List Nat) (hv : Nat) (l : List Int) : Nat := l.foldl (fun a k => a ||| bs.getD k.toNat 0) hv
/-- a list of so many indices from i on that completes what is had -/
structure Ext (bs : List Nat) (want left i hv : Nat) (l : List Int) : Prop where
  len : l.length = left
  asc : l.Pairwise (· < ·)
  rng : ∀ k ∈ l, (i : Int) ≤ k ∧ k < bs.length
  ins : ∀ k ∈ l, andNotN (bs.getD k.toNat 0) want = 0
  all : orL bs hv l = want

theorem Ext.tail {bs : List Nat} {want left i hv : Nat} {h : Int} {l : List Int} (e : Ext bs want (left + 1) i hv (h :: l)) (hi : h = i) : Ext bs want left (i + 1) (hv ||| bs.getD i 0) l := by
  subst hi
  obtain ⟨h1, h2⟩ := List.pairwise_cons.1 e.asc
  refine ⟨by simpa using e.len, h2, fun k hk => ?_, fun k hk => e.ins k (List.mem_cons_of_mem _ hk), ?_⟩
  · have := h1 k hk
    have := e.rng k (List.mem_cons_of_mem _ hk)
    omega
  · have := e.all
    simpa [orL] using this
theorem Ext.cons {bs : List Nat} {want left i hv : Nat} {l : List Int} (hi : i < bs.length) (h0 : andNotN (bs.getD i 0) want = 0) (e : Ext bs want left (i + 1) (hv ||| bs.getD i 0) l) : Ext bs want (left + 1) i hv ((i : Int) :: l) := by
  refine ⟨by simp [e.len], List.pairwise_cons.2 ⟨fun k hk => by have := e.rng k hk; omega, e.asc⟩, fun k hk => ?_, fun k hk => ?_, ?_⟩
  · rcases List.mem_cons.1 hk with rfl | hk
    · omega
    · have := e.rng k hk; omega
  · rcases List.mem_cons.1 hk with rfl | hk
    · simpa using h0
    · exact e.ins k hk
  · have := e.all
    simpa [orL] using this
theorem Ext.later {bs : List Nat} {want left i hv : Nat} {h : Int} {l : List Int} (e : Ext bs want (left + 1) i hv (h :: l)) (hi : h ≠ i) : Ext bs want (left + 1) (i + 1) hv (h :: l) := by
  refine ⟨e.len, e.asc, fun k hk => ?_, e.ins, e.all⟩
  have h1 := e.rng k hk
  have h2 := e.rng h (List.mem_cons_self ..)
  rcases List.mem_cons.1 hk with rfl | hk
  · omega
  · have := (List.pairwise_cons.1 e.asc).1 k hk; omega
theorem Ext.sooner {bs : List Nat} {want left i hv : Nat} {l : List Int} (e : Ext bs want left (i + 1) hv l) : Ext bs want left i hv l :=
  ⟨e.len, e.asc, fun k hk => by have := e.rng k hk; omega, e.ins, e.all⟩

def First (P : List Int → Prop) (o : Option (List Int)) : Prop :=
  match o with
  | some l => P l ∧ ∀ l', P l' → l = l' ∨ lessL l l' = true
  | none => ∀ l', ¬ P l'

theorem choose_first (bs : List Nat) (want : Nat) : ∀ left i hv, First (Ext bs want left i hv) (chooseL bs want left i hv)
  | 0, i, hv => by
    rw [chooseL]
    split
    · rename_i h
      refine ⟨⟨rfl, List.Pairwise.nil, by simp, by simp, h⟩, fun l' e => .inl ?_⟩
      exact (List.eq_nil_of_length_eq_zero e.len).symm
    · rename_i h
      intro l' e
      have := List.eq_nil_of_length_eq_zero e.len
      subst this
      exact h e.all
  | left + 1, i, hv => by
    rw [chooseL]
    have key : ∀ f i, i + f = bs.length ∨ (f = 0 ∧ bs.length ≤ i) → First (Ext bs want (left + 1) i hv) (chooseG bs want (chooseL bs want left) hv f i) := by
      intro f
      induction f with
      | zero =>
        intro i hf l' e
        cases l' with
        | nil => have := e.len; simp at this
        | cons h l' => have := e.rng h (List.mem_cons_self ..); omega
      | succ f ih =>
        intro i hf
        have hi : i < bs.length := by omega
        have ihf := ih (i + 1) (by omega)
        -- what begins later
        have later : (∀ l', Ext bs want left (i + 1) (hv ||| bs.getD i 0) l' → andNotN (bs.getD i 0) want = 0 → False) → First (Ext bs want (left + 1) i hv) (chooseG bs want (chooseL bs want left) hv f (i + 1)) := by
          intro hno
          have conv : ∀ l', Ext bs want (left + 1) i hv l' → Ext bs want (left + 1) (i + 1) hv l' := by
            intro l' e
            cases l' with
            | nil => have := e.len; simp at this
            | cons h l' =>
              by_cases hh : h = i
              · subst hh
                have := e.ins _ (List.mem_cons_self ..)
                exact (hno l' (e.tail rfl) (by simpa using this)).elim
              · exact e.later hh
          revert ihf
          cases chooseG bs want (chooseL bs want left) hv f (i + 1) with
          | none => intro ihf l' e; exact ihf l' (conv l' e)
          | some l => intro ihf; exact ⟨ihf.1.sooner, fun l' e => ihf.2 l' (conv l' e)⟩
        rw [chooseG]
        by_cases h0 : andNotN (bs.getD i 0) want = 0
        · rw [if_pos h0]
          have hgo := choose_first bs want left (i + 1) (hv ||| bs.getD i 0)
          revert hgo
          cases chooseL bs want left (i + 1) (hv ||| bs.getD i 0) with
          | none => intro hgo; exact later (fun l' e _ => hgo l' e)
          | some l =>
            intro hgo
            refine ⟨hgo.1.cons hi h0, fun l' e => ?_⟩
            cases l' with
            | nil => have := e.len; simp at this
            | cons h l' =>
              by_cases hh : h = i
              · subst hh
                rcases hgo.2 l' (e.tail rfl) with rfl | hl
                · exact .inl rfl
                · exact .inr (by rw [lessL, if_pos rfl]; exact hl)
              · have := e.rng h (List.mem_cons_self ..)
                exact .inr (by rw [lessL, if_neg (Ne.symm hh)]; simp; omega)
        · rw [if_neg h0]
          exact later (fun l' _ h => h0 h)
    exact key _ _ (by omega)

theorem orL_testBit (bs : List Nat) : ∀ (l : List Int) (hv j : Nat), (orL bs hv l).testBit j = (hv.testBit j || l.any fun k => (bs.getD k.toNat 0).testBit j)
  | [], hv, j => by simp [orL]
  | k :: l, hv, j => by
    have := orL_testBit bs l (hv ||| bs.getD k.toNat 0) j
    rw [orL, List.foldl_cons, List.any_cons]
    rw [orL] at this
    rw [this, Nat.testBit_or, Bool.or_assoc]

theorem row_bits (xss : List (List Int)) (k : Int) : (xss.map bitsN).getD k.toNat 0 = bitsN (row xss k) := by
  rw [List.getD_eq_getElem?_getD, List.getElem?_map, row]
  cases xss[k.toNat]? <;> rfl

theorem ext_cov {t : List Int} {xss : List (List Int)} (st : SetL t) (sx : ∀ xs ∈ xss, SetL xs) (left : Nat) (l : List Int) :
    Ext (xss.map bitsN) (bitsN t) left 0 0 l ↔ IdxL xss.length l ∧ l.length = left ∧ Cov t xss l := by
  have ht : ∀ j : Nat, (bitsN t).testBit j = t.contains (j : Int) := fun j => bitsN_testBit t j (fun x hx => (st.2 x hx).1)
  have hr : ∀ (k : Int) (j : Nat), (bitsN (row xss k)).testBit j = (row xss k).contains (j : Int) := fun k j => bitsN_testBit _ j (fun x hx => ((row_setL sx k).2 x hx).1)
  have hin : ∀ k, andNotN (bitsN (row xss k)) (bitsN t) = 0 ↔ ∀ x, (row xss k).contains x = true → t.contains x = true := by
    intro k
    constructor
    · intro h x hx
      have hx0 := ((row_setL sx k).2 x (List.contains_iff_mem.1 hx)).1
      have := andNotN_testBit (bitsN (row xss k)) (bitsN t) x.toNat
      rw [h, Nat.zero_testBit, hr, ht, show ((x.toNat : Nat) : Int) = x by omega, hx] at this
      simpa using this
    · intro h
      apply Nat.eq_of_testBit_eq
      intro j
      rw [andNotN_testBit, hr, ht, Nat.zero_testBit]
      cases hc : (row xss k).contains (j : Int)
      · rfl
      · rw [h _ hc]; rfl
  have hall : Ins t xss l → (orL (xss.map bitsN) 0 l = bitsN t ↔ Holds t xss l []) := by
    intro hi
    constructor
    · intro h x hx
      have hx0 := (st.2 x (List.contains_iff_mem.1 hx)).1
      have := orL_testBit (xss.map bitsN) l 0 x.toNat
      rw [h, ht, show ((x.toNat : Nat) : Int) = x by omega, hx, Nat.zero_testBit, Bool.false_or] at this
      obtain ⟨k, hk, hb⟩ := List.any_eq_true.1 this.symm
      rw [row_bits, hr, show ((x.toNat : Nat) : Int) = x by omega] at hb
      exact .inr ⟨k, hk, hb⟩
    · intro h
      apply Nat.eq_of_testBit_eq
      intro j
      rw [orL_testBit, Nat.zero_testBit, Bool.false_or, ht]
      rw [Bool.eq_iff_iff, List.any_eq_true]
      constructor
      · rintro ⟨k, hk, hb⟩
        rw [row_bits, hr] at hb
        exact hi k hk _ hb
      · intro hx
        rcases h _ hx with h | ⟨k, hk, hb⟩
        · simp at h
        · exact ⟨k, hk, by rw [row_bits, hr]; exact hb⟩
  constructor
  · intro e
    have hi : Ins t xss l := fun k hk => (hin k).1 (by have := e.ins k hk; rwa [row_bits] at this)
    exact ⟨⟨e.asc, fun k hk => by have := e.rng k hk; simp at this; omega⟩, e.len, hi, (hall hi).1 e.all⟩
  · rintro ⟨h1, h2, h3, h4⟩
    exact ⟨h2, h1.1, fun k hk => by have := h1.2 k hk; simp; omega, fun k hk => by rw [row_bits]; exact (hin k).2 (h3 k hk), (hall h3).2 h4⟩

theorem coverF_least {t : List Int} {xss : List (List Int)} (st : SetL t) (sx : ∀ xs ∈ xss, SetL xs) : ∀ f m,
    match coverF (xss.map bitsN) (bitsN t) f m with
    | some l => Cov t xss l ∧ IdxL xss.length l ∧ ∀ l', IdxL xss.length l' → m ≤ l'.length → Cov t xss l' → leL l l'
    | none => ∀ l', IdxL xss.length l' → m ≤ l'.length → l'.length < m + f → ¬ Cov t xss l'
  | 0, m => by intro l' _ h1 h2; omega
  | f + 1, m => by
    have hf := choose_first (xss.map bitsN) (bitsN t) m 0 0
    have ih := coverF_least st sx f (m + 1)
    rw [coverF]
    revert hf
    cases chooseL (xss.map bitsN) (bitsN t) m 0 0 with
    | some l =>
      intro hf
      have h := (ext_cov st sx m l).1 hf.1
      refine ⟨h.2.2, h.1, fun l' h1 h2 h3 => ?_⟩
      by_cases hl : l'.length = m
      · rcases hf.2 l' ((ext_cov st sx m l').2 ⟨h1, hl, h3⟩) with rfl | hh
        · exact leL_refl _
        · exact .inr ⟨by rw [h.2.1, hl], .inr hh⟩
      · exact .inl (by rw [h.2.1]; omega)
    | none =>
      intro hf
      have hno : ∀ l', IdxL xss.length l' → l'.length = m → ¬ Cov t xss l' := fun l' h1 h2 h3 => hf l' ((ext_cov st sx m l').2 ⟨h1, h2, h3⟩)
      revert ih
      show (match coverF (xss.map bitsN) (bitsN t) f (m + 1) with
        | some l => Cov t xss l ∧ IdxL xss.length l ∧ ∀ l', IdxL xss.length l' → m + 1 ≤ l'.length → Cov t xss l' → leL l l'
        | none => ∀ l', IdxL xss.length l' → m + 1 ≤ l'.length → l'.length < m + 1 + f → ¬ Cov t xss l') → _
      cases coverF (xss.map bitsN) (bitsN t) f (m + 1) with
      | some l =>
        intro ih
        refine ⟨ih.1, ih.2.1, fun l' h1 h2 h3 => ?_⟩
        by_cases hl : l'.length = m
        · exact absurd h3 (hno l' h1 hl)
        · exact ih.2.2 l' h1 (by omega) h3
      | none =>
        intro ih l' h1 h2 h3
        by_cases hl : l'.length = m
        · exact hno l' h1 hl
        · exact ih l' h1 (by omega) (by omega)

theorem cover_least {t : List Int} {xss : List (List Int)} (st : SetL t) (sx : ∀ xs ∈ xss, SetL xs) (hm : xss.length ≤ 64) : Least t xss (coverO t xss) := by
  have h := coverF_least st sx (xss.length + 1) 0
  rw [coverO]
  revert h
  cases coverF (xss.map bitsN) (bitsN t) (xss.length + 1) 0 with
  | some l => intro h; exact ⟨h.1, h.2.1, fun l' h1 h2 => h.2.2 l' h1 (Nat.zero_le _) h2⟩
  | none => intro h l' h1; exact h l' h1 (Nat.zero_le _) (by have := idx_len hm h1; omega)

theorem cover_same {t : List Int} {xss : List (List Int)} (st : SetL t) (sx : ∀ xs ∈ xss, SetL xs) (hm : xss.length ≤ 64) :
    (if (rcoverO t xss).2 then some (rcoverO t xss).1 else none) = coverO t xss := least_unique (rcover_least st sx hm) (cover_least st sx hm)

/-- the reference's Cover gives what the program's gives -/
theorem refcover27 (a b : Option Addr) (n m c d : Nat) (t : List Int) (xss : List (List Int)) (w : World) (ht : Ints w a n t) (hx : Rows2 w b m xss) :
    Calls Try.prog 27 #[.slice a n c, .slice b m d] w (GivesE w (coverR t xss) (coverE t xss)) := by
  unfold coverR coverE
  rw [hx.len]
  by_cases h1 : 16 < m
  · rw [if_pos h1, if_pos h1]
    exact refcover27_great a b n m c d w hx.small h1
  · rw [if_neg h1, if_neg h1]
    cases h2 : coverB t xss
    · have hcc := Bool.or_eq_false_iff.1 h2
      have st : SetL t := (chk_iff t).1 (by simpa using hcc.1)
      have sx : ∀ xs ∈ xss, SetL xs := fun xs hxs => (chk_iff xs).1 (by
        have := List.any_eq_false.1 hcc.2 xs hxs
        simpa using this)
      have h := refcover27_ok a b n m c d t xss w ht hx st sx (by omega) _ rfl
      have hs := cover_same st sx (by rw [hx.len]; omega)
      have e1 : (if (rcoverO t xss).2 = true then (rcoverO t xss).1 else []) = (coverO t xss).getD [] := by rw [← hs]; split <;> rfl
      have e2 : (if (rcoverO t xss).2 = true then (0 : Int) else 6) = covE (coverO t xss) := by rw [← hs]; split <;> rfl
      rw [e1, e2] at h
      exact h
    · exact refcover27_bad a b n m c d t xss w ht hx (by omega) h2

end Go.Proofs.Ytcmckcmckbdmhaa
