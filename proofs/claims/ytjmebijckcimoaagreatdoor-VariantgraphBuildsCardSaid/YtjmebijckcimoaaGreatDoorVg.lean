import Derived.Test.YtjmebijckcimoaaGreatDoorPl
import Derived.Test.YtjmebijckcimoaaGreatDoorUa



namespace Go.Ap.Vg
def upd (v : Nat → Nat) (i x : Nat) : Nat → Nat := fun j => if j = i then x else v j
def dot (u v : Nat → Nat) : Nat → Nat
  | 0 => 0
  | n + 1 => dot u v n + u n * v n
theorem dot_upd_r (u v : Nat → Nat) (i x : Nat) : ∀ n, i < n → dot u (upd v i (v i + x)) n = dot u v n + u i * x
  | n + 1, h => by
    by_cases e : i = n
    · subst e
      have : ∀ m, m ≤ i → dot u (upd v i (v i + x)) m = dot u v m := by
        intro m hm
        induction m with
        | zero => rfl
        | succ m ih =>
          unfold dot
          rw [ih (by omega)]
          simp [upd, show m ≠ i by omega]
      unfold dot
      rw [this i (Nat.le_refl _)]
      simp [upd, Nat.mul_add, Nat.add_assoc]
    · have ih := dot_upd_r u v i x n (by omega)
      unfold dot
      rw [ih]
      simp [upd, show n ≠ i by omega]
      omega
theorem dot_comm (u v : Nat → Nat) : ∀ n, dot u v n = dot v u n
  | 0 => rfl
  | n + 1 => by unfold dot; rw [dot_comm u v n, Nat.mul_comm]
theorem dot_upd_l (u v : Nat → Nat) (i x n : Nat) (h : i < n) : dot (upd u i (u i + x)) v n = dot u v n + x * v i := by
  rw [dot_comm, dot_upd_r v u i x n h, dot_comm, Nat.mul_comm]
abbrev Ends := Nat × Nat
/-- the numbers of paths, arc by arc, from the beginning on -/
def fwd : List Ends → (Nat → Nat) → Nat → Nat
  | [], v => v
  | a :: r, v => fwd r (upd v a.2 (v a.2 + v a.1))
/-- .. from the end on -/
def bwd : List Ends → (Nat → Nat) → Nat → Nat
  | [], u => u
  | a :: r, u => upd (bwd r u) a.1 (bwd r u a.1 + bwd r u a.2)
theorem dot_fwd (n : Nat) : ∀ (l : List Ends) (u v : Nat → Nat), (∀ a ∈ l, a.1 < n ∧ a.2 < n) → dot u (fwd l v) n = dot (bwd l u) v n
  | [], u, v, _ => rfl
  | a :: r, u, v, h => by
    have h1 := h a (List.mem_cons_self ..)
    unfold fwd bwd
    rw [dot_fwd n r u _ fun b hb => h b (List.mem_cons_of_mem _ hb), dot_upd_r _ v a.2 (v a.1) n h1.2, dot_upd_l _ v a.1 _ n h1.1]
def one (k : Nat) : Nat → Nat := fun j => if j = k then 1 else 0
theorem dot_one (k : Nat) (v : Nat → Nat) : ∀ n, dot (one k) v n = if k < n then v k else 0
  | 0 => rfl
  | n + 1 => by
    unfold dot
    rw [dot_one k v n]
    by_cases h : k = n
    · subst h
      simp [one]
    · by_cases hk : k < n
      · simp [one, hk, show n ≠ k by omega, show k < n + 1 by omega]
      · simp [one, hk, show n ≠ k by omega, show ¬k < n + 1 by omega]
/-- as many paths are counted from the end as from the beginning -/
theorem paths_eq {l : List Ends} {n e : Nat} (h : ∀ a ∈ l, a.1 < n ∧ a.2 < n) (h0 : 0 < n) (he : e < n) : fwd l (one 0) e = bwd l (one e) 0 := by
  have h1 := dot_fwd n l (one e) (one 0) h
  rw [dot_one, if_pos he, dot_comm, dot_one, if_pos h0] at h1
  exact h1
/-- with a lid -/
def fwdC (c : Nat) : List Ends → (Nat → Nat) → Nat → Nat
  | [], v => v
  | a :: r, v => fwdC c r (upd v a.2 (min c (v a.2 + v a.1)))
def bwdC (c : Nat) : List Ends → (Nat → Nat) → Nat → Nat
  | [], u => u
  | a :: r, u => upd (bwdC c r u) a.1 (min c (bwdC c r u a.1 + bwdC c r u a.2))
theorem fwdC_eq (c : Nat) : ∀ (l : List Ends) (v w : Nat → Nat), (∀ i, v i = min c (w i)) → ∀ i, fwdC c l v i = min c (fwd l w i)
  | [], v, w, h, i => h i
  | a :: r, v, w, h, i => by
    unfold fwdC fwd
    refine fwdC_eq c r _ _ (fun j => ?_) i
    unfold upd
    split
    · rw [h, h]; omega
    · exact h j
theorem bwdC_eq (c : Nat) : ∀ (l : List Ends) (v w : Nat → Nat), (∀ i, v i = min c (w i)) → ∀ i, bwdC c l v i = min c (bwd l w i)
  | [], v, w, h, i => h i
  | a :: r, v, w, h, i => by
    have ih := bwdC_eq c r v w h
    unfold bwdC bwd upd
    split
    · rw [ih, ih]; omega
    · exact ih i
theorem pathsC_eq {l : List Ends} {n e c : Nat} (hc : 1 ≤ c) (h : ∀ a ∈ l, a.1 < n ∧ a.2 < n) (h0 : 0 < n) (he : e < n) : fwdC c l (one 0) e = bwdC c l (one e) 0 := by
  have ho : ∀ k i, one k i = min c (one k i) := fun k i => by unfold one; split <;> omega
  rw [fwdC_eq c l _ _ (ho 0), bwdC_eq c l _ _ (ho e), paths_eq h h0 he]
abbrev Arc := (Int × Int) × List Int
/-- the inner nodes on the path of a source, up to the end (the program) -/
def walkP (e s : Int) : Int → List Arc → List Int
  | _, [] => []
  | p, a :: r => if a.1.1 = p ∧ s ∈ a.2 then (if a.1.2 = e then [] else a.1.2 :: walkP e s a.1.2 r) else walkP e s p r
/-- all nodes that are come to (the reference), and where it stands at last -/
def walkA (s : Int) : Int → List Arc → List Int
  | _, [] => []
  | p, a :: r => if a.1.1 = p ∧ s ∈ a.2 then a.1.2 :: walkA s a.1.2 r else walkA s p r
theorem walkA_end {e s : Int} : ∀ {l : List Arc} {p : Int}, (∀ a ∈ l, a.1.1 < a.1.2 ∧ a.1.2 ≤ e) → e ≤ p → walkA s p l = []
  | [], _, _, _ => rfl
  | a :: r, p, h, hp => by
    have h1 := h a (List.mem_cons_self ..)
    unfold walkA
    rw [if_neg (fun h2 => by omega)]
    exact walkA_end (fun b hb => h b (List.mem_cons_of_mem _ hb)) hp
theorem walk_eq {e s : Int} : ∀ {l : List Arc} {p : Int}, (∀ a ∈ l, a.1.1 < a.1.2 ∧ a.1.2 ≤ e) → walkP e s p l = (walkA s p l).filter fun k => decide (k < e)
  | [], _, _ => rfl
  | a :: r, p, h => by
    have h1 := h a (List.mem_cons_self ..)
    have hr := fun b hb => h b (List.mem_cons_of_mem _ hb)
    unfold walkP walkA
    by_cases hc : a.1.1 = p ∧ s ∈ a.2
    · rw [if_pos hc, if_pos hc]
      by_cases he : a.1.2 = e
      · rw [if_pos he, walkA_end hr (by omega), List.filter_cons_of_neg (by simp; omega)]
        rfl
      · rw [if_neg he, List.filter_cons_of_pos (by simp; omega), walk_eq hr]
    · rw [if_neg hc, if_neg hc]
      exact walk_eq hr
end Go.Ap.Vg

namespace Go.Ap.Vg
abbrev En := Int × Int
/-- two nodes that follow each other -/
def consec : List Int → List En
  | a :: b :: r => (a, b) :: consec (b :: r)
  | _ => []
/-- by the ends of the arcs of one source alone -/
def walkE : Int → List En → List Int
  | _, [] => []
  | p, a :: r => if a.1 = p then a.2 :: walkE a.2 r else walkE p r
def endsOf (s : Int) (l : List Arc) : List En := (l.filter fun a => decide (s ∈ a.2)).map (·.1)
theorem endsOf_cons (s : Int) (a : Arc) (l : List Arc) : endsOf s (a :: l) = if s ∈ a.2 then a.1 :: endsOf s l else endsOf s l := by
  unfold endsOf
  by_cases h : s ∈ a.2
  · rw [List.filter_cons_of_pos (by simpa using h), if_pos h, List.map_cons]
  · rw [List.filter_cons_of_neg (by simpa using h), if_neg h]
theorem endsOf_mem {s : Int} {l : List Arc} {x : En} : x ∈ endsOf s l ↔ ∃ a ∈ l, a.1 = x ∧ s ∈ a.2 := by
  unfold endsOf
  simp only [List.mem_map, List.mem_filter, decide_eq_true_eq]
  exact ⟨fun ⟨a, ⟨h1, h2⟩, h3⟩ => ⟨a, h1, h3, h2⟩, fun ⟨a, h1, h3, h2⟩ => ⟨a, ⟨h1, h2⟩, h3⟩⟩
theorem walkA_ends (s : Int) : ∀ (l : List Arc) (p : Int), walkA s p l = walkE p (endsOf s l)
  | [], _ => rfl
  | a :: r, p => by
    rw [endsOf_cons]
    unfold walkA
    by_cases h : s ∈ a.2
    · rw [if_pos h]
      unfold walkE
      by_cases hp : a.1.1 = p
      · rw [if_pos ⟨hp, h⟩, if_pos hp, walkA_ends s r]
      · rw [if_neg (fun h2 => hp h2.1), if_neg hp, walkA_ends s r]
    · rw [if_neg h, if_neg (fun h2 => h h2.2), walkA_ends s r]
theorem walkE_consec : ∀ (r : List Int) (p : Int), walkE p (consec (p :: r)) = r
  | [], _ => rfl
  | b :: r, p => by
    unfold consec walkE
    rw [if_pos rfl, walkE_consec r b]
/-- the order of arcs -/
def ltE (x y : En) : Prop := x.1 < y.1 ∨ x.1 = y.1 ∧ x.2 < y.2
theorem ltE.irr {x : En} : ¬ltE x x := fun h => by unfold ltE at h; omega
theorem ltE.asym {x y : En} (h : ltE x y) : ¬ltE y x := fun h2 => by unfold ltE at h h2; omega
/-- ascending lists with the same members are one -/
theorem asc_same : ∀ {l m : List En}, l.Pairwise ltE → m.Pairwise ltE → (∀ x, x ∈ l ↔ x ∈ m) → l = m
  | [], m, _, _, h => (List.eq_nil_iff_forall_not_mem.2 fun x hx => by cases (h x).2 hx).symm
  | x :: l, [], _, _, h => by cases (h x).1 (List.mem_cons_self ..)
  | x :: l, y :: m, h1, h2, h => by
    rw [List.pairwise_cons] at h1 h2
    have hxy : x = y := by
      rcases List.mem_cons.1 ((h x).1 (List.mem_cons_self ..)) with e | e
      · exact e
      · rcases List.mem_cons.1 ((h y).2 (List.mem_cons_self ..)) with e2 | e2
        · exact e2.symm
        · exact absurd (h1.1 y e2) (ltE.asym (h2.1 x e))
    subst hxy
    rw [asc_same h1.2 h2.2 fun z => ⟨fun hz => ?_, fun hz => ?_⟩]
    · rcases List.mem_cons.1 ((h z).1 (List.mem_cons_of_mem _ hz)) with e | e
      · subst e
        exact absurd (h1.1 z hz) ltE.irr
      · exact e
    · rcases List.mem_cons.1 ((h z).2 (List.mem_cons_of_mem _ hz)) with e | e
      · subst e
        exact absurd (h2.1 z hz) ltE.irr
      · exact e
theorem consec_mem_fst : ∀ {l : List Int} {x : En}, x ∈ consec l → x.1 ∈ l ∧ x.2 ∈ l
  | [], x, h => by simp [consec] at h
  | [a], x, h => by simp [consec] at h
  | a :: b :: r, x, h => by
    unfold consec at h
    rcases List.mem_cons.1 h with rfl | h
    · simp
    · have := consec_mem_fst h
      exact ⟨List.mem_cons_of_mem _ this.1, List.mem_cons_of_mem _ this.2⟩
theorem consec_lt : ∀ {l : List Int} {x : En}, l.Pairwise (· < ·) → x ∈ consec l → x.1 < x.2
  | [], x, _, h => by simp [consec] at h
  | [a], x, _, h => by simp [consec] at h
  | a :: b :: r, x, hl, h => by
    unfold consec at h
    rw [List.pairwise_cons] at hl
    rcases List.mem_cons.1 h with rfl | h
    · exact hl.1 b (List.mem_cons_self ..)
    · exact consec_lt hl.2 h
theorem consec_asc : ∀ {l : List Int}, l.Pairwise (· < ·) → (consec l).Pairwise ltE
  | [], _ => by simp [consec]
  | [a], _ => by simp [consec]
  | a :: b :: r, hl => by
    rw [List.pairwise_cons] at hl
    unfold consec
    rw [List.pairwise_cons]
    refine ⟨fun x hx => .inl ?_, consec_asc hl.2⟩
    exact hl.1 x.1 (consec_mem_fst hx).1
/-- how many leave, how many enter -/
def outE (l : List En) (k : Int) : Nat := l.countP fun a => decide (a.1 = k)
def inE (l : List En) (k : Int) : Nat := l.countP fun a => decide (a.2 = k)
/-- what a valid graph says of the arcs of one source, from a node p on -/
structure Runs (e p : Int) (l : List En) : Prop where
  asc : l.Pairwise ltE
  rng : ∀ a ∈ l, p ≤ a.1 ∧ a.1 < a.2 ∧ a.2 ≤ e
  le : p ≤ e
  here : p < e → outE l p = 1
  flow : ∀ k, p < k → k < e → outE l k = inE l k ∧ inE l k ≤ 1
theorem outE_pos {l : List En} {k : Int} : 0 < outE l k ↔ ∃ a ∈ l, a.1 = k := by unfold outE; rw [List.countP_pos_iff]; simp
theorem inE_pos {l : List En} {k : Int} : 0 < inE l k ↔ ∃ a ∈ l, a.2 = k := by unfold inE; rw [List.countP_pos_iff]; simp
theorem outE_cons (a : En) (l : List En) (k : Int) : outE (a :: l) k = outE l k + if a.1 = k then 1 else 0 := by
  unfold outE
  rw [List.countP_cons]
  simp
theorem inE_cons (a : En) (l : List En) (k : Int) : inE (a :: l) k = inE l k + if a.2 = k then 1 else 0 := by
  unfold inE
  rw [List.countP_cons]
  simp
/-- the arcs of a source are the steps of a path to the end -/
theorem Runs.path {e : Int} : ∀ {l : List En} {p : Int}, Runs e p l → ∃ r : List Int, l = consec (p :: r) ∧ (p :: r).Pairwise (· < ·) ∧ (p :: r).getLast? = some e
  | [], p, H => by
    have : p = e := by
      rcases Int.lt_or_le p e with h | h
      · have := H.here h
        simp [outE] at this
      · have := H.le
        omega
    subst this
    exact ⟨[], rfl, by simp, rfl⟩
  | a :: l, p, H => by
    have ha := H.rng a (List.mem_cons_self ..)
    have hpe : p < e := by omega
    have hasc := List.pairwise_cons.1 H.asc
    have h1 := H.here hpe
    -- the first arc leaves p
    have hap : a.1 = p := by
      obtain ⟨b, hb, hbp⟩ := outE_pos.1 (show 0 < outE (a :: l) p by omega)
      rcases List.mem_cons.1 hb with rfl | hb
      · exact hbp
      · have := hasc.1 b hb
        unfold ltE at this
        omega
    rw [outE_cons, if_pos hap] at h1
    have hno : ∀ b ∈ l, b.1 ≠ p := fun b hb e1 => by
      have := outE_pos.2 ⟨b, hb, e1⟩
      omega
    have hgt : ∀ b ∈ l, p < b.1 := fun b hb => by
      have := (H.rng b (List.mem_cons_of_mem _ hb)).1
      have := hno b hb
      omega
    -- no arc leaves a node between
    have hbet : ∀ (n : Nat) (k : Int), (k - p).toNat = n → p < k → k < a.2 → ∀ b ∈ l, b.1 ≠ k := by
      intro n
      induction n using Nat.strongRecOn with
      | _ n ih =>
        intro k hn hk hk2 b hb hbk
        have h2 := (H.flow k hk (by omega)).1
        have h3 : 0 < outE (a :: l) k := outE_pos.2 ⟨b, List.mem_cons_of_mem _ hb, hbk⟩
        rw [h2] at h3
        obtain ⟨d, hd, hdk⟩ := inE_pos.1 h3
        rcases List.mem_cons.1 hd with rfl | hd
        · omega
        · have h4 := hgt d hd
          have h5 := (H.rng d (List.mem_cons_of_mem _ hd)).2.1
          exact ih (d.1 - p).toNat (by omega) d.1 rfl h4 (by omega) d hd rfl
    have H' : Runs e a.2 l := by
      refine ⟨hasc.2, fun b hb => ?_, ha.2.2, fun he => ?_, fun k hk hke => ?_⟩
      · have h2 := H.rng b (List.mem_cons_of_mem _ hb)
        refine ⟨?_, h2.2⟩
        rcases Int.lt_or_le b.1 a.2 with h3 | h3
        · exact absurd rfl (hbet _ b.1 rfl (hgt b hb) h3 b hb)
        · exact h3
      · have h2 := H.flow a.2 (by omega) he
        rw [outE_cons, inE_cons, if_neg (by omega), if_pos rfl] at h2
        omega
      · have h2 := H.flow k (by omega) hke
        rw [outE_cons, inE_cons, if_neg (by omega), if_neg (by omega)] at h2
        simpa using h2
    obtain ⟨r, hr, hr2, hr3⟩ := H'.path
    refine ⟨a.2 :: r, ?_, ?_, ?_⟩
    · unfold consec
      rw [← hr, ← hap]
    · rw [List.pairwise_cons]
      refine ⟨fun x hx => ?_, hr2⟩
      rcases List.mem_cons.1 hx with rfl | hx
      · omega
      · have := (List.pairwise_cons.1 hr2).1 x hx
        omega
    · rw [List.getLast?_cons_cons]
      exact hr3
theorem consec_out : ∀ {l : List Int}, l.Pairwise (· < ·) → ∀ k, outE (consec l) k = if k ∈ l ∧ l.getLast? ≠ some k then 1 else 0
  | [], _, k => by simp [consec, outE]
  | [a], _, k => by
    by_cases h : k = a
    · subst h; simp [consec, outE]
    · simp [consec, outE, h]
  | a :: b :: r, hl, k => by
    rw [List.pairwise_cons] at hl
    unfold consec
    rw [outE_cons, consec_out hl.2 k, List.getLast?_cons_cons]
    by_cases h : a = k
    · subst h
      have hn : a ∉ b :: r := fun h2 => by have := hl.1 a h2; omega
      have hlast : (b :: r).getLast? ≠ some a := fun h2 => hn (List.mem_of_getLast? h2)
      simp [hn, hlast]
    · have : (k ∈ a :: b :: r) ↔ k ∈ b :: r := by rw [List.mem_cons]; exact ⟨fun h2 => h2.resolve_left (fun e => h e.symm), .inr⟩
      simp only [this, if_neg h, Nat.add_zero]
theorem consec_in : ∀ {l : List Int}, l.Pairwise (· < ·) → ∀ k, inE (consec l) k = if k ∈ l.tail then 1 else 0
  | [], _, k => by simp [consec, inE]
  | [a], _, k => by simp [consec, inE]
  | a :: b :: r, hl, k => by
    rw [List.pairwise_cons] at hl
    unfold consec
    rw [inE_cons, consec_in hl.2 k, List.tail_cons, List.tail_cons]
    by_cases h : b = k
    · subst h
      have hn : b ∉ r := fun h2 => by have := (List.pairwise_cons.1 hl.2).1 b h2; omega
      simp [hn]
    · simp [h, show ¬ k = b from fun e => h e.symm]
end Go.Ap.Vg

namespace Go.Ap.Vg
/-- the arcs are the steps of these paths -/
structure OfPaths (e : Int) (ps : List (List Int)) (al : List Arc) : Prop where
  path : ∀ l ∈ ps, l.Pairwise (· < ·) ∧ l.head? = some 0 ∧ l.getLast? = some e
  asc : al.Pairwise fun a b => ltE a.1 b.1
  src : ∀ a ∈ al, a.2.Pairwise (· < ·) ∧ a.2 ≠ []
  all : ∀ (x : En) (s : Int), (∃ a ∈ al, a.1 = x ∧ s ∈ a.2) ↔ ∃ (i : Nat) (l : List Int), s = i ∧ ps[i]? = some l ∧ x ∈ consec l
theorem endsOf_asc {al : List Arc} (h : al.Pairwise fun a b => ltE a.1 b.1) (s : Int) : (endsOf s al).Pairwise ltE := by
  unfold endsOf
  rw [List.pairwise_map]
  exact h.filter _
section
variable {e : Int} {ps : List (List Int)} {al : List Arc}
theorem OfPaths.ends (H : OfPaths e ps al) {i : Nat} {l : List Int} (hi : ps[i]? = some l) : endsOf (i : Int) al = consec l := by
  refine asc_same (endsOf_asc H.asc _) (consec_asc (H.path l (List.mem_of_getElem? hi)).1) fun x => ?_
  rw [endsOf_mem, H.all]
  constructor
  · rintro ⟨j, m, hj, hm, hx⟩
    have : j = i := by omega
    subst this
    rw [hi] at hm
    cases hm
    exact hx
  · intro hx
    exact ⟨i, l, rfl, hi, hx⟩
theorem OfPaths.noends (H : OfPaths e ps al) {s : Int} (hs : ∀ i : Nat, s = i → ps.length ≤ i) : endsOf s al = [] := by
  rw [List.eq_nil_iff_forall_not_mem]
  intro x hx
  rw [endsOf_mem, H.all] at hx
  obtain ⟨i, l, hi, hl, _⟩ := hx
  have := hs i hi
  have := (List.getElem?_eq_some_iff.1 hl).1
  omega
theorem path_cons {l : List Int} (h : l.head? = some 0) : l = 0 :: l.tail := by
  cases l with
  | nil => cases h
  | cons a r => cases h; rfl
/-- the walk of a source is its path -/
theorem OfPaths.walk (H : OfPaths e ps al) {i : Nat} {l : List Int} (hi : ps[i]? = some l) : walkA (i : Int) 0 al = l.tail := by
  rw [walkA_ends, H.ends hi]
  have h := path_cons (H.path l (List.mem_of_getElem? hi)).2.1
  rw [h]
  exact walkE_consec _ _
theorem OfPaths.rng (H : OfPaths e ps al) : ∀ a ∈ al, 0 ≤ a.1.1 ∧ a.1.1 < a.1.2 ∧ a.1.2 ≤ e := fun a ha => by
  obtain ⟨s, hs⟩ := List.exists_mem_of_ne_nil _ (H.src a ha).2
  obtain ⟨i, l, _, hl, hx⟩ := (H.all a.1 s).1 ⟨a, ha, rfl, hs⟩
  obtain ⟨h1, h2, h3⟩ := H.path l (List.mem_of_getElem? hl)
  have hlt := consec_lt h1 hx
  have hm := consec_mem_fst hx
  have h0 : ∀ x ∈ l, 0 ≤ x := fun x hx => by
    rw [path_cons h2] at hx h1
    rw [List.pairwise_cons] at h1
    rcases List.mem_cons.1 hx with rfl | hx
    · omega
    · have := h1.1 x hx
      omega
  have he : ∀ x ∈ l, x ≤ e := fun x hx => by
    obtain ⟨m, rfl⟩ : ∃ m, l = m ++ [e] := by
      obtain ⟨m, hm⟩ := List.getLast?_eq_some_iff.1 h3
      exact ⟨m, hm⟩
    rw [List.pairwise_append] at h1
    rcases List.mem_append.1 hx with hx | hx
    · have := h1.2.2 x hx e (List.mem_singleton.2 rfl)
      omega
    · rw [List.mem_singleton] at hx
      omega
  exact ⟨h0 _ hm.1, hlt, he _ hm.2⟩
/-- what the check counts -/
theorem OfPaths.flow (H : OfPaths e ps al) (he : 0 < e) (s : Int) : (endsOf s al ≠ [] → outE (endsOf s al) 0 = 1) ∧ ∀ k, 0 < k → k < e → inE (endsOf s al) k ≤ 1 ∧ inE (endsOf s al) k = outE (endsOf s al) k := by
  by_cases hs : ∃ i : Nat, s = i ∧ i < ps.length
  · obtain ⟨i, rfl, hi⟩ := hs
    obtain ⟨l, hl⟩ : ∃ l, ps[i]? = some l := ⟨_, List.getElem?_eq_getElem hi⟩
    obtain ⟨h1, h2, h3⟩ := H.path l (List.mem_of_getElem? hl)
    rw [H.ends hl]
    have hc := path_cons h2
    refine ⟨fun _ => ?_, fun k hk hke => ?_⟩
    · rw [consec_out h1, if_pos]
      refine ⟨by rw [hc]; exact List.mem_cons_self .., fun h4 => ?_⟩
      rw [h3] at h4
      cases h4
      omega
    · rw [consec_out h1, consec_in h1]
      have hkt : k ∈ l.tail ↔ k ∈ l := by
        conv => rhs; rw [hc]
        rw [List.mem_cons]
        exact ⟨.inr, fun h => h.resolve_left (by omega)⟩
      have hne : l.getLast? ≠ some k := fun h4 => by
        rw [h3] at h4
        cases h4
        omega
      by_cases hkl : k ∈ l
      · simp [hkt, hkl, hne]
      · simp [hkt, hkl]
  · have hn := H.noends (s := s) fun i hi => by
      rcases Nat.lt_or_ge i ps.length with h | h
      · exact absurd ⟨i, hi, h⟩ hs
      · exact h
    rw [hn]
    exact ⟨fun h => absurd rfl h, fun k _ _ => by simp [inE, outE]⟩
end
/-- a chain of arcs from p to e -/
def Chain (e : Int) : Int → List En → Prop
  | p, [] => p = e
  | p, a :: r => a.1 = p ∧ Chain e a.2 r
/-- how many chains there are among the arcs, in their order -/
def cnt (e : Int) : List En → Int → Nat
  | [], p => if p = e then 1 else 0
  | a :: r, p => cnt e r p + if a.1 = p then cnt e r a.2 else 0
theorem sub_of_head {a : En} {l q : List En} (h : List.Sublist q (a :: l)) (hq : q.head? ≠ some a) : List.Sublist q l := by
  cases h with
  | cons _ h => exact h
  | cons_cons _ h => exact absurd rfl hq
theorem sub_tail {a : En} {l q : List En} (h : List.Sublist (a :: q) (a :: l)) : List.Sublist q l := by
  cases h with
  | cons _ h => exact (List.sublist_cons_self a q).trans h
  | cons_cons _ h => exact h
theorem filter_split {α : Type} (f : α → Bool) : ∀ l : List α, l.length = (l.filter f).length + (l.filter fun x => !f x).length
  | [] => rfl
  | x :: l => by
    have ih := filter_split f l
    cases h : f x <;> simp [h] <;> omega
/-- not more chains than are counted -/
theorem chains_le (e : Int) : ∀ (l : List En) (p : Int) (Q : List (List En)), Q.Nodup → (∀ q ∈ Q, List.Sublist q l ∧ Chain e p q) → Q.length ≤ cnt e l p
  | [], p, Q, hn, hq => by
    have h0 : ∀ q ∈ Q, q = [] := fun q hqq => List.sublist_nil.1 (hq q hqq).1
    unfold cnt
    match Q, hn, hq, h0 with
    | [], _, _, _ => exact Nat.zero_le _
    | [q], _, hq, h0 =>
      have h1 := h0 q (List.mem_cons_self ..)
      subst h1
      have := (hq [] (List.mem_cons_self ..)).2
      unfold Chain at this
      rw [if_pos this]
      exact Nat.le_refl _
    | q :: q' :: r, hn, _, h0 =>
      have h1 := h0 q (List.mem_cons_self ..)
      have h2 := h0 q' (List.mem_cons_of_mem _ (List.mem_cons_self ..))
      rw [List.nodup_cons] at hn
      exact absurd (by rw [h1, h2]; exact List.mem_cons_self ..) hn.1
  | a :: l, p, Q, hn, hq => by
    unfold cnt
    have hsplit : Q.length = (Q.filter fun q => decide (q.head? ≠ some a)).length + (Q.filter fun q => !decide (q.head? ≠ some a)).length := filter_split _ Q
    have h1 := chains_le e l p (Q.filter fun q => decide (q.head? ≠ some a)) (hn.filter _) fun q hqq => by
      rw [List.mem_filter] at hqq
      have h2 := hq q hqq.1
      exact ⟨sub_of_head h2.1 (by simpa using hqq.2), h2.2⟩
    have hhead : ∀ q ∈ Q.filter fun q => !decide (q.head? ≠ some a), ∃ r, q = a :: r ∧ q ∈ Q := fun q hqq => by
      rw [List.mem_filter] at hqq
      have h2 : q.head? = some a := by simpa using hqq.2
      cases q with
      | nil => cases h2
      | cons b r => cases h2; exact ⟨r, rfl, hqq.1⟩
    by_cases hap : a.1 = p
    · have h3 := chains_le e l a.2 ((Q.filter fun q => !decide (q.head? ≠ some a)).map List.tail) (by
        refine List.pairwise_map.2 ((hn.filter _).imp_of_mem fun {x y} hx hy hxy => ?_)
        obtain ⟨r, rfl, _⟩ := hhead x hx
        obtain ⟨r', rfl, _⟩ := hhead y hy
        simp only [List.tail_cons]
        exact fun e1 => hxy (by rw [e1])) fun q hqq => by
        obtain ⟨q', hq', rfl⟩ := List.mem_map.1 hqq
        obtain ⟨r, rfl, hr⟩ := hhead q' hq'
        have h4 := hq _ hr
        exact ⟨sub_tail h4.1, h4.2.2⟩
      rw [List.length_map] at h3
      rw [if_pos hap]
      omega
    · have h3 : (Q.filter fun q => !decide (q.head? ≠ some a)) = [] := by
        rw [List.eq_nil_iff_forall_not_mem]
        intro q hqq
        obtain ⟨r, rfl, hr⟩ := hhead q hqq
        exact hap (hq _ hr).2.1
      rw [h3, List.length_nil, Nat.add_zero] at hsplit
      rw [if_neg hap, hsplit]
      exact h1
/-- .. and there are as many -/
def chainsL (e : Int) : List En → Int → List (List En)
  | [], p => if p = e then [[]] else []
  | a :: r, p => chainsL e r p ++ if a.1 = p then (chainsL e r a.2).map (a :: ·) else []
theorem chainsL_len (e : Int) : ∀ (l : List En) (p : Int), (chainsL e l p).length = cnt e l p
  | [], p => by unfold chainsL cnt; split <;> rfl
  | a :: r, p => by
    unfold chainsL cnt
    rw [List.length_append, chainsL_len e r p]
    split
    · rw [List.length_map, chainsL_len e r a.2]
    · rfl
theorem chainsL_mem (e : Int) : ∀ (l : List En) (p : Int), ∀ q ∈ chainsL e l p, List.Sublist q l ∧ Chain e p q
  | [], p, q, h => by
    unfold chainsL at h
    split at h
    · rename_i hp
      rw [List.mem_singleton] at h
      subst h
      exact ⟨List.Sublist.refl _, hp⟩
    · cases h
  | a :: r, p, q, h => by
    unfold chainsL at h
    rcases List.mem_append.1 h with h | h
    · have := chainsL_mem e r p q h
      exact ⟨this.1.cons _, this.2⟩
    · split at h
      · rename_i hp
        obtain ⟨q', hq, rfl⟩ := List.mem_map.1 h
        have := chainsL_mem e r a.2 q' hq
        exact ⟨this.1.cons_cons _, hp, this.2⟩
      · cases h
theorem chainsL_nodup (e : Int) : ∀ (l : List En) (p : Int), l.Nodup → (chainsL e l p).Nodup
  | [], p, _ => by unfold chainsL; split <;> simp
  | a :: r, p, hl => by
    rw [List.nodup_cons] at hl
    unfold chainsL
    rw [List.nodup_append]
    refine ⟨chainsL_nodup e r p hl.2, ?_, fun x hx y hy hxy => ?_⟩
    · split
      · refine List.pairwise_map.2 ((chainsL_nodup e r a.2 hl.2).imp fun {x y} hxy e1 => hxy ?_)
        injection e1
      · simp
    · split at hy
      · obtain ⟨q', hq, rfl⟩ := List.mem_map.1 hy
        subst hxy
        have := (chainsL_mem e r p _ hx).1
        exact hl.1 (this.subset (List.mem_cons_self ..))
      · cases hy
end Go.Ap.Vg

namespace Go.Ap.Vg
def toE (a : Ends) : En := ((a.1 : Int), (a.2 : Int))
theorem bwd_cnt (e : Nat) : ∀ (l : List Ends) (p : Nat), bwd l (one e) p = cnt e (l.map toE) p
  | [], p => by
    unfold bwd cnt one
    by_cases h : p = e
    · subst h; simp
    · simp [h, show ¬((p : Int) = (e : Int)) by omega]
  | a :: r, p => by
    unfold bwd
    rw [List.map_cons]
    unfold cnt upd
    by_cases h : p = a.1
    · subst h
      simp [toE, ← bwd_cnt e r]
    · simp [h, toE, show ¬((a.1 : Int) = (p : Int)) by omega, ← bwd_cnt e r]
theorem sub_of_asc : ∀ {l q : List En}, l.Pairwise ltE → q.Pairwise ltE → (∀ x ∈ q, x ∈ l) → List.Sublist q l
  | [], q, _, _, h => by
    have : q = [] := List.eq_nil_iff_forall_not_mem.2 fun x hx => absurd (h x hx) List.not_mem_nil
    subst this
    exact List.nil_sublist _
  | a :: l, [], _, _, _ => List.nil_sublist _
  | a :: l, b :: q, hl, hq, h => by
    rw [List.pairwise_cons] at hl hq
    by_cases hab : b = a
    · subst hab
      refine (sub_of_asc hl.2 hq.2 fun x hx => ?_).cons_cons _
      rcases List.mem_cons.1 (h x (List.mem_cons_of_mem _ hx)) with e | e
      · subst e
        exact absurd (hq.1 x hx) ltE.irr
      · exact e
    · refine (sub_of_asc hl.2 (List.pairwise_cons.2 hq) fun x hx => ?_).cons _
      have hb : b ∈ l := (List.mem_cons.1 (h b (List.mem_cons_self ..))).resolve_left hab
      rcases List.mem_cons.1 (h x hx) with e | e
      · subst e
        rcases List.mem_cons.1 hx with e2 | e2
        · exact absurd e2.symm hab
        · exact absurd (hq.1 x e2) (ltE.asym (hl.1 b hb))
      · exact e
theorem chain_asc {e : Int} : ∀ {q : List En} {p : Int}, (∀ a ∈ q, a.1 < a.2) → Chain e p q → q.Pairwise ltE ∧ ∀ a ∈ q, p ≤ a.1
  | [], _, _, _ => by simp
  | a :: q, p, h, hc => by
    obtain ⟨h1, h2⟩ := hc
    have hlt := h a (List.mem_cons_self ..)
    have ih := chain_asc (fun b hb => h b (List.mem_cons_of_mem _ hb)) h2
    refine ⟨List.pairwise_cons.2 ⟨fun b hb => .inl ?_, ih.1⟩, fun b hb => ?_⟩
    · have := ih.2 b hb; omega
    · rcases List.mem_cons.1 hb with rfl | hb
      · omega
      · have := ih.2 b hb; omega
/-- different chains of arcs that are there are no more than are counted -/
theorem chains_le' {e p : Int} {l : List En} (hl : l.Pairwise ltE) (hlt : ∀ a ∈ l, a.1 < a.2) (Q : List (List En)) (hn : Q.Nodup) (hq : ∀ q ∈ Q, (∀ x ∈ q, x ∈ l) ∧ Chain e p q) : Q.length ≤ cnt e l p :=
  chains_le e l p Q hn fun q h => ⟨sub_of_asc hl (chain_asc (fun a ha => hlt a ((hq q h).1 a ha)) (hq q h).2).1 (hq q h).1, (hq q h).2⟩
theorem ltE_nodup {l : List En} (h : l.Pairwise ltE) : l.Nodup := h.imp fun {a b} h e => by subst e; exact ltE.irr h
def mapE (f : Int → Int) (a : En) : En := (f a.1, f a.2)
theorem chain_map {e : Int} (f : Int → Int) : ∀ {q : List En} {p : Int}, Chain e p q → Chain (f e) (f p) (q.map (mapE f))
  | [], _, h => by unfold Chain at h; subst h; rfl
  | a :: q, p, h => by
    obtain ⟨h1, h2⟩ := h
    exact ⟨by rw [← h1]; rfl, chain_map f h2⟩
theorem map_inj_on {α β : Type} {f : α → β} : ∀ {q q' : List α}, (∀ x ∈ q, ∀ y ∈ q', f x = f y → x = y) → q.map f = q'.map f → q = q'
  | [], [], _, _ => rfl
  | [], _ :: _, _, h => by simp at h
  | _ :: _, [], _, h => by simp at h
  | x :: q, y :: q', hf, h => by
    rw [List.map_cons, List.map_cons] at h
    injection h with h1 h2
    rw [hf x (List.mem_cons_self ..) y (List.mem_cons_self ..) h1, map_inj_on (fun a ha b hb => hf a (List.mem_cons_of_mem _ ha) b (List.mem_cons_of_mem _ hb)) h2]
/-- other numbers of nodes: no fewer paths -/
theorem cnt_map {e e' : Int} {l l' : List En} (f : Int → Int) (hl : l.Pairwise ltE) (hl' : l'.Pairwise ltE) (hlt' : ∀ a ∈ l', a.1 < a.2) (h0 : f 0 = 0) (he : f e = e')
    (hm : ∀ x ∈ l, mapE f x ∈ l') (hi : ∀ x ∈ l, ∀ y ∈ l, mapE f x = mapE f y → x = y) : cnt e l 0 ≤ cnt e' l' 0 := by
  rw [← chainsL_len e l 0, ← List.length_map (f := fun q : List En => q.map (mapE f))]
  refine chains_le' hl' hlt' _ ?_ fun q hq => ?_
  · refine List.pairwise_map.2 ((chainsL_nodup e l 0 (ltE_nodup hl)).imp_of_mem fun {x y} hx hy hxy hxy2 => hxy ?_)
    have h1 := (chainsL_mem e l 0 x hx).1
    have h2 := (chainsL_mem e l 0 y hy).1
    exact map_inj_on (fun a ha b hb => hi a (h1.subset ha) b (h2.subset hb)) hxy2
  · obtain ⟨r, hr, rfl⟩ := List.mem_map.1 hq
    have h1 := chainsL_mem e l 0 r hr
    refine ⟨fun x hx => ?_, ?_⟩
    · obtain ⟨y, hy, rfl⟩ := List.mem_map.1 hx
      exact hm y (h1.1.subset hy)
    · have := chain_map f h1.2
      rwa [h0, he] at this
/-- a path of nodes as a chain of arcs -/
theorem consec_chain {e : Int} : ∀ {r : List Int} {p : Int}, (p :: r).getLast? = some e → Chain e p (consec (p :: r))
  | [], p, h => by cases h; rfl
  | b :: r, p, h => by
    unfold consec
    rw [List.getLast?_cons_cons] at h
    exact ⟨rfl, consec_chain h⟩
theorem consec_inj : ∀ {r r' : List Int} {p : Int}, consec (p :: r) = consec (p :: r') → r = r'
  | [], [], _, _ => rfl
  | [], b :: r, p, h => by simp [consec] at h
  | b :: r, [], p, h => by simp [consec] at h
  | b :: r, b' :: r', p, h => by
    unfold consec at h
    injection h with h1 h2
    injection h1 with _ h3
    subst h3
    rw [consec_inj h2]
/-- the different paths of the sources are no more than there are paths -/
theorem OfPaths.count {e : Int} {ps : List (List Int)} {al : List Arc} (H : OfPaths e ps al) (ds : List (List Int)) (hn : ds.Nodup) (hd : ∀ d ∈ ds, d ∈ ps) : ds.length ≤ cnt e (al.map (·.1)) 0 := by
  have hasc : (al.map (·.1)).Pairwise ltE := List.pairwise_map.2 H.asc
  rw [← List.length_map (f := consec)]
  refine chains_le' hasc (fun a ha => ?_) _ ?_ fun q hq => ?_
  · obtain ⟨b, hb, rfl⟩ := List.mem_map.1 ha
    exact (H.rng b hb).2.1
  · refine List.pairwise_map.2 (hn.imp_of_mem fun {x y} hx hy hxy hxy2 => hxy ?_)
    have h1 := path_cons (H.path x (hd x hx)).2.1
    have h2 := path_cons (H.path y (hd y hy)).2.1
    rw [h1, h2] at hxy2 ⊢
    rw [consec_inj hxy2]
  · obtain ⟨d, hdm, rfl⟩ := List.mem_map.1 hq
    obtain ⟨h1, h2, h3⟩ := H.path d (hd d hdm)
    refine ⟨fun x hx => ?_, ?_⟩
    · obtain ⟨i, hi⟩ := List.getElem?_of_mem (hd d hdm)
      obtain ⟨a, ha, hax, _⟩ := (H.all x i).2 ⟨i, d, rfl, hi, hx⟩
      exact List.mem_map.2 ⟨a, ha, hax⟩
    · rw [path_cons h2] at h3 ⊢
      exact consec_chain h3
theorem cnt_none {e : Int} : ∀ {l : List En} {p : Int}, p ≠ e → (∀ a ∈ l, a.1 ≠ p) → cnt e l p = 0
  | [], p, h, _ => by unfold cnt; rw [if_neg h]
  | a :: l, p, h, ha => by
    unfold cnt
    rw [if_neg (ha a (List.mem_cons_self ..)), cnt_none h fun b hb => ha b (List.mem_cons_of_mem _ hb)]
/-- one path alone -/
theorem cnt_consec {e : Int} : ∀ {r : List Int} {p : Int}, (p :: r).Pairwise (· < ·) → (p :: r).getLast? = some e → cnt e (consec (p :: r)) p = 1
  | [], p, _, h => by cases h; simp [consec, cnt]
  | b :: r, p, hp, h => by
    rw [List.getLast?_cons_cons] at h
    rw [List.pairwise_cons] at hp
    unfold consec cnt
    rw [if_pos rfl, cnt_consec hp.2 h, cnt_none]
    · intro hpe
      have := hp.1 e (List.mem_of_getLast? h)
      omega
    · intro a ha hap
      have := hp.1 a.1 (consec_mem_fst ha).1
      omega
theorem OfPaths.single {e : Int} {l : List Int} {al : List Arc} (H : OfPaths e [l] al) : cnt e (al.map (·.1)) 0 = 1 := by
  obtain ⟨h1, h2, h3⟩ := H.path l (List.mem_cons_self ..)
  have he : al.map (·.1) = consec l := by
    refine asc_same (List.pairwise_map.2 H.asc) (consec_asc h1) fun x => ?_
    constructor
    · intro hx
      obtain ⟨a, ha, rfl⟩ := List.mem_map.1 hx
      obtain ⟨s, hs⟩ := List.exists_mem_of_ne_nil _ (H.src a ha).2
      obtain ⟨i, m, _, hm, hc⟩ := (H.all a.1 s).1 ⟨a, ha, rfl, hs⟩
      match i, hm with
      | 0, hm => cases hm; exact hc
      | i + 1, hm => simp at hm
    · intro hx
      obtain ⟨a, ha, hax, _⟩ := (H.all x 0).2 ⟨0, l, rfl, rfl, hx⟩
      exact List.mem_map.2 ⟨a, ha, hax⟩
  rw [he]
  have hc := path_cons h2
  rw [hc] at h1 h3 ⊢
  exact cnt_consec h1 h3
end Go.Ap.Vg



namespace Go.Ap.Vg
section
variable {α : Type} [DecidableEq α]
/-- a text more, if it is new -/
def addN (r : List α) (x : Option α) : List α :=
  match x with
  | none => r
  | some t => if t ∈ r then r else r ++ [t]
/-- the nodes of a column: its different texts, in the order of the first sources that have them -/
def colN (c : List (Option α)) : List α := c.foldl addN []
theorem addN_pre (r : List α) (x : Option α) : r <+: addN r x := by
  unfold addN
  split
  · exact List.prefix_refl _
  · split
    · exact List.prefix_refl _
    · exact List.prefix_append _ _
theorem fold_pre : ∀ (c : List (Option α)) (r : List α), r <+: c.foldl addN r
  | [], _ => List.prefix_refl _
  | x :: c, r => (addN_pre r x).trans (fold_pre c (addN r x))
theorem colN_snoc (c : List (Option α)) (x : Option α) : colN (c ++ [x]) = addN (colN c) x := by
  unfold colN
  rw [List.foldl_append]
  rfl
theorem colN_pre (c d : List (Option α)) : colN c <+: colN (c ++ d) := by
  unfold colN
  rw [List.foldl_append]
  exact fold_pre d _
theorem addN_mem {r : List α} {x : Option α} {t : α} : t ∈ addN r x ↔ t ∈ r ∨ x = some t := by
  unfold addN
  split
  · simp
  · rename_i u
    split
    · rename_i h
      constructor
      · exact .inl
      · rintro (h1 | h1)
        · exact h1
        · cases h1; exact h
    · rw [List.mem_append, List.mem_singleton]
      constructor
      · rintro (h1 | rfl)
        · exact .inl h1
        · exact .inr rfl
      · rintro (h1 | h1)
        · exact .inl h1
        · cases h1; exact .inr rfl
theorem fold_mem {t : α} : ∀ (c : List (Option α)) (r : List α), t ∈ c.foldl addN r ↔ t ∈ r ∨ some t ∈ c
  | [], r => by simp
  | x :: c, r => by
    rw [List.foldl_cons, fold_mem c, addN_mem, List.mem_cons]
    constructor
    · rintro ((h | h) | h)
      · exact .inl h
      · exact .inr (.inl h.symm)
      · exact .inr (.inr h)
    · rintro (h | h | h)
      · exact .inl (.inl h)
      · exact .inl (.inr h.symm)
      · exact .inr h
theorem colN_mem {c : List (Option α)} {t : α} : t ∈ colN c ↔ some t ∈ c := by
  unfold colN
  rw [fold_mem]
  simp
theorem addN_nodup {r : List α} {x : Option α} (h : r.Nodup) : (addN r x).Nodup := by
  unfold addN
  split
  · exact h
  · split
    · exact h
    · rename_i hn
      rw [List.nodup_append]
      exact ⟨h, by simp, fun a ha b hb => by rw [List.mem_singleton] at hb; subst hb; exact fun e => hn (by rw [← e]; exact ha)⟩
theorem fold_nodup : ∀ (c : List (Option α)) (r : List α), r.Nodup → (c.foldl addN r).Nodup
  | [], _, h => h
  | _ :: c, _, h => fold_nodup c _ (addN_nodup h)
theorem colN_nodup (c : List (Option α)) : (colN c).Nodup := fold_nodup c [] List.nodup_nil
/-- the place of a text is the same when texts are added -/
theorem idx_pre {r r' : List α} (h : r <+: r') {t : α} (ht : t ∈ r) : r'.idxOf t = r.idxOf t := by
  obtain ⟨d, rfl⟩ := h
  rw [List.idxOf_append, if_pos ht]
/-- all inner nodes -/
def nodesL (cs : List (List (Option α))) : List α := cs.flatMap colN
/-- the inner nodes on the path of a source, where the first column's nodes begin at b -/
def pathF : Nat → List (List (Option α)) → Nat → List Int
  | _, [], _ => []
  | b, c :: r, s => (match c[s]? with | some (some t) => [((b + (colN c).idxOf t : Nat) : Int)] | _ => []) ++ pathF (b + (colN c).length) r s
theorem pathF_snoc : ∀ (cs : List (List (Option α))) (b s : Nat) (c : List (Option α)), pathF b (cs ++ [c]) s = pathF b cs s ++ (match c[s]? with | some (some t) => [((b + (nodesL cs).length + (colN c).idxOf t : Nat) : Int)] | _ => [])
  | [], b, s, c => by simp [pathF, nodesL]
  | d :: cs, b, s, c => by
    rw [List.cons_append]
    unfold pathF
    rw [pathF_snoc cs _ s c, List.append_assoc]
    have : (nodesL (d :: cs)).length = (colN d).length + (nodesL cs).length := by simp [nodesL]
    rw [this]
    simp only [Nat.add_assoc]
theorem pathF_rng : ∀ (cs : List (List (Option α))) (b s : Nat), ∀ k ∈ pathF b cs s, (b : Int) ≤ k ∧ k < ((b + (nodesL cs).length : Nat) : Int)
  | [], b, s, k, h => by simp [pathF] at h
  | c :: r, b, s, k, h => by
    have hl : (nodesL (c :: r)).length = (colN c).length + (nodesL r).length := by simp [nodesL]
    unfold pathF at h
    rcases List.mem_append.1 h with h | h
    · split at h
      · rename_i t ht
        rw [List.mem_singleton] at h
        have h1 : (colN c).idxOf t < (colN c).length := List.idxOf_lt_length_of_mem (colN_mem.2 (List.mem_of_getElem? ht))
        omega
      · cases h
    · have := pathF_rng r _ s k h
      omega
theorem pathF_asc : ∀ (cs : List (List (Option α))) (b s : Nat), (pathF b cs s).Pairwise (· < ·)
  | [], b, s => by simp [pathF]
  | c :: r, b, s => by
    unfold pathF
    rw [List.pairwise_append]
    refine ⟨?_, pathF_asc r _ s, fun x hx y hy => ?_⟩
    · split <;> simp
    · have h2 := pathF_rng r _ s y hy
      split at hx
      · rename_i t ht
        rw [List.mem_singleton] at hx
        have h1 : (colN c).idxOf t < (colN c).length := List.idxOf_lt_length_of_mem (colN_mem.2 (List.mem_of_getElem? ht))
        omega
      · cases hx
/-- each inner node lies on some path -/
theorem node_path : ∀ (cs : List (List (Option α))) (b : Nat) (k : Nat), k < (nodesL cs).length → ∃ s, ((b + k : Nat) : Int) ∈ pathF b cs s ∧ ∃ c ∈ cs, s < c.length
  | [], b, k, h => by simp [nodesL] at h
  | c :: r, b, k, h => by
    have hl : (nodesL (c :: r)) = colN c ++ nodesL r := by simp [nodesL]
    rw [hl, List.length_append] at h
    by_cases hk : k < (colN c).length
    · have hm : (colN c)[k] ∈ colN c := List.getElem_mem hk
      obtain ⟨s, hs⟩ := List.getElem?_of_mem (colN_mem.1 hm)
      refine ⟨s, ?_, c, List.mem_cons_self .., (List.getElem?_eq_some_iff.1 hs).1⟩
      unfold pathF
      rw [hs, List.mem_append]
      left
      simp only [List.mem_singleton]
      rw [(colN_nodup c).idxOf_getElem k hk]
    · obtain ⟨s, hs, d, hd, hsd⟩ := node_path r (b + (colN c).length) (k - (colN c).length) (by omega)
      refine ⟨s, ?_, d, List.mem_cons_of_mem _ hd, hsd⟩
      unfold pathF
      rw [List.mem_append]
      right
      rwa [show b + (colN c).length + (k - (colN c).length) = b + k by omega] at hs
/-- the whole path of a source -/
def fullP (cs : List (List (Option α))) (s : Nat) : List Int := 0 :: (pathF 1 cs s ++ [((1 + (nodesL cs).length : Nat) : Int)])
def endN (cs : List (List (Option α))) : Int := ((1 + (nodesL cs).length : Nat) : Int)
theorem fullP_ok (cs : List (List (Option α))) (s : Nat) : (fullP cs s).Pairwise (· < ·) ∧ (fullP cs s).head? = some 0 ∧ (fullP cs s).getLast? = some (endN cs) := by
  unfold fullP endN
  refine ⟨?_, rfl, ?_⟩
  · rw [List.pairwise_cons, List.pairwise_append]
    refine ⟨fun k hk => ?_, pathF_asc cs 1 s, by simp, fun x hx y hy => ?_⟩
    · rcases List.mem_append.1 hk with hk | hk
      · have := pathF_rng cs 1 s k hk
        omega
      · rw [List.mem_singleton] at hk
        omega
    · rw [List.mem_singleton] at hy
      have := pathF_rng cs 1 s x hx
      omega
  · rw [← List.cons_append, List.getLast?_append]
    simp
/-- the words of all nodes -/
def wordsL (z : α) (cs : List (List (Option α))) : List α := z :: (nodesL cs ++ [z])
theorem wordsL_at (z : α) (cs : List (List (Option α))) {i : Nat} (h : i < (nodesL cs).length) : (wordsL z cs)[1 + i]? = (nodesL cs)[i]? := by
  unfold wordsL
  rw [Nat.add_comm, List.getElem?_cons_succ, List.getElem?_append_left h]
end
end Go.Ap.Vg

namespace Go.Ap.Vg
theorem len_sub {α : Type} : ∀ {l m : List α}, l.Nodup → (∀ x ∈ l, x ∈ m) → l.length ≤ m.length
  | [], _, _, _ => by simp
  | x :: r, m, h, hm => by
    obtain ⟨a, b, rfl⟩ := List.append_of_mem (hm x (List.mem_cons_self ..))
    rw [List.nodup_cons] at h
    have := len_sub (l := r) (m := a ++ b) h.2 fun y hy => by
      have h1 := hm y (List.mem_cons_of_mem _ hy)
      rw [List.mem_append, List.mem_cons] at h1
      rw [List.mem_append]
      rcases h1 with h1 | rfl | h1
      · exact .inl h1
      · exact absurd hy h.1
      · exact .inr h1
    rw [List.length_append] at this
    rw [List.length_append, List.length_cons, List.length_cons]
    omega
theorem consec_map (f : Int → Int) : ∀ l : List Int, consec (l.map f) = (consec l).map (mapE f)
  | [] => rfl
  | [_] => rfl
  | a :: b :: r => by
    have ih := consec_map f (b :: r)
    rw [List.map_cons, List.map_cons] at *
    unfold consec
    rw [ih, List.map_cons]
    rfl
/-- other numbers of the nodes of the paths: no fewer arcs, no fewer paths -/
theorem OfPaths.other {e : Int} {ps ps' : List (List Int)} {al al' : List Arc} (H : OfPaths e ps al) (H' : OfPaths e ps' al') (f : Int → Int) (h0 : f 0 = 0) (he : f e = e)
    (hm : ∀ l ∈ ps, l.map f ∈ ps') (hi : ∀ x y : Int, 0 ≤ x → x ≤ e → 0 ≤ y → y ≤ e → f x = f y → x = y) :
    al.length ≤ al'.length ∧ cnt e (al.map (·.1)) 0 ≤ cnt e (al'.map (·.1)) 0 := by
  have hasc : (al.map (·.1)).Pairwise ltE := List.pairwise_map.2 H.asc
  have hasc' : (al'.map (·.1)).Pairwise ltE := List.pairwise_map.2 H'.asc
  have hmem : ∀ x ∈ al.map (·.1), mapE f x ∈ al'.map (·.1) := fun x hx => by
    obtain ⟨a, ha, rfl⟩ := List.mem_map.1 hx
    obtain ⟨s, hs⟩ := List.exists_mem_of_ne_nil _ (H.src a ha).2
    obtain ⟨i, l, _, hl, hc⟩ := (H.all a.1 s).1 ⟨a, ha, rfl, hs⟩
    obtain ⟨j, hj⟩ := List.getElem?_of_mem (hm l (List.mem_of_getElem? hl))
    obtain ⟨b, hb, hb1, _⟩ := (H'.all (mapE f a.1) j).2 ⟨j, _, rfl, hj, by rw [consec_map]; exact List.mem_map_of_mem hc⟩
    exact List.mem_map.2 ⟨b, hb, hb1⟩
  have hinj : ∀ x ∈ al.map (·.1), ∀ y ∈ al.map (·.1), mapE f x = mapE f y → x = y := fun x hx y hy h => by
    obtain ⟨a, ha, rfl⟩ := List.mem_map.1 hx
    obtain ⟨b, hb, rfl⟩ := List.mem_map.1 hy
    have h1 := H.rng a ha
    have h2 := H.rng b hb
    unfold mapE at h
    injection h with h3 h4
    have e1 := hi _ _ (by omega) (by omega) (by omega) (by omega) h3
    have e2 := hi _ _ (by omega) (by omega) (by omega) (by omega) h4
    exact Prod.ext e1 e2
  refine ⟨?_, cnt_map f hasc hasc' (fun a ha => ?_) h0 he hmem hinj⟩
  · have hnd : (al.map (·.1)).Pairwise (· ≠ ·) := ltE_nodup hasc
    have := len_sub (l := (al.map (·.1)).map (mapE f)) (m := al'.map (·.1)) (List.pairwise_map.2 (hnd.imp_of_mem fun {x y} hx hy hxy h => hxy (hinj x hx y hy h))) fun x hx => by
      obtain ⟨y, hy, rfl⟩ := List.mem_map.1 hx
      exact hmem y hy
    simpa using this
  · obtain ⟨b, hb, rfl⟩ := List.mem_map.1 ha
    exact (H'.rng b hb).2.1
section
variable {α : Type} [DecidableEq α]
/-- the columns of two collations have the same texts -/
def SameC : List (List (Option α)) → List (List (Option α)) → Prop
  | [], [] => True
  | c :: r, c' :: r' => (∀ t, some t ∈ c ↔ some t ∈ c') ∧ SameC r r'
  | _, _ => False
theorem colN_len {c c' : List (Option α)} (h : ∀ t, some t ∈ c ↔ some t ∈ c') : (colN c).length = (colN c').length := by
  have h1 := len_sub (colN_nodup c) (m := colN c') fun t ht => colN_mem.2 ((h t).1 (colN_mem.1 ht))
  have h2 := len_sub (colN_nodup c') (m := colN c) fun t ht => colN_mem.2 ((h t).2 (colN_mem.1 ht))
  omega
omit [DecidableEq α] in
theorem SameC.symm : ∀ {cs cs' : List (List (Option α))}, SameC cs cs' → SameC cs' cs
  | [], [], _ => trivial
  | _ :: _, _ :: _, h => ⟨fun t => (h.1 t).symm, h.2.symm⟩
  | [], _ :: _, h => h.elim
  | _ :: _, [], h => h.elim
theorem SameC.len : ∀ {cs cs' : List (List (Option α))}, SameC cs cs' → (nodesL cs).length = (nodesL cs').length
  | [], [], _ => rfl
  | c :: r, c' :: r', h => by
    have ih := h.2.len
    have hc := colN_len h.1
    simp only [nodesL, List.flatMap_cons, List.length_append] at ih ⊢
    omega
  | [], _ :: _, h => h.elim
  | _ :: _, [], h => h.elim
/-- the number that a node has in the other graph -/
def phi : Nat → List (List (Option α)) → List (List (Option α)) → Int → Int
  | b, c :: r, c' :: r', k => if k < b then k else if h : (k - b).toNat < (colN c).length then ((b + (colN c').idxOf (colN c)[(k - b).toNat] : Nat) : Int) else phi (b + (colN c).length) r r' k
  | _, _, _, k => k
theorem phi_low : ∀ {cs cs' : List (List (Option α))} {b : Nat} {k : Int}, k < b → phi b cs cs' k = k
  | [], [], _, _, _ => rfl
  | [], _ :: _, _, _, _ => rfl
  | _ :: _, [], _, _, _ => rfl
  | c :: r, c' :: r', b, k, h => by unfold phi; rw [if_pos h]
theorem phi_high : ∀ {cs cs' : List (List (Option α))} {b : Nat} {k : Int}, SameC cs cs' → ((b + (nodesL cs).length : Nat) : Int) ≤ k → phi b cs cs' k = k
  | [], [], _, _, _, _ => rfl
  | [], _ :: _, _, _, h, _ => h.elim
  | _ :: _, [], _, _, h, _ => h.elim
  | c :: r, c' :: r', b, k, h, hk => by
    have hl : (nodesL (c :: r)).length = (colN c).length + (nodesL r).length := by simp [nodesL]
    unfold phi
    rw [if_neg (by omega), dif_neg (by omega)]
    exact phi_high h.2 (by omega)
theorem phi_rng : ∀ {cs cs' : List (List (Option α))} {b : Nat} {k : Int}, SameC cs cs' → (b : Int) ≤ k → k < ((b + (nodesL cs).length : Nat) : Int) → (b : Int) ≤ phi b cs cs' k ∧ phi b cs cs' k < ((b + (nodesL cs).length : Nat) : Int)
  | [], [], b, k, _, h1, h2 => by simp [nodesL] at h2; omega
  | [], _ :: _, _, _, h, _, _ => h.elim
  | _ :: _, [], _, _, h, _, _ => h.elim
  | c :: r, c' :: r', b, k, h, h1, h2 => by
    have hl : (nodesL (c :: r)).length = (colN c).length + (nodesL r).length := by simp [nodesL]
    have hc := colN_len h.1
    unfold phi
    rw [if_neg (by omega)]
    split
    · rename_i hk
      have hm : (colN c)[(k - b).toNat] ∈ colN c' := colN_mem.2 ((h.1 _).1 (colN_mem.1 (List.getElem_mem hk)))
      have := List.idxOf_lt_length_of_mem hm
      omega
    · have := phi_rng (b := b + (colN c).length) (k := k) h.2 (by omega) (by omega)
      omega
theorem phi_inj : ∀ {cs cs' : List (List (Option α))} {b : Nat} {x y : Int}, SameC cs cs' → (b : Int) ≤ x → x < ((b + (nodesL cs).length : Nat) : Int) → (b : Int) ≤ y → y < ((b + (nodesL cs).length : Nat) : Int) → phi b cs cs' x = phi b cs cs' y → x = y
  | [], [], b, x, y, _, h1, h2, _, _, _ => by simp [nodesL] at h2; omega
  | [], _ :: _, _, _, _, h, _, _, _, _, _ => h.elim
  | _ :: _, [], _, _, _, h, _, _, _, _, _ => h.elim
  | c :: r, c' :: r', b, x, y, h, h1, h2, h3, h4, he => by
    have hl : (nodesL (c :: r)).length = (colN c).length + (nodesL r).length := by simp [nodesL]
    have hc := colN_len h.1
    unfold phi at he
    rw [if_neg (by omega), if_neg (by omega)] at he
    by_cases hx : (x - b).toNat < (colN c).length
    · have hmx : (colN c)[(x - b).toNat] ∈ colN c' := colN_mem.2 ((h.1 _).1 (colN_mem.1 (List.getElem_mem hx)))
      have h5 := List.idxOf_lt_length_of_mem hmx
      rw [dif_pos hx] at he
      by_cases hy : (y - b).toNat < (colN c).length
      · have hmy : (colN c)[(y - b).toNat] ∈ colN c' := colN_mem.2 ((h.1 _).1 (colN_mem.1 (List.getElem_mem hy)))
        rw [dif_pos hy] at he
        have e1 : (colN c').idxOf (colN c)[(x - b).toNat] = (colN c').idxOf (colN c)[(y - b).toNat] := by omega
        have e2 : (colN c)[(x - b).toNat] = (colN c)[(y - b).toNat] := by
          have a1 := List.getElem_idxOf (List.idxOf_lt_length_of_mem hmx)
          have a2 := List.getElem_idxOf (List.idxOf_lt_length_of_mem hmy)
          rw [← a1, ← a2]
          simp only [e1]
        have e3 := (List.getElem_inj (colN_nodup c)).1 e2
        omega
      · rw [dif_neg hy] at he
        have := phi_rng (b := b + (colN c).length) (k := y) h.2 (by omega) (by omega)
        omega
    · rw [dif_neg hx] at he
      by_cases hy : (y - b).toNat < (colN c).length
      · have hmy : (colN c)[(y - b).toNat] ∈ colN c' := colN_mem.2 ((h.1 _).1 (colN_mem.1 (List.getElem_mem hy)))
        have h5 := List.idxOf_lt_length_of_mem hmy
        rw [dif_pos hy] at he
        have := phi_rng (b := b + (colN c).length) (k := x) h.2 (by omega) (by omega)
        omega
      · rw [dif_neg hy] at he
        exact phi_inj h.2 (by omega) (by omega) (by omega) (by omega) he
/-- the columns where a source of one stands as another source of the other -/
def SameAt (s s' : Nat) : List (List (Option α)) → List (List (Option α)) → Prop
  | [], [] => True
  | c :: r, c' :: r' => c[s]? = c'[s']? ∧ SameAt s s' r r'
  | _, _ => False
theorem phi_path : ∀ {cs cs' : List (List (Option α))} {b s s' : Nat}, SameC cs cs' → SameAt s s' cs cs' → (pathF b cs s).map (phi b cs cs') = pathF b cs' s'
  | [], [], b, s, s', _, _ => rfl
  | [], _ :: _, _, _, _, h, _ => h.elim
  | _ :: _, [], _, _, _, h, _ => h.elim
  | c :: r, c' :: r', b, s, s', h, hs => by
    have hc := colN_len h.1
    unfold pathF
    rw [List.map_append, ← hs.1, ← hc]
    congr 1
    · cases hx : c[s]? with
      | none => rfl
      | some x =>
        cases x with
        | none => rfl
        | some t =>
          have ht := colN_mem.2 (List.mem_of_getElem? hx)
          have h1 := List.idxOf_lt_length_of_mem ht
          simp only [List.map_cons, List.map_nil, List.cons.injEq, and_true]
          unfold phi
          rw [if_neg (by omega), dif_pos (by omega)]
          have e : ((((b + (colN c).idxOf t : Nat) : Int)) - (b : Int)).toNat = (colN c).idxOf t := by omega
          simp only [e, List.getElem_idxOf]
    · rw [← phi_path (b := b + (colN c).length) h.2 hs.2]
      refine List.map_congr_left fun k hk => ?_
      have := pathF_rng r _ s k hk
      conv => lhs; unfold phi
      rw [if_neg (by omega), dif_neg (by omega)]
theorem phi_full {cs cs' : List (List (Option α))} {s s' : Nat} (h : SameC cs cs') (hs : SameAt s s' cs cs') : (fullP cs s).map (phi 1 cs cs') = fullP cs' s' := by
  unfold fullP
  rw [List.map_cons, List.map_append, phi_path h hs, phi_low (by omega), List.map_cons, List.map_nil, phi_high h (by omega), h.len]
/-- .. so the graphs have as many arcs and paths -/
theorem orders {cs cs' : List (List (Option α))} {al al' : List Arc} {n n' : Nat} (h : SameC cs cs') (H : OfPaths (endN cs) ((List.range n).map (fullP cs)) al) (H' : OfPaths (endN cs') ((List.range n').map (fullP cs')) al')
    (hs : ∀ s, s < n → ∃ s', s' < n' ∧ SameAt s s' cs cs') : al.length ≤ al'.length ∧ cnt (endN cs) (al.map (·.1)) 0 ≤ cnt (endN cs') (al'.map (·.1)) 0 := by
  have he : endN cs' = endN cs := by unfold endN; rw [h.len]
  rw [he] at H' ⊢
  refine H.other H' (phi 1 cs cs') (phi_low (by omega)) (phi_high h (by unfold endN; omega)) (fun l hl => ?_) fun x y hx hx2 hy hy2 hxy => ?_
  · obtain ⟨s, hs1, rfl⟩ := List.mem_map.1 hl
    obtain ⟨s', h1, h2⟩ := hs s (List.mem_range.1 hs1)
    rw [phi_full h h2]
    exact List.mem_map_of_mem (List.mem_range.2 h1)
  · unfold endN at hx2 hy2
    have key : ∀ k : Int, 0 ≤ k → k ≤ ((1 + (nodesL cs).length : Nat) : Int) → k < 1 ∨ k = ((1 + (nodesL cs).length : Nat) : Int) ∨ ((1 : Nat) : Int) ≤ k ∧ k < ((1 + (nodesL cs).length : Nat) : Int) := fun k _ _ => by omega
    rcases key x hx hx2 with k1 | k1 | k1 <;> rcases key y hy hy2 with k2 | k2 | k2
    · omega
    · rw [phi_low (by omega), phi_high h (by omega)] at hxy; omega
    · have := phi_rng h k2.1 k2.2; rw [phi_low (by omega)] at hxy; omega
    · rw [phi_high h (by omega), phi_low (by omega)] at hxy; omega
    · omega
    · have := phi_rng h k2.1 k2.2; rw [phi_high h (by omega)] at hxy; omega
    · have := phi_rng h k1.1 k1.2; rw [phi_low (k := y) (by omega)] at hxy; omega
    · have := phi_rng h k1.1 k1.2; rw [phi_high (k := y) h (by omega)] at hxy; omega
    · exact phi_inj h k1.1 k1.2 k2.1 k2.2 hxy
end
end Go.Ap.Vg

namespace Go.Ap.Vg
/-- what the check says of the arcs -/
structure ValidG (e : Int) (al : List Arc) : Prop where
  pos : 0 < e
  rng : ∀ a ∈ al, 0 ≤ a.1.1 ∧ a.1.1 < a.1.2 ∧ a.1.2 ≤ e
  asc : al.Pairwise fun a b => ltE a.1 b.1
  src : ∀ a ∈ al, a.2.Pairwise (· < ·) ∧ a.2 ≠ []
  used : ∀ k, 0 < k → k < e → ∃ a ∈ al, a.1.1 = k ∨ a.1.2 = k
  first : ∀ s, endsOf s al ≠ [] → outE (endsOf s al) 0 = 1
  flow : ∀ s k, 0 < k → k < e → inE (endsOf s al) k ≤ 1 ∧ inE (endsOf s al) k = outE (endsOf s al) k
/-- a graph of paths is valid -/
theorem OfPaths.valid {e : Int} {ps : List (List Int)} {al : List Arc} (H : OfPaths e ps al) (he : 0 < e) (hu : ∀ k, 0 < k → k < e → ∃ l ∈ ps, k ∈ l) : ValidG e al where
  pos := he
  rng := H.rng
  asc := H.asc
  src := H.src
  used := fun k h1 h2 => by
    obtain ⟨l, hl, hk⟩ := hu k h1 h2
    obtain ⟨i, hi⟩ := List.getElem?_of_mem hl
    obtain ⟨p1, p2, p3⟩ := H.path l hl
    have h3 : 0 < outE (consec l) k := by
      rw [consec_out p1, if_pos]
      · omega
      · refine ⟨hk, fun h4 => ?_⟩
        rw [p3] at h4
        cases h4
        omega
    obtain ⟨x, hx, hxk⟩ := outE_pos.1 h3
    obtain ⟨a, ha, hax, _⟩ := (H.all x i).2 ⟨i, l, rfl, hi, hx⟩
    exact ⟨a, ha, .inl (by rw [hax]; exact hxk)⟩
  first := fun s => (H.flow he s).1
  flow := fun s => (H.flow he s).2
section
variable {e : Int} {al : List Arc}
theorem ValidG.runs (V : ValidG e al) {s : Int} (h : endsOf s al ≠ []) : Runs e 0 (endsOf s al) where
  asc := endsOf_asc V.asc s
  rng := fun x hx => by
    obtain ⟨a, ha, rfl, _⟩ := endsOf_mem.1 hx
    exact V.rng a ha
  le := by have := V.pos; omega
  here := fun _ => V.first s h
  flow := fun k h1 h2 => by
    have := V.flow s k h1 h2
    exact ⟨this.2.symm, this.1⟩
/-- the path of a source that goes on some arc -/
theorem ValidG.path (V : ValidG e al) {s : Int} (h : endsOf s al ≠ []) : endsOf s al = consec (0 :: walkA s 0 al) ∧ (0 :: walkA s 0 al).Pairwise (· < ·) ∧ (0 :: walkA s 0 al).getLast? = some e := by
  obtain ⟨r, h1, h2, h3⟩ := (V.runs h).path
  have : walkA s 0 al = r := by rw [walkA_ends, h1, walkE_consec]
  rw [this]
  exact ⟨h1, h2, h3⟩
theorem goes_iff {s : Int} : endsOf s al ≠ [] ↔ ∃ a ∈ al, s ∈ a.2 := by
  constructor
  · intro h
    obtain ⟨x, hx⟩ := List.exists_mem_of_ne_nil _ h
    obtain ⟨a, ha, _, hs⟩ := endsOf_mem.1 hx
    exact ⟨a, ha, hs⟩
  · rintro ⟨a, ha, hs⟩ h
    have := endsOf_mem.2 ⟨a, ha, rfl, hs⟩
    rw [h] at this
    cases this
theorem walkA_nil {s : Int} (h : ¬ endsOf s al ≠ []) : walkA s 0 al = [] := by
  rw [walkA_ends, show endsOf s al = [] by simpa using h]
  rfl
/-- where the reference stands at last: at the beginning exactly if the source goes nowhere -/
theorem ValidG.last (V : ValidG e al) (s : Int) : walkA s 0 al = [] ↔ ¬ ∃ a ∈ al, s ∈ a.2 := by
  rw [← goes_iff]
  constructor
  · intro h h2
    have := (V.path h2).2.2
    rw [h] at this
    have := V.pos
    simp at *
    omega
  · exact walkA_nil
def inL (al : List Arc) (k : Int) : List Int := (al.filter fun a => decide (a.1.2 = k)).flatMap (·.2)
def outL (al : List Arc) (k : Int) : List Int := (al.filter fun a => decide (a.1.1 = k)).flatMap (·.2)
theorem asc_nodup {l : List Int} (h : l.Pairwise (· < ·)) : l.Nodup := h.imp fun {a b} h e => by omega
theorem count_asc {l : List Int} (h : l.Pairwise (· < ·)) (s : Int) : l.count s = if s ∈ l then 1 else 0 := by
  split
  · rename_i hs
    have h1 := List.nodup_iff_count.1 (asc_nodup h) s
    have h2 := List.count_pos_iff.2 hs
    omega
  · rename_i hs
    exact List.count_eq_zero.2 hs
theorem count_inL {k s : Int} : ∀ {al : List Arc}, (∀ a ∈ al, a.2.Pairwise (· < ·)) → (inL al k).count s = inE (endsOf s al) k
  | [], _ => rfl
  | a :: r, h => by
    have ih := count_inL (k := k) (s := s) fun b hb => h b (List.mem_cons_of_mem _ hb)
    have ha := count_asc (h a (List.mem_cons_self ..)) s
    rw [endsOf_cons]
    unfold inL at ih ⊢
    by_cases hk : a.1.2 = k
    · rw [List.filter_cons_of_pos (by simpa using hk), List.flatMap_cons, List.count_append, ih, ha]
      split
      · rw [inE_cons, if_pos hk]; omega
      · omega
    · rw [List.filter_cons_of_neg (by simpa using hk), ih]
      split
      · rw [inE_cons, if_neg hk]; omega
      · rfl
theorem count_outL {k s : Int} : ∀ {al : List Arc}, (∀ a ∈ al, a.2.Pairwise (· < ·)) → (outL al k).count s = outE (endsOf s al) k
  | [], _ => rfl
  | a :: r, h => by
    have ih := count_outL (k := k) (s := s) fun b hb => h b (List.mem_cons_of_mem _ hb)
    have ha := count_asc (h a (List.mem_cons_self ..)) s
    rw [endsOf_cons]
    unfold outL at ih ⊢
    by_cases hk : a.1.1 = k
    · rw [List.filter_cons_of_pos (by simpa using hk), List.flatMap_cons, List.count_append, ih, ha]
      split
      · rw [outE_cons, if_pos hk]; omega
      · omega
    · rw [List.filter_cons_of_neg (by simpa using hk), ih]
      split
      · rw [outE_cons, if_neg hk]; omega
      · rfl
/-- a list that names each source that goes, once, in order -/
structure AllS (al : List Arc) (l : List Int) : Prop where
  asc : l.Pairwise (· < ·)
  all : ∀ s, s ∈ l ↔ ∃ a ∈ al, s ∈ a.2
theorem ValidG.src' (V : ValidG e al) : ∀ a ∈ al, a.2.Pairwise (· < ·) := fun a ha => (V.src a ha).1
theorem AllS.count {l : List Int} (H : AllS al l) (s : Int) : l.count s = if endsOf s al ≠ [] then 1 else 0 := by
  rw [count_asc H.asc]
  by_cases h : endsOf s al ≠ []
  · rw [if_pos h, if_pos ((H.all s).2 (goes_iff.1 h))]
  · rw [if_neg h, if_neg (fun h2 => h (goes_iff.2 ((H.all s).1 h2)))]
/-- who enters an inner node leaves it, and some source does -/
theorem ValidG.inner (V : ValidG e al) {k : Int} (h1 : 0 < k) (h2 : k < e) : (inL al k).Perm (outL al k) ∧ inL al k ≠ [] := by
  have hp : (inL al k).Perm (outL al k) := by
    rw [List.perm_iff_count]
    intro s
    rw [count_inL V.src', count_outL V.src']
    exact (V.flow s k h1 h2).2
  refine ⟨hp, fun h => ?_⟩
  obtain ⟨a, ha, hk⟩ := V.used k h1 h2
  obtain ⟨s, hs⟩ := List.exists_mem_of_ne_nil _ (V.src a ha).2
  rcases hk with hk | hk
  · have : s ∈ outL al k := List.mem_flatMap.2 ⟨a, List.mem_filter.2 ⟨ha, by simpa using hk⟩, hs⟩
    rw [← hp.mem_iff, h] at this
    cases this
  · have : s ∈ inL al k := List.mem_flatMap.2 ⟨a, List.mem_filter.2 ⟨ha, by simpa using hk⟩, hs⟩
    rw [h] at this
    cases this
end
end Go.Ap.Vg



namespace Go.Ap.Vg
def lvE (al : List Arc) (k : Int) : Nat := al.countP fun a => decide (a.1.1 = k)
def enE (al : List Arc) (k : Int) : Nat := al.countP fun a => decide (a.1.2 = k)
/-- a simple arc -/
def Simp (e : Int) (al : List Arc) (a : Arc) : Prop := 0 < a.1.1 ∧ a.1.2 < e ∧ lvE al a.1.1 = 1 ∧ enE al a.1.2 = 1
instance (e : Int) (al : List Arc) (a : Arc) : Decidable (Simp e al a) := inferInstanceAs (Decidable (_ ∧ _))
theorem count_one {α : Type} {f : α → Bool} {l : List α} (h : l.countP f = 1) {a b : α} (ha : a ∈ l) (hb : b ∈ l) (fa : f a = true) (fb : f b = true) : a = b := by
  rw [List.countP_eq_length_filter] at h
  obtain ⟨c, hc⟩ := List.length_eq_one_iff.1 h
  have h1 : a ∈ l.filter f := List.mem_filter.2 ⟨ha, fa⟩
  have h2 : b ∈ l.filter f := List.mem_filter.2 ⟨hb, fb⟩
  rw [hc, List.mem_singleton] at h1 h2
  rw [h1, h2]
section
variable {e : Int} {al : List Arc}
theorem lv_unique {a b : Arc} (ha : a ∈ al) (hb : b ∈ al) (h : lvE al a.1.1 = 1) (hab : a.1.1 = b.1.1) : a = b :=
  count_one h ha hb (by simp) (by simp [hab])
theorem en_unique {a b : Arc} (ha : a ∈ al) (hb : b ∈ al) (h : enE al a.1.2 = 1) (hab : a.1.2 = b.1.2) : a = b :=
  count_one h ha hb (by simp) (by simp [hab])
/-- the node before, if a simple arc leads from it -/
def pre (e : Int) (al : List Arc) (k : Int) : Option Int := (al.find? fun a => decide (Simp e al a) && decide (a.1.2 = k)).map (·.1.1)
theorem pre_some {k j : Int} : pre e al k = some j ↔ ∃ a ∈ al, Simp e al a ∧ a.1 = (j, k) := by
  unfold pre
  constructor
  · intro h
    obtain ⟨a, ha, hj⟩ := Option.map_eq_some_iff.1 h
    have h1 := List.find?_some ha
    simp only [Bool.and_eq_true, decide_eq_true_eq] at h1
    exact ⟨a, List.mem_of_find?_eq_some ha, h1.1, Prod.ext hj h1.2⟩
  · rintro ⟨a, ha, hs, h⟩
    have hk : a.1.2 = k := by rw [h]
    have hj : a.1.1 = j := by rw [h]
    cases hf : al.find? fun a => decide (Simp e al a) && decide (a.1.2 = k) with
    | none =>
      have := List.find?_eq_none.1 hf a ha
      simp [hs, hk] at this
    | some b =>
      have h1 := List.find?_some hf
      simp only [Bool.and_eq_true, decide_eq_true_eq] at h1
      have hb := List.mem_of_find?_eq_some hf
      have hab : a = b := en_unique ha hb hs.2.2.2 (by rw [hk, h1.2])
      rw [Option.map_some, ← hab, hj]
theorem pre_none {k : Int} : pre e al k = none ↔ ∀ a ∈ al, Simp e al a → a.1.2 ≠ k := by
  constructor
  · intro h a ha hs hk
    have := pre_some.2 ⟨a, ha, hs, rfl⟩
    rw [hk, h] at this
    cases this
  · intro h
    cases hp : pre e al k with
    | none => rfl
    | some j =>
      obtain ⟨a, ha, hs, h1⟩ := pre_some.1 hp
      exact absurd (by rw [h1]) (h a ha hs)
/-- the first node of the list, and how far it is -/
def fdN (e : Int) (al : List Arc) : Nat → Int → Int × Nat
  | 0, k => (k, 0)
  | n + 1, k => match pre e al k with
    | none => (k, 0)
    | some j => ((fdN e al n j).1, (fdN e al n j).2 + 1)
def fst (e : Int) (al : List Arc) (k : Int) : Int := (fdN e al k.toNat k).1
def dep (e : Int) (al : List Arc) (k : Int) : Nat := (fdN e al k.toNat k).2
end
section
variable {e : Int} {al : List Arc} (V : ValidG e al)
include V
theorem ValidG.pre_lt {k j : Int} (h : pre e al k = some j) : 0 < j ∧ j < k ∧ k < e := by
  obtain ⟨a, ha, hs, h1⟩ := pre_some.1 h
  have h2 := V.rng a ha
  have h3 := hs.1
  have h4 := hs.2.1
  rw [h1] at h2 h3 h4
  exact ⟨h3, h2.2.1, h4⟩
theorem ValidG.fd_any : ∀ (n m : Nat) (k : Int), k.toNat ≤ n → k.toNat ≤ m → fdN e al n k = fdN e al m k
  | 0, 0, k, _, _ => rfl
  | 0, m + 1, k, h, _ => by
    unfold fdN
    split
    · rfl
    · rename_i j hj
      have := V.pre_lt hj
      omega
  | n + 1, 0, k, _, h => by
    unfold fdN
    split
    · rfl
    · rename_i j hj
      have := V.pre_lt hj
      omega
  | n + 1, m + 1, k, h1, h2 => by
    unfold fdN
    cases hp : pre e al k with
    | none => rfl
    | some j =>
      have := V.pre_lt hp
      simp only
      rw [ValidG.fd_any n m j (by omega) (by omega)]
theorem ValidG.fd_eq (k : Int) : (fst e al k, dep e al k) = match pre e al k with | none => (k, 0) | some j => (fst e al j, dep e al j + 1) := by
  unfold fst dep
  cases hp : pre e al k with
  | none =>
    cases hk : k.toNat with
    | zero => rfl
    | succ n => simp only [fdN, hp]
  | some j =>
    have := V.pre_lt hp
    obtain ⟨n, hn⟩ : ∃ n, k.toNat = n + 1 := ⟨k.toNat - 1, by omega⟩
    rw [hn]
    simp only [fdN, hp]
    rw [V.fd_any n j.toNat j (by omega) (Nat.le_refl _)]
theorem ValidG.fst_none {k : Int} (h : pre e al k = none) : fst e al k = k ∧ dep e al k = 0 := by
  have := V.fd_eq k
  rw [h] at this
  exact ⟨congrArg Prod.fst this, congrArg Prod.snd this⟩
theorem ValidG.fst_some {k j : Int} (h : pre e al k = some j) : fst e al k = fst e al j ∧ dep e al k = dep e al j + 1 := by
  have := V.fd_eq k
  rw [h] at this
  injection this with h1 h2
  exact ⟨h1, h2⟩
theorem ValidG.fst_le : ∀ (n : Nat) (k : Int), k.toNat = n → fst e al k ≤ k ∧ pre e al (fst e al k) = none ∧ (0 < k → 0 < fst e al k) := by
  intro n
  induction n using Nat.strongRecOn with
  | _ n ih =>
    intro k hk
    cases hp : pre e al k with
    | none =>
      rw [(V.fst_none hp).1]
      exact ⟨Int.le_refl _, hp, id⟩
    | some j =>
      have h1 := V.pre_lt hp
      have h2 := ih j.toNat (by omega) j rfl
      rw [(V.fst_some hp).1]
      exact ⟨by omega, h2.2.1, fun _ => h2.2.2 h1.1⟩
theorem ValidG.fst_self {k : Int} : fst e al k = k ↔ pre e al k = none := by
  constructor
  · intro h
    have := (V.fst_le _ k rfl).2.1
    rwa [h] at this
  · exact fun h => (V.fst_none h).1
omit V in
/-- an arc that is not simple leads from the last node of a list to the first one of another -/
theorem no_simp {a : Arc} (ha : a ∈ al) (hn : ¬Simp e al a) : (∀ b ∈ al, Simp e al b → b.1.1 ≠ a.1.1) ∧ pre e al a.1.2 = none := by
  constructor
  · intro b hb hs h
    have := lv_unique hb ha hs.2.2.1 h
    exact hn (this ▸ hs)
  · rw [pre_none]
    intro b hb hs h
    have := en_unique hb ha hs.2.2.2 h
    exact hn (this ▸ hs)
end
end Go.Ap.Vg

namespace Go.Ap.Vg
/-- the arcs are the steps of the paths of these sources -/
structure OfP (e : Int) (P : Int → List Int) (al : List Arc) : Prop where
  path : ∀ s, P s = [] ∨ ((P s).Pairwise (· < ·) ∧ (P s).head? = some 0 ∧ (P s).getLast? = some e)
  asc : al.Pairwise fun a b => ltE a.1 b.1
  src : ∀ a ∈ al, a.2.Pairwise (· < ·) ∧ a.2 ≠ []
  all : ∀ (x : En) (s : Int), (∃ a ∈ al, a.1 = x ∧ s ∈ a.2) ↔ x ∈ consec (P s)
theorem path_rng {l : List Int} {e : Int} (h1 : l.Pairwise (· < ·)) (h2 : l.head? = some 0) (h3 : l.getLast? = some e) : ∀ x ∈ l, 0 ≤ x ∧ x ≤ e := fun x hx => by
  constructor
  · rw [path_cons h2] at hx h1
    rw [List.pairwise_cons] at h1
    rcases List.mem_cons.1 hx with rfl | hx
    · omega
    · have := h1.1 x hx
      omega
  · obtain ⟨m, rfl⟩ : ∃ m, l = m ++ [e] := by
      obtain ⟨m, hm⟩ := List.getLast?_eq_some_iff.1 h3
      exact ⟨m, hm⟩
    rw [List.pairwise_append] at h1
    rcases List.mem_append.1 hx with hx | hx
    · have := h1.2.2 x hx e (List.mem_singleton.2 rfl)
      omega
    · rw [List.mem_singleton] at hx
      omega
section
variable {e : Int} {P : Int → List Int} {al : List Arc}
theorem OfP.ends (H : OfP e P al) (s : Int) : endsOf s al = consec (P s) := by
  refine asc_same (endsOf_asc H.asc _) ?_ fun x => ?_
  · rcases H.path s with h | h
    · rw [h]; simp [consec]
    · exact consec_asc h.1
  · rw [endsOf_mem, H.all]
theorem OfP.walk (H : OfP e P al) (s : Int) : walkA s 0 al = (P s).tail := by
  rw [walkA_ends, H.ends]
  rcases H.path s with h | h
  · rw [h]; rfl
  · rw [path_cons h.2.1]
    exact walkE_consec _ _
theorem OfP.valid (H : OfP e P al) (he : 0 < e) (hu : ∀ k, 0 < k → k < e → ∃ s, k ∈ P s) : ValidG e al where
  pos := he
  rng := fun a ha => by
    obtain ⟨s, hs⟩ := List.exists_mem_of_ne_nil _ (H.src a ha).2
    have hx := (H.all a.1 s).1 ⟨a, ha, rfl, hs⟩
    rcases H.path s with h | ⟨h1, h2, h3⟩
    · rw [h] at hx; simp [consec] at hx
    · have hlt := consec_lt h1 hx
      have hm := consec_mem_fst hx
      exact ⟨(path_rng h1 h2 h3 _ hm.1).1, hlt, (path_rng h1 h2 h3 _ hm.2).2⟩
  asc := H.asc
  src := H.src
  used := fun k h1 h2 => by
    obtain ⟨s, hk⟩ := hu k h1 h2
    rcases H.path s with h | ⟨p1, p2, p3⟩
    · rw [h] at hk; cases hk
    · have h3 : 0 < outE (consec (P s)) k := by
        rw [consec_out p1, if_pos]
        · omega
        · refine ⟨hk, fun h4 => ?_⟩
          rw [p3] at h4
          cases h4
          omega
      obtain ⟨x, hx, hxk⟩ := outE_pos.1 h3
      obtain ⟨a, ha, hax, _⟩ := (H.all x s).2 hx
      exact ⟨a, ha, .inl (by rw [hax]; exact hxk)⟩
  first := fun s h => by
    rw [H.ends] at h ⊢
    rcases H.path s with h0 | ⟨p1, p2, p3⟩
    · rw [h0] at h; exact absurd rfl h
    · rw [consec_out p1, if_pos]
      refine ⟨by rw [path_cons p2]; exact List.mem_cons_self .., fun h4 => ?_⟩
      rw [p3] at h4
      cases h4
      omega
  flow := fun s k hk hke => by
    rw [H.ends]
    rcases H.path s with h0 | ⟨p1, p2, p3⟩
    · rw [h0]; simp [consec, inE, outE]
    · rw [consec_out p1, consec_in p1]
      have hkt : k ∈ (P s).tail ↔ k ∈ P s := by
        conv => rhs; rw [path_cons p2]
        rw [List.mem_cons]
        exact ⟨.inr, fun h => h.resolve_left (by omega)⟩
      have hne : (P s).getLast? ≠ some k := fun h4 => by
        rw [p3] at h4
        cases h4
        omega
      by_cases hkl : k ∈ P s
      · simp [hkt, hkl, hne]
      · simp [hkt, hkl]
end
/-- the paths of a valid graph -/
def pathsV (al : List Arc) (s : Int) : List Int := if endsOf s al ≠ [] then 0 :: walkA s 0 al else []
theorem ValidG.ofP {e : Int} {al : List Arc} (V : ValidG e al) : OfP e (pathsV al) al where
  path := fun s => by
    unfold pathsV
    split
    · rename_i h
      have := V.path h
      exact .inr ⟨this.2.1, rfl, this.2.2⟩
    · exact .inl rfl
  asc := V.asc
  src := V.src
  all := fun x s => by
    rw [← endsOf_mem]
    unfold pathsV
    split
    · rename_i h
      rw [(V.path h).1]
    · rename_i h
      rw [show endsOf s al = [] by simpa using h]
      simp [consec]
def rk (e : Int) (al : List Arc) (x : Int) : Nat := (List.range x.toNat).countP fun i : Nat => (pre e al (i : Int)).isNone
def num (e : Int) (al : List Arc) (k : Int) : Int := (rk e al (fst e al k) : Int)
section
variable {e : Int} {al : List Arc}
theorem rk_succ (n : Nat) : rk e al ((n : Int) + 1) = rk e al n + if (pre e al (n : Int)).isNone then 1 else 0 := by
  unfold rk
  rw [show ((n : Int) + 1).toNat = n + 1 by omega, show ((n : Int)).toNat = n by omega, List.range_succ, List.countP_append]
  simp
theorem rk_le (n : Nat) : ∀ m : Nat, rk e al n ≤ rk e al ((n + m : Nat) : Int)
  | 0 => Nat.le_refl _
  | m + 1 => by
    have := rk_succ (e := e) (al := al) (n + m)
    have ih := rk_le n m
    rw [show ((n + (m + 1) : Nat) : Int) = ((n + m : Nat) : Int) + 1 by omega, this]
    omega
theorem rk_lt {x y : Int} (h0 : 0 ≤ x) (hx : pre e al x = none) (h : x < y) : rk e al x < rk e al y := by
  obtain ⟨n, rfl⟩ := Int.eq_ofNat_of_zero_le h0
  obtain ⟨m, hm⟩ : ∃ m : Nat, y = ((n + 1 + m : Nat) : Int) := ⟨(y - n - 1).toNat, by omega⟩
  have h1 := rk_succ (e := e) (al := al) n
  have h2 := rk_le (e := e) (al := al) (n + 1) m
  rw [hx] at h1
  simp only [Option.isNone_none, if_true] at h1
  rw [hm]
  have : ((n + 1 : Nat) : Int) = (n : Int) + 1 := by omega
  rw [this, h1] at h2
  omega
end
section
variable {e : Int} {al : List Arc} (V : ValidG e al)
include V
theorem ValidG.pre0 : pre e al 0 = none := by
  cases h : pre e al 0 with
  | none => rfl
  | some j => have := V.pre_lt h; omega
theorem ValidG.preE : pre e al e = none := by
  cases h : pre e al e with
  | none => rfl
  | some j => have := V.pre_lt h; omega
theorem ValidG.num_first {k : Int} (h : pre e al k = none) : num e al k = rk e al k := by unfold num; rw [V.fst_self.2 h]
theorem ValidG.num_pre {k j : Int} (h : pre e al k = some j) : num e al k = num e al j := by unfold num; rw [(V.fst_some h).1]
theorem ValidG.num_fst (k : Int) : num e al (fst e al k) = num e al k := by
  rw [V.num_first (V.fst_le _ k rfl).2.1]
  rfl
theorem ValidG.num0 : num e al 0 = 0 := by rw [V.num_first V.pre0]; rfl
theorem ValidG.fst_nn {k : Int} (h : 0 ≤ k) : 0 ≤ fst e al k := by
  rcases Int.lt_or_le 0 k with h1 | h1
  · have := (V.fst_le _ k rfl).2.2 h1; omega
  · obtain rfl : k = 0 := by omega
    rw [V.fst_self.2 V.pre0]
    omega
/-- the number does not grow within a list, and grows from list to list -/
theorem ValidG.num_lt {x y : Int} (hx : 0 ≤ x) (h : x < y) (hy : pre e al y = none) : num e al x < num e al y := by
  rw [V.num_first hy]
  have h1 := V.fst_le _ x rfl
  have := rk_lt (V.fst_nn hx) h1.2.1 (show fst e al x < y by omega)
  unfold num
  omega
end
/-- the arcs of the contracted graph -/
structure Contr (e : Int) (al al' : List Arc) : Prop where
  asc : al'.Pairwise fun a b => ltE a.1 b.1
  src : ∀ a ∈ al', a.2.Pairwise (· < ·) ∧ a.2 ≠ []
  all : ∀ (x : En) (s : Int), (∃ b ∈ al', b.1 = x ∧ s ∈ b.2) ↔ ∃ a ∈ al, ¬Simp e al a ∧ mapE (num e al) a.1 = x ∧ s ∈ a.2
/-- no simple arc has these ends -/
def NS (e : Int) (al : List Arc) (x : En) : Bool := decide (pre e al x.2 ≠ some x.1)
section
variable {e : Int} {al : List Arc} (V : ValidG e al)
include V
theorem ValidG.ns_iff {a : Arc} (ha : a ∈ al) : NS e al a.1 = true ↔ ¬Simp e al a := by
  unfold NS
  rw [decide_eq_true_eq]
  constructor
  · intro h hs
    exact h (pre_some.2 ⟨a, ha, hs, rfl⟩)
  · intro h hp
    obtain ⟨b, hb, hs, hb1⟩ := pre_some.1 hp
    have : a = b := by
      by_cases hab : a = b
      · exact hab
      · exfalso
        have h1 : ∀ x y : Arc, x ∈ al → y ∈ al → x.1 = y.1 → x = y := fun x y hx hy hxy => by
          refine lv_unique (al := [x]) (List.mem_singleton.2 rfl) (List.mem_singleton.2 ?_) (by simp [lvE]) (by rw [hxy])
          obtain ⟨i, hi, rfl⟩ := List.getElem_of_mem hx
          obtain ⟨j, hj, rfl⟩ := List.getElem_of_mem hy
          have hp := List.pairwise_iff_getElem.1 V.asc
          rcases Nat.lt_trichotomy i j with h2 | h2 | h2
          · have := hp i j hi hj h2
            rw [hxy] at this
            exact absurd this ltE.irr
          · subst h2; rfl
          · have := hp j i hj hi h2
            rw [hxy] at this
            exact absurd this ltE.irr
        exact hab (h1 a b ha hb (by rw [hb1]))
    exact h (this ▸ hs)
/-- a step of a path, list by list -/
theorem ValidG.steps : ∀ (r : List Int) (p : Int), (∀ x ∈ consec (p :: r), ∃ a ∈ al, a.1 = x) → consec (fst e al p :: r.filter fun k => (pre e al k).isNone) = ((consec (p :: r)).filter (NS e al)).map fun x => (fst e al x.1, x.2)
  | [], p, _ => by simp [consec]
  | b :: r, p, h => by
    have ih := ValidG.steps r b fun x hx => h x (by unfold consec; exact List.mem_cons_of_mem _ hx)
    conv => rhs; unfold consec
    obtain ⟨a, ha, hab⟩ := h (p, b) (by unfold consec; exact List.mem_cons_self ..)
    by_cases hp : pre e al b = some p
    · rw [List.filter_cons_of_neg (by rw [hp]; simp), List.filter_cons_of_neg (by simp [NS, hp]), ← ih, (V.fst_some hp).1]
    · have hn : pre e al b = none := by
        have h1 : NS e al a.1 = true := by rw [hab]; simpa [NS] using hp
        have := (no_simp ha ((V.ns_iff ha).1 h1)).2
        rw [hab] at this
        exact this
      rw [List.filter_cons_of_pos (by rw [hn]; rfl), List.filter_cons_of_pos (by simpa [NS] using hp), List.map_cons, ← ih, V.fst_self.2 hn]
      rfl
/-- the paths of the contracted graph -/
theorem ValidG.contr {al' : List Arc} (C : Contr e al al') : OfP (num e al e) (fun s => ((pathsV al s).filter fun k => (pre e al k).isNone).map (num e al)) al' where
  path := fun s => by
    rcases V.ofP.path s with h | ⟨h1, h2, h3⟩
    · exact .inl (by rw [h]; rfl)
    · refine .inr ⟨?_, ?_, ?_⟩
      · rw [List.pairwise_map]
        refine (h1.filter _).imp_of_mem fun {x y} hx hy hxy => ?_
        rw [List.mem_filter] at hx hy
        exact V.num_lt (path_rng h1 h2 h3 x hx.1).1 hxy (by simpa using hy.2)
      · rw [path_cons h2, List.filter_cons_of_pos (by rw [V.pre0]; rfl), List.map_cons, V.num0]
        rfl
      · obtain ⟨m, hm⟩ := List.getLast?_eq_some_iff.1 h3
        rw [hm, List.filter_append, List.map_append, List.getLast?_append]
        simp [V.preE]
  asc := C.asc
  src := C.src
  all := fun x s => by
    rw [C.all]
    have hkey : consec (((pathsV al s).filter fun k => (pre e al k).isNone).map (num e al)) = ((consec (pathsV al s)).filter (NS e al)).map (mapE (num e al)) := by
      rw [consec_map]
      rcases V.ofP.path s with h | ⟨h1, h2, h3⟩
      · rw [h]; rfl
      · have hc := path_cons h2
        have hst := V.steps (pathsV al s).tail 0 (fun x hx => by
          rw [← hc] at hx
          obtain ⟨a, ha, hax, _⟩ := (V.ofP.all x s).2 hx
          exact ⟨a, ha, hax⟩)
        rw [← hc, V.fst_self.2 V.pre0] at hst
        have hf : ((pathsV al s).filter fun k => (pre e al k).isNone) = 0 :: ((pathsV al s).tail.filter fun k => (pre e al k).isNone) := by
          conv => lhs; rw [hc]
          rw [List.filter_cons_of_pos (by rw [V.pre0]; rfl)]
        rw [hf, hst, List.map_map]
        refine List.map_congr_left fun x _ => ?_
        simp only [mapE, Function.comp]
        rw [V.num_fst]
    rw [hkey, List.mem_map]
    constructor
    · rintro ⟨a, ha, hn, hx, hs⟩
      refine ⟨a.1, List.mem_filter.2 ⟨(V.ofP.all a.1 s).1 ⟨a, ha, rfl, hs⟩, (V.ns_iff ha).2 hn⟩, hx⟩
    · rintro ⟨y, hy, hx⟩
      rw [List.mem_filter] at hy
      obtain ⟨a, ha, hay, hs⟩ := (V.ofP.all y s).2 hy.1
      rw [← hay] at hy hx
      exact ⟨a, ha, (V.ns_iff ha).1 hy.2, hx, hs⟩
end
end Go.Ap.Vg

namespace Go.Ap.Vg
section
variable {e : Int} {al al' : List Arc} (V : ValidG e al) (C : Contr e al al')
include V
include C
end
section
variable {e : Int} {al : List Arc} (V : ValidG e al) (hn : ∀ a ∈ al, ¬Simp e al a)
include hn
include V
end
/-- there is one contracted graph only -/
theorem asc_src_unique : ∀ {l m : List Arc}, l.Pairwise (fun a b => ltE a.1 b.1) → m.Pairwise (fun a b => ltE a.1 b.1) → (∀ a ∈ l, a.2.Pairwise (· < ·) ∧ a.2 ≠ []) → (∀ a ∈ m, a.2.Pairwise (· < ·) ∧ a.2 ≠ []) →
    (∀ x s, (∃ a ∈ l, a.1 = x ∧ s ∈ a.2) ↔ ∃ a ∈ m, a.1 = x ∧ s ∈ a.2) → l = m := by
  intro l m h1 h2 s1 s2 h
  have one : ∀ {l : List Arc}, l.Pairwise (fun a b => ltE a.1 b.1) → ∀ a ∈ l, ∀ b ∈ l, a.1 = b.1 → a = b := fun {l} hl a ha b hb hab => by
    obtain ⟨i, hi, rfl⟩ := List.getElem_of_mem ha
    obtain ⟨j, hj, rfl⟩ := List.getElem_of_mem hb
    have hp := List.pairwise_iff_getElem.1 hl
    rcases Nat.lt_trichotomy i j with h2 | h2 | h2
    · have := hp i j hi hj h2
      rw [hab] at this
      exact absurd this ltE.irr
    · subst h2; rfl
    · have := hp j i hj hi h2
      rw [hab] at this
      exact absurd this ltE.irr
  have ascI : ∀ {p q : List Int}, p.Pairwise (· < ·) → q.Pairwise (· < ·) → (∀ x, x ∈ p ↔ x ∈ q) → p = q := fun {p q} hp hq hpq =>
    List.Perm.eq_of_pairwise (le := (· < ·)) (fun a b _ _ h1 h2 => by omega) hp hq ((List.perm_ext_iff_of_nodup (asc_nodup hp) (asc_nodup hq)).2 hpq)
  have half : ∀ {l m : List Arc}, l.Pairwise (fun a b => ltE a.1 b.1) → m.Pairwise (fun a b => ltE a.1 b.1) → (∀ a ∈ l, a.2.Pairwise (· < ·) ∧ a.2 ≠ []) → (∀ a ∈ m, a.2.Pairwise (· < ·) ∧ a.2 ≠ []) →
      (∀ x s, (∃ a ∈ l, a.1 = x ∧ s ∈ a.2) ↔ ∃ a ∈ m, a.1 = x ∧ s ∈ a.2) → ∀ a ∈ l, a ∈ m := fun {l m} h1 h2 s1 s2 h a ha => by
    obtain ⟨s, hs⟩ := List.exists_mem_of_ne_nil _ (s1 a ha).2
    obtain ⟨b, hb, hba, _⟩ := (h a.1 s).1 ⟨a, ha, rfl, hs⟩
    have : a = b := by
      refine Prod.ext hba.symm (ascI (s1 a ha).1 (s2 b hb).1 fun x => ⟨fun hx => ?_, fun hx => ?_⟩)
      · obtain ⟨c, hc, hca, hxc⟩ := (h a.1 x).1 ⟨a, ha, rfl, hx⟩
        rwa [one h2 c hc b hb (by rw [hca, hba])] at hxc
      · obtain ⟨c, hc, hca, hxc⟩ := (h a.1 x).2 ⟨b, hb, hba, hx⟩
        rwa [one h1 c hc a ha hca] at hxc
    rw [this]
    exact hb
  refine List.Perm.eq_of_pairwise (le := fun a b => ltE a.1 b.1) (fun a b _ _ h1 h2 => absurd h2 (ltE.asym h1)) h1 h2 ((List.perm_ext_iff_of_nodup ?_ ?_).2 fun a => ⟨half h1 h2 s1 s2 h a, half h2 h1 s2 s1 (fun x s => (h x s).symm) a⟩)
  · exact h1.imp fun {a b} h h2 => by rw [h2] at h; exact ltE.irr h
  · exact h2.imp fun {a b} h h2 => by rw [h2] at h; exact ltE.irr h
theorem Contr.unique {e : Int} {al l m : List Arc} (H : Contr e al l) (H' : Contr e al m) : l = m :=
  asc_src_unique H.asc H'.asc H.src H'.src fun x s => (H.all x s).trans (H'.all x s).symm
end Go.Ap.Vg




namespace Go.Ap.Vg
section
variable {e : Int} {al : List Arc} (V : ValidG e al)
include V
end
section
variable {α : Type} (sp : List α)
def joinW : List (List α) → List α
  | [] => []
  | a :: r => a ++ r.flatMap fun b => sp ++ b
/-- the words of a list up to a node -/
def wdN (e : Int) (al : List Arc) (ws : Int → List α) : Nat → Int → List α
  | 0, k => ws k
  | n + 1, k => match pre e al k with
    | none => ws k
    | some j => wdN e al ws n j ++ (sp ++ ws k)
def wd (e : Int) (al : List Arc) (ws : Int → List α) (k : Int) : List α := wdN sp e al ws k.toNat k
variable {e : Int} {al : List Arc} {ws : Int → List α} (V : ValidG e al)
include V
theorem ValidG.wdN_any : ∀ (n m : Nat) (k : Int), k.toNat ≤ n → k.toNat ≤ m → wdN sp e al ws n k = wdN sp e al ws m k
  | 0, 0, k, _, _ => rfl
  | 0, m + 1, k, h, _ => by
    unfold wdN
    split
    · rfl
    · rename_i j hj
      have := V.pre_lt hj
      omega
  | n + 1, 0, k, _, h => by
    unfold wdN
    split
    · rfl
    · rename_i j hj
      have := V.pre_lt hj
      omega
  | n + 1, m + 1, k, h1, h2 => by
    unfold wdN
    cases hp : pre e al k with
    | none => rfl
    | some j =>
      have := V.pre_lt hp
      simp only
      rw [ValidG.wdN_any n m j (by omega) (by omega)]
omit V in
theorem wd_none {k : Int} (h : pre e al k = none) : wd sp e al ws k = ws k := by
  unfold wd
  cases k.toNat with
  | zero => rfl
  | succ n => simp only [wdN, h]
theorem ValidG.wd_some {k j : Int} (h : pre e al k = some j) : wd sp e al ws k = wd sp e al ws j ++ (sp ++ ws k) := by
  have := V.pre_lt h
  obtain ⟨n, hn⟩ : ∃ n, k.toNat = n + 1 := ⟨k.toNat - 1, by omega⟩
  unfold wd
  rw [hn]
  simp only [wdN, h]
  rw [V.wdN_any sp n j.toNat j (by omega) (Nat.le_refl _)]
/-- the words of the contracted graph -/
def WordsC (e : Int) (al : List Arc) (ws ws' : Int → List α) : Prop := ∀ k, 0 ≤ k → k ≤ e → (∀ a ∈ al, Simp e al a → a.1.1 ≠ k) → ws' (num e al k) = wd sp e al ws k
theorem ValidG.spell {ws' : Int → List α} (W : WordsC sp e al ws ws') : ∀ (r : List Int) (p : Int), 0 < p → p < e → (∀ x ∈ consec (p :: r), ∃ a ∈ al, a.1 = x) → (p :: r).getLast? = some e →
    wd sp e al ws p ++ ((r.filter fun k => decide (k < e)).flatMap fun b => sp ++ ws b) = ws' (num e al p) ++ ((r.filter fun k => decide (k < e) && (pre e al k).isNone).flatMap fun b => sp ++ ws' (num e al b))
  | [], p, _, h, _, hl => by simp at hl; omega
  | b :: r, p, h0, he, hm, hl => by
    obtain ⟨a, ha, hab⟩ := hm (p, b) (by unfold consec; exact List.mem_cons_self ..)
    have ra := V.rng a ha
    rw [hab] at ra
    rw [List.getLast?_cons_cons] at hl
    have hlast : ¬Simp e al a → ws' (num e al p) = wd sp e al ws p := fun hn => W p (by omega) (by omega) fun c hc hs h => (no_simp ha hn).1 c hc hs (by rw [h, hab])
    by_cases hbe : b < e
    · have ih := ValidG.spell W r b (by omega) hbe (fun x hx => hm x (by unfold consec; exact List.mem_cons_of_mem _ hx)) hl
      by_cases hs : Simp e al a
      · have hp : pre e al b = some p := pre_some.2 ⟨a, ha, hs, hab⟩
        rw [List.filter_cons_of_pos (by simpa using hbe), List.flatMap_cons, List.filter_cons_of_neg (by simp [hp]), ← List.append_assoc, ← V.wd_some sp hp, ih, V.num_pre hp]
      · have hp : pre e al b = none := by
          have := (no_simp ha hs).2
          rwa [hab] at this
        rw [wd_none sp hp] at ih
        rw [List.filter_cons_of_pos (by simpa using hbe), List.flatMap_cons, List.filter_cons_of_pos (by simp [hp, hbe]), List.flatMap_cons, hlast hs, List.append_assoc, List.append_assoc, ih]
    · have hbe2 : b = e := by have := ra.2.2; omega
      have hs : ¬Simp e al a := fun h => by
        have := h.2.1
        rw [hab] at this
        exact hbe this
      have hr : ∀ x ∈ r, ¬ x < e := by
        cases r with
        | nil => intro x hx; cases hx
        | cons d r' =>
          obtain ⟨c, hc, hcd⟩ := hm (b, d) (by unfold consec; rw [show consec (b :: d :: r') = (b, d) :: consec (d :: r') from rfl]; simp)
          have := V.rng c hc
          rw [hcd] at this
          simp only at this
          omega
      rw [List.filter_cons_of_neg (by simpa using hbe), List.filter_cons_of_neg (by simp [hbe]), List.filter_eq_nil_iff.2 (fun x hx => by simpa using hr x hx), List.filter_eq_nil_iff.2 (fun x hx => by simp [hr x hx]), hlast hs]
      rfl
/-- each source has the same text, joined with spaces -/
theorem ValidG.spells {al' : List Arc} (C : Contr e al al') {ws' : Int → List α} (W : WordsC sp e al ws ws') (s : Int) :
    joinW sp (((walkA s 0 al').filter fun k => decide (k < num e al e)).map ws') = joinW sp (((walkA s 0 al).filter fun k => decide (k < e)).map ws) := by
  have h0 := (V.contr C).walk s
  have h1 := V.ofP.walk s
  rw [h0, h1]
  rcases V.ofP.path s with h | ⟨p1, p2, p3⟩
  · rw [h]; rfl
  · have hrng := path_rng p1 p2 p3
    have hm : ∀ x ∈ consec (pathsV al s), ∃ a ∈ al, a.1 = x := fun x hx => by
      obtain ⟨a, ha, hax, _⟩ := (V.ofP.all x s).2 hx
      exact ⟨a, ha, hax⟩
    generalize hL : pathsV al s = L at *
    cases L with
    | nil => cases p2
    | cons z L =>
      cases p2
      rw [List.filter_cons_of_pos (by rw [V.pre0]; rfl), List.map_cons, List.tail_cons, List.tail_cons]
      cases L with
      | nil => simp at p3; have := V.pos; omega
      | cons b r =>
        obtain ⟨a, ha, hab⟩ := hm (0, b) (by unfold consec; exact List.mem_cons_self ..)
        have hs : ¬Simp e al a := fun h => by
          have := h.1
          rw [hab] at this
          simp at this
        have hp : pre e al b = none := by
          have := (no_simp ha hs).2
          rwa [hab] at this
        have ra := V.rng a ha
        rw [hab] at ra
        rw [List.getLast?_cons_cons] at p3
        -- the inner nodes of the contracted path
        have hin : ∀ (l : List Int), (∀ x ∈ l, 0 ≤ x ∧ x ≤ e) → ((l.filter fun k => (pre e al k).isNone).map (num e al)).filter (fun k => decide (k < num e al e)) = (l.filter fun k => decide (k < e) && (pre e al k).isNone).map (num e al) := fun l => by
          induction l with
          | nil => intro _; rfl
          | cons x l ih =>
            intro hx
            have ih := ih fun y hy => hx y (List.mem_cons_of_mem _ hy)
            have hx0 := hx x (List.mem_cons_self ..)
            cases hpx : pre e al x with
            | some j => rw [List.filter_cons_of_neg (by simp [hpx]), List.filter_cons_of_neg (by simp [hpx]), ih]
            | none =>
              rw [List.filter_cons_of_pos (by simp [hpx]), List.map_cons]
              by_cases hxe : x < e
              · have := V.num_lt hx0.1 hxe V.preE
                rw [List.filter_cons_of_pos (by simpa using this), List.filter_cons_of_pos (by simp [hpx, hxe]), List.map_cons, ih]
              · have hxe2 : x = e := by omega
                rw [List.filter_cons_of_neg (by simp [hxe2]), List.filter_cons_of_neg (by simp [hxe2]), ih]
        rw [hin _ fun x hx => hrng x (List.mem_cons_of_mem _ hx)]
        by_cases hbe : b < e
        · have key := V.spell sp W r b (by omega) hbe (fun x hx => hm x (by unfold consec; exact List.mem_cons_of_mem _ hx)) p3
          rw [wd_none sp hp] at key
          rw [List.filter_cons_of_pos (by simp [hp, hbe]), List.filter_cons_of_pos (by simpa using hbe), List.map_cons, List.map_cons, List.map_cons]
          simp only [joinW, List.map_map, List.flatMap_map]
          exact key.symm
        · have hbe2 : b = e := by have := ra.2.2; omega
          have hr : ∀ x ∈ r, ¬ x < e := by
            cases r with
            | nil => intro x hx; cases hx
            | cons d r' =>
              obtain ⟨c, hc, hcd⟩ := hm (b, d) (by rw [show consec (0 :: b :: d :: r') = (0, b) :: (b, d) :: consec (d :: r') from rfl]; simp)
              have := V.rng c hc
              rw [hcd] at this
              simp only at this
              omega
          rw [List.filter_cons_of_neg (by simp [hbe]), List.filter_cons_of_neg (by simpa using hbe), List.filter_eq_nil_iff.2 (fun x hx => by simp [hr x hx]), List.filter_eq_nil_iff.2 (fun x hx => by simpa using hr x hx)]
          rfl
end
end Go.Ap.Vg

namespace Go.Ap.Vg
def cI (a b : Int) : Int := if a < b then -1 else if b < a then 1 else 0
theorem cI_neg {a b : Int} : cI a b < 0 ↔ a < b := by unfold cI; repeat' split
                                                      all_goals omega
theorem cI_zero {a b : Int} : cI a b = 0 ↔ a = b := by unfold cI; repeat' split
                                                       all_goals omega
theorem cmp_I : Cmp cI where
  zero := cI_zero
  swap {a b} := by unfold cI; repeat' split
                   all_goals omega
  trans h1 h2 := by rw [cI_neg] at h1 h2 ⊢; omega
/-- the order of arcs -/
def cE (p q : En) : Int := lexQ cI cI p q
theorem cmp_E : Cmp cE := cmp_lex cmp_I cmp_I
theorem cE_neg {p q : En} : cE p q < 0 ↔ ltE p q := by
  unfold cE lexQ ltE
  split
  · rename_i h
    rw [cI_zero] at h
    rw [cI_neg]
    omega
  · rename_i h
    rw [cI_zero] at h
    rw [cI_neg]
    omega
/-- the arcs with these steps of sources -/
def idxE (es : List (En × Int)) : List Arc := es.foldl (fun l x => addF cE l x.1 x.2) []
theorem idxE_is (es : List (En × Int)) : IsIdx cE es (idxE es) := by
  have key : ∀ (es pre : List (En × Int)) (l : List Arc), IsIdx cE pre l → IsIdx cE (pre ++ es) (es.foldl (fun l x => addF cE l x.1 x.2) l) := fun es => by
    induction es with
    | nil => intro pre l h; rw [List.append_nil]; exact h
    | cons e r ih =>
      intro pre l h
      have := ih (pre ++ [(e.1, e.2)]) _ (h.add cmp_E e.1 e.2)
      rw [List.append_assoc] at this
      exact this
  have h0 : IsIdx cE [] ([] : List Arc) := ⟨.nil, fun _ hp => absurd hp List.not_mem_nil, fun _ hp => absurd hp List.not_mem_nil, fun h n => by simp⟩
  exact key es [] [] h0
theorem OfPaths.of_idx {e : Int} {ps : List (List Int)} {al : List Arc} {es : List (En × Int)} (H : IsIdx cE es al) (hp : ∀ l ∈ ps, l.Pairwise (· < ·) ∧ l.head? = some 0 ∧ l.getLast? = some e)
    (hE : ∀ x s, (x, s) ∈ es ↔ ∃ (i : Nat) (l : List Int), s = i ∧ ps[i]? = some l ∧ x ∈ consec l) : OfPaths e ps al where
  path := hp
  asc := H.asc.imp fun h => cE_neg.1 h
  src := fun a ha => ⟨H.lines a ha, H.some a ha⟩
  all := fun x s => by rw [← H.all, hE]
theorem Contr.of_idx {e : Int} {al al' : List Arc} {es : List (En × Int)} (H : IsIdx cE es al') (hE : ∀ x s, (x, s) ∈ es ↔ ∃ a ∈ al, ¬Simp e al a ∧ mapE (num e al) a.1 = x ∧ s ∈ a.2) : Contr e al al' where
  asc := H.asc.imp fun h => cE_neg.1 h
  src := fun a ha => ⟨H.lines a ha, H.some a ha⟩
  all := fun x s => by rw [← H.all, hE]
/-- all steps of some paths -/
def stepsP (ps : List (List Int)) : List (En × Int) := (List.range ps.length).flatMap fun i => (consec (ps.getD i [])).map fun x => (x, (i : Int))
theorem stepsP_mem {ps : List (List Int)} {x : En} {s : Int} : (x, s) ∈ stepsP ps ↔ ∃ (i : Nat) (l : List Int), s = i ∧ ps[i]? = some l ∧ x ∈ consec l := by
  unfold stepsP
  simp only [List.mem_flatMap, List.mem_range, List.mem_map, Prod.mk.injEq]
  constructor
  · rintro ⟨i, hi, y, hy, rfl, rfl⟩
    exact ⟨i, _, rfl, List.getElem?_eq_getElem hi, by simpa [List.getD, hi] using hy⟩
  · rintro ⟨i, l, rfl, hl, hx⟩
    have hi := (List.getElem?_eq_some_iff.1 hl).1
    exact ⟨i, hi, x, by simpa [List.getD, hl] using hx, rfl, rfl⟩
/-- there is one graph of some paths only -/
theorem OfPaths.unique {e e' : Int} {ps : List (List Int)} {al al' : List Arc} (H : OfPaths e ps al) (H' : OfPaths e' ps al') : al = al' :=
  asc_src_unique H.asc H'.asc H.src H'.src fun x s => (H.all x s).trans (H'.all x s).symm
/-- two loops over the nodes give ascending ends -/
theorem grid_asc (n : Nat) (g : Nat → Nat → List Arc) (hg : ∀ f t, ∀ a ∈ g f t, a.1 = ((f : Int), (t : Int))) (h1 : ∀ f t, (g f t).length ≤ 1) : ((List.range n).flatMap fun f => (List.range n).flatMap fun t => g f t).Pairwise fun a b => ltE a.1 b.1 := by
  have row : ∀ f m, ((List.range m).flatMap fun t => g f t).Pairwise fun a b => ltE a.1 b.1 := fun f m => by
    induction m with
    | zero => simp
    | succ m ih =>
      rw [List.range_succ, List.flatMap_append, List.pairwise_append]
      refine ⟨ih, ?_, fun a ha b hb => ?_⟩
      · simp only [List.flatMap_cons, List.flatMap_nil, List.append_nil]
        have := h1 f m
        match hgm : g f m, this with
        | [], _ => exact .nil
        | [a], _ => simp
      · simp only [List.flatMap_cons, List.flatMap_nil, List.append_nil] at hb
        obtain ⟨t, ht, hat⟩ := List.mem_flatMap.1 ha
        rw [hg f t a hat, hg f m b hb]
        have := List.mem_range.1 ht
        exact .inr ⟨rfl, by simp only; omega⟩
  have all : ∀ m, ((List.range m).flatMap fun f => (List.range n).flatMap fun t => g f t).Pairwise fun a b => ltE a.1 b.1 := fun m => by
    induction m with
    | zero => simp
    | succ m ih =>
      rw [List.range_succ, List.flatMap_append, List.pairwise_append]
      refine ⟨ih, ?_, fun a ha b hb => ?_⟩
      · simp only [List.flatMap_cons, List.flatMap_nil, List.append_nil]
        exact row m n
      · simp only [List.flatMap_cons, List.flatMap_nil, List.append_nil] at hb
        obtain ⟨f, hf, haf⟩ := List.mem_flatMap.1 ha
        obtain ⟨t, _, hat⟩ := List.mem_flatMap.1 haf
        obtain ⟨t', _, hbt⟩ := List.mem_flatMap.1 hb
        rw [hg f t a hat, hg m t' b hbt]
        have := List.mem_range.1 hf
        exact .inl (by simp only; omega)
  exact all n
/-- the sources of an arc, source by source and step by step -/
def srcR (ps : List (List Int)) (f t : Nat) : List Int := (List.range ps.length).flatMap fun i => (consec (ps.getD i [])).filterMap fun x => if x = ((f : Int), (t : Int)) then some (i : Int) else none
/-- the arcs of the reference's graph -/
def arcsR (n : Nat) (ps : List (List Int)) : List Arc := (List.range n).flatMap fun f => (List.range n).flatMap fun t => if f < t ∧ srcR ps f t ≠ [] then [(((f : Int), (t : Int)), srcR ps f t)] else []
theorem filterMap_one {x : En} {i : Int} : ∀ {l : List En}, l.Nodup → (l.filterMap fun y => if y = x then some i else none) = if x ∈ l then [i] else []
  | [], _ => rfl
  | y :: l, h => by
    rw [List.nodup_cons] at h
    rw [List.filterMap_cons, filterMap_one h.2]
    by_cases hy : y = x
    · subst hy
      simp [h.1]
    · simp [hy, show ¬x = y from fun e => hy e.symm]
theorem srcR_eq {ps : List (List Int)} (hp : ∀ l ∈ ps, l.Pairwise (· < ·)) (f t : Nat) : srcR ps f t = (List.range ps.length).flatMap fun i => if ((f : Int), (t : Int)) ∈ consec (ps.getD i []) then [(i : Int)] else [] := by
  unfold srcR
  have : ∀ i, (consec (ps.getD i [])).Nodup := fun i => by
    cases hi : ps[i]? with
    | none => simp [List.getD, hi, consec]
    | some l =>
      simp only [List.getD, hi, Option.getD_some]
      exact ltE_nodup (consec_asc (hp l (List.mem_of_getElem? hi)))
  congr 1
  funext i
  exact filterMap_one (this i)
theorem range_flat_asc (p : Nat → Prop) [DecidablePred p] : ∀ m : Nat, ((List.range m).flatMap fun i => if p i then [(i : Int)] else []).Pairwise (· < ·)
  | 0 => by simp
  | m + 1 => by
    rw [List.range_succ, List.flatMap_append, List.pairwise_append]
    refine ⟨range_flat_asc p m, ?_, fun a ha b hb => ?_⟩
    · simp only [List.flatMap_cons, List.flatMap_nil, List.append_nil]
      split <;> simp
    · obtain ⟨i, hi, hia⟩ := List.mem_flatMap.1 ha
      simp only [List.flatMap_cons, List.flatMap_nil, List.append_nil] at hb
      have := List.mem_range.1 hi
      split at hia
      · split at hb
        · rw [List.mem_singleton] at hia hb
          omega
        · cases hb
      · cases hia
theorem arcsR_ok {e : Int} {n : Nat} {ps : List (List Int)} (hp : ∀ l ∈ ps, l.Pairwise (· < ·) ∧ l.head? = some 0 ∧ l.getLast? = some e) (he : e < n) : OfPaths e ps (arcsR n ps) where
  path := hp
  asc := by
    unfold arcsR
    refine grid_asc n (fun f t => if f < t ∧ srcR ps f t ≠ [] then [(((f : Int), (t : Int)), srcR ps f t)] else []) (fun f t a ha => ?_) fun f t => ?_
    · split at ha
      · rw [List.mem_singleton] at ha; rw [ha]
      · cases ha
    · split <;> simp
  src := fun a ha => by
    unfold arcsR at ha
    obtain ⟨f, _, ha⟩ := List.mem_flatMap.1 ha
    obtain ⟨t, _, ha⟩ := List.mem_flatMap.1 ha
    split at ha
    · rename_i h
      rw [List.mem_singleton] at ha
      subst ha
      refine ⟨?_, h.2⟩
      simp only
      rw [srcR_eq fun l hl => (hp l hl).1]
      exact range_flat_asc _ _
    · cases ha
  all := fun x s => by
    have hs : ∀ f t : Nat, ∀ s : Int, s ∈ srcR ps f t ↔ ∃ (i : Nat) (l : List Int), s = i ∧ ps[i]? = some l ∧ ((f : Int), (t : Int)) ∈ consec l := fun f t s => by
      rw [srcR_eq fun l hl => (hp l hl).1, List.mem_flatMap]
      constructor
      · rintro ⟨i, hi, h⟩
        split at h
        · rename_i hc
          rw [List.mem_singleton] at h
          have hi := List.mem_range.1 hi
          exact ⟨i, _, h, List.getElem?_eq_getElem hi, by simpa [List.getD, hi] using hc⟩
        · cases h
      · rintro ⟨i, l, rfl, hl, hc⟩
        refine ⟨i, List.mem_range.2 (List.getElem?_eq_some_iff.1 hl).1, ?_⟩
        rw [if_pos (by simpa [List.getD, hl] using hc)]
        exact List.mem_singleton.2 rfl
    constructor
    · rintro ⟨a, ha, hax, hsa⟩
      unfold arcsR at ha
      obtain ⟨f, _, ha⟩ := List.mem_flatMap.1 ha
      obtain ⟨t, _, ha⟩ := List.mem_flatMap.1 ha
      split at ha
      · rw [List.mem_singleton] at ha
        subst ha
        obtain ⟨i, l, h1, h2, h3⟩ := (hs f t s).1 hsa
        exact ⟨i, l, h1, h2, by rw [← hax]; exact h3⟩
      · cases ha
    · rintro ⟨i, l, rfl, hl, hx⟩
      obtain ⟨h1, h2, h3⟩ := hp l (List.mem_of_getElem? hl)
      have hlt := consec_lt h1 hx
      have hm := consec_mem_fst hx
      have r1 := path_rng h1 h2 h3 _ hm.1
      have r2 := path_rng h1 h2 h3 _ hm.2
      obtain ⟨x1, x2⟩ := x
      obtain ⟨f, rfl⟩ := Int.eq_ofNat_of_zero_le r1.1
      obtain ⟨t, rfl⟩ := Int.eq_ofNat_of_zero_le r2.1
      have hmem := (hs f t i).2 ⟨i, l, rfl, hl, hx⟩
      refine ⟨(((f : Int), (t : Int)), srcR ps f t), ?_, rfl, hmem⟩
      unfold arcsR
      simp only at hlt r1 r2
      refine List.mem_flatMap.2 ⟨f, List.mem_range.2 (by omega), List.mem_flatMap.2 ⟨t, List.mem_range.2 (by omega), ?_⟩⟩
      rw [if_pos ⟨by omega, List.ne_nil_of_mem hmem⟩]
      exact List.mem_singleton.2 rfl
end Go.Ap.Vg

namespace Go.Ap.Vg
theorem ltE.trans {x y z : En} (h : ltE x y) (h' : ltE y z) : ltE x z := by unfold ltE at *; omega
theorem asc_of_steps : ∀ {l : List Arc}, (∀ i (h : i + 1 < l.length), ltE l[i].1 l[i + 1].1) → l.Pairwise fun a b => ltE a.1 b.1
  | [], _ => .nil
  | [a], _ => by simp
  | a :: b :: r, h => by
    have ih := asc_of_steps (l := b :: r) fun i hi => h (i + 1) (by simp at hi ⊢; omega)
    have hab : ltE a.1 b.1 := h 0 (by simp)
    rw [List.pairwise_cons]
    refine ⟨fun c hc => ?_, ih⟩
    rcases List.mem_cons.1 hc with rfl | hc
    · exact hab
    · exact hab.trans ((List.pairwise_cons.1 ih).1 c hc)
theorem endsOf_snoc (s : Int) (l : List Arc) (a : Arc) : endsOf s (l ++ [a]) = endsOf s l ++ if s ∈ a.2 then [a.1] else [] := by
  unfold endsOf
  rw [List.filter_append, List.map_append]
  congr 1
  by_cases h : s ∈ a.2 <;> simp [h]
theorem outE_snoc (s : Int) (l : List Arc) (a : Arc) (k : Int) : outE (endsOf s (l ++ [a])) k = outE (endsOf s l) k + if s ∈ a.2 ∧ a.1.1 = k then 1 else 0 := by
  rw [endsOf_snoc]
  unfold outE
  rw [List.countP_append]
  congr 1
  by_cases h : s ∈ a.2 <;> by_cases h2 : a.1.1 = k <;> simp [h, h2]
theorem inE_snoc (s : Int) (l : List Arc) (a : Arc) (k : Int) : inE (endsOf s (l ++ [a])) k = inE (endsOf s l) k + if s ∈ a.2 ∧ a.1.2 = k then 1 else 0 := by
  rw [endsOf_snoc]
  unfold inE
  rw [List.countP_append]
  congr 1
  by_cases h : s ∈ a.2 <;> by_cases h2 : a.1.2 = k <;> simp [h, h2]
/-- what both checks ask of the arcs behind all else -/
def Flows (e : Int) (al : List Arc) : Prop := (∀ k, 0 < k → k < e → ∃ a ∈ al, a.1.1 = k ∨ a.1.2 = k) ∧ ∀ s : Nat, s < 32 → (endsOf s al ≠ [] → outE (endsOf s al) 0 = 1) ∧ ∀ k, 0 < k → k < e → inE (endsOf s al) k ≤ 1 ∧ inE (endsOf s al) k = outE (endsOf s al) k
theorem ValidG.of_check {e : Int} {al : List Arc} (he : 0 < e) (hr : ∀ a ∈ al, 0 ≤ a.1.1 ∧ a.1.1 < a.1.2 ∧ a.1.2 ≤ e) (ha : ∀ i (h : i + 1 < al.length), ltE al[i].1 al[i + 1].1) (hs : ∀ a ∈ al, a.2.Pairwise (· < ·) ∧ a.2 ≠ [] ∧ ∀ s ∈ a.2, 0 ≤ s ∧ s < 32) (hf : Flows e al) : ValidG e al := by
  have none : ∀ s : Int, ¬(0 ≤ s ∧ s < 32) → endsOf s al = [] := fun s h => by
    rw [List.eq_nil_iff_forall_not_mem]
    intro x hx
    obtain ⟨a, ha, _, hsa⟩ := endsOf_mem.1 hx
    exact h ((hs a ha).2.2 s hsa)
  refine ⟨he, hr, asc_of_steps ha, fun a h => ⟨(hs a h).1, (hs a h).2.1⟩, hf.1, fun s => ?_, fun s k => ?_⟩
  · by_cases h : 0 ≤ s ∧ s < 32
    · have := (hf.2 s.toNat (by omega)).1
      rwa [show ((s.toNat : Nat) : Int) = s by omega] at this
    · rw [none s h]
      exact fun h => absurd rfl h
  · by_cases h : 0 ≤ s ∧ s < 32
    · have := (hf.2 s.toNat (by omega)).2 k
      rwa [show ((s.toNat : Nat) : Int) = s by omega] at this
    · rw [none s h]
      intro _ _
      simp [inE, outE]
theorem ValidG.flows {e : Int} {al : List Arc} (V : ValidG e al) : Flows e al := ⟨V.used, fun s _ => ⟨V.first s, V.flow s⟩⟩
section
variable {e : Int} {al : List Arc} (V : ValidG e al)
include V
end
section
variable {e : Int} {al : List Arc} (V : ValidG e al)
include V
end
section
variable {α : Type} (sp : List α) {e : Int} {al : List Arc} {ws : Int → List α}
/-- the words as the program gathers them, when the nodes below k are done -/
def accW (e : Int) (al : List Arc) (ws : Int → List α) : Nat → Int → List α
  | 0, x => ws x
  | k + 1, x => if fst e al (k : Int) = x ∧ pre e al (k : Int) ≠ none then accW e al ws k x ++ (sp ++ ws k) else accW e al ws k x
end
end Go.Ap.Vg

namespace Go.Ap.Vg
theorem fwdC_snoc (c : Nat) : ∀ (l : List Ends) (v : Nat → Nat) (a : Ends), fwdC c (l ++ [a]) v = upd (fwdC c l v) a.2 (min c (fwdC c l v a.2 + fwdC c l v a.1))
  | [], v, a => rfl
  | b :: l, v, a => by
    rw [List.cons_append]
    unfold fwdC
    exact fwdC_snoc c l _ a
theorem bwdC_drop (c : Nat) (l : List Ends) (u : Nat → Nat) {i : Nat} {a : Ends} (h : l[i]? = some a) : bwdC c (l.drop i) u = upd (bwdC c (l.drop (i + 1)) u) a.1 (min c (bwdC c (l.drop (i + 1)) u a.1 + bwdC c (l.drop (i + 1)) u a.2)) := by
  obtain ⟨hi, rfl⟩ := List.getElem?_eq_some_iff.1 h
  rw [List.drop_eq_getElem_cons hi]
  rfl
def endsN (al : List Arc) : List Ends := al.map fun a => (a.1.1.toNat, a.1.2.toNat)
/-- the number of paths, at most c -/
def pathsN (c : Nat) (e : Int) (al : List Arc) : Nat := min c (cnt e (al.map (·.1)) 0)
theorem ValidG.endsN_eq {e : Int} {al : List Arc} (V : ValidG e al) : (endsN al).map toE = al.map (·.1) ∧ ∀ a ∈ endsN al, a.1 < e.toNat + 1 ∧ a.2 < e.toNat + 1 := by
  constructor
  · unfold endsN
    rw [List.map_map]
    refine List.map_congr_left fun a ha => ?_
    have := V.rng a ha
    unfold toE Function.comp
    exact Prod.ext (by simp only; omega) (by simp only; omega)
  · intro x hx
    obtain ⟨a, ha, rfl⟩ := List.mem_map.1 hx
    have := V.rng a ha
    simp only
    omega
theorem ValidG.paths {e : Int} {al : List Arc} (V : ValidG e al) {c : Nat} (hc : 1 ≤ c) : fwdC c (endsN al) (one 0) e.toNat = pathsN c e al ∧ bwdC c (endsN al) (one e.toNat) 0 = pathsN c e al := by
  obtain ⟨h1, h2⟩ := V.endsN_eq
  have he := V.pos
  have hb : bwdC c (endsN al) (one e.toNat) 0 = pathsN c e al := by
    rw [bwdC_eq c _ _ (one e.toNat) (fun i => by unfold one; split <;> omega), bwd_cnt, h1]
    unfold pathsN
    rw [show ((e.toNat : Nat) : Int) = e by omega]
    rfl
  exact ⟨by rw [pathsC_eq hc h2 (by omega) (by omega), hb], hb⟩
section
variable {α : Type} [DecidableEq α]
/-- the words when the columns below k are done, and of column k the sources below i -/
def wordsB (z : α) (cs : List (List (Option α))) (k i : Nat) : List α := z :: (nodesL (cs.take k) ++ colN ((cs.getD k []).take i))
/-- the path of a source then -/
def pathB (cs : List (List (Option α))) (k i s : Nat) : List Int :=
  0 :: (pathF 1 (cs.take k) s ++ if s < i then (match (cs.getD k [])[s]? with | some (some t) => [((1 + (nodesL (cs.take k)).length + (colN (cs.getD k [])).idxOf t : Nat) : Int)] | _ => []) else [])
theorem wordsB_zero (z : α) (cs : List (List (Option α))) : wordsB z cs 0 0 = [z] := by simp [wordsB, nodesL, colN]
theorem pathB_zero (cs : List (List (Option α))) (s : Nat) : pathB cs 0 0 s = [0] := by simp [pathB, pathF]
theorem take_next {β : Type} {l : List β} {i : Nat} {x : β} (h : l[i]? = some x) : l.take (i + 1) = l.take i ++ [x] := by rw [List.take_add_one, h]; rfl
/-- a column is done -/
theorem wordsB_col (z : α) {cs : List (List (Option α))} {k : Nat} {c : List (Option α)} (h : cs[k]? = some c) : wordsB z cs k c.length = wordsB z cs (k + 1) 0 := by
  unfold wordsB
  have hc : cs.getD k [] = c := by simp [List.getD, h]
  rw [hc, List.take_length, take_next h]
  simp [nodesL, colN]
theorem pathB_col {cs : List (List (Option α))} {k s : Nat} {c : List (Option α)} (h : cs[k]? = some c) (hs : s < c.length) : pathB cs k c.length s = pathB cs (k + 1) 0 s := by
  unfold pathB
  have hc : cs.getD k [] = c := by simp [List.getD, h]
  rw [hc, if_pos hs, take_next h, pathF_snoc]
  cases hx : c[s]? with
  | none => simp
  | some x => cases x <;> simp
/-- a gap -/
theorem wordsB_gap (z : α) {cs : List (List (Option α))} {k i : Nat} {c : List (Option α)} (h : cs[k]? = some c) (hi : c[i]? = some none) : wordsB z cs k (i + 1) = wordsB z cs k i := by
  unfold wordsB
  have hc : cs.getD k [] = c := by simp [List.getD, h]
  rw [hc, take_next hi, colN_snoc]
  rfl
/-- a text: the number of its node, and the words -/
theorem wordsB_text (z : α) {cs : List (List (Option α))} {k i : Nat} {c : List (Option α)} {t : α} (h : cs[k]? = some c) (hi : c[i]? = some (some t)) :
    (t ∈ colN (c.take i) → wordsB z cs k (i + 1) = wordsB z cs k i ∧ (colN c).idxOf t = (colN (c.take i)).idxOf t) ∧ (t ∉ colN (c.take i) → wordsB z cs k (i + 1) = wordsB z cs k i ++ [t] ∧ 1 + (nodesL (cs.take k)).length + (colN c).idxOf t = (wordsB z cs k i).length) := by
  have hc : cs.getD k [] = c := by simp [List.getD, h]
  unfold wordsB
  rw [hc, take_next hi, colN_snoc]
  constructor
  · intro ht
    refine ⟨by simp [addN, ht], ?_⟩
    have hp : colN (c.take i) <+: colN c := by
      have := colN_pre (c.take i) (c.drop i)
      rwa [List.take_append_drop] at this
    exact idx_pre hp ht
  · intro ht
    refine ⟨by simp [addN, ht], ?_⟩
    have hp : colN (c.take (i + 1)) <+: colN c := by
      have := colN_pre (c.take (i + 1)) (c.drop (i + 1))
      rwa [List.take_append_drop] at this
    rw [take_next hi, colN_snoc] at hp
    have h1 : addN (colN (c.take i)) (some t) = colN (c.take i) ++ [t] := by simp [addN, ht]
    rw [h1] at hp
    rw [idx_pre hp (by simp), List.idxOf_append, if_neg ht]
    simp
    omega
/-- a step of a path -/
theorem pathB_text {cs : List (List (Option α))} {k i : Nat} {c : List (Option α)} {t : α} (h : cs[k]? = some c) (hi : c[i]? = some (some t)) (s : Nat) :
    pathB cs k (i + 1) s = if s = i then pathB cs k i s ++ [((1 + (nodesL (cs.take k)).length + (colN c).idxOf t : Nat) : Int)] else pathB cs k i s := by
  have hc : cs.getD k [] = c := by simp [List.getD, h]
  unfold pathB
  rw [hc]
  by_cases hs : s = i
  · subst hs
    simp [hi]
  · by_cases hs2 : s < i
    · simp [hs, hs2, show s < i + 1 by omega]
    · simp [hs, hs2, show ¬s < i + 1 by omega]
theorem pathB_gap {cs : List (List (Option α))} {k i : Nat} {c : List (Option α)} (h : cs[k]? = some c) (hi : c[i]? = some none) (s : Nat) : pathB cs k (i + 1) s = pathB cs k i s := by
  have hc : cs.getD k [] = c := by simp [List.getD, h]
  unfold pathB
  rw [hc]
  by_cases hs : s = i
  · subst hs
    simp [hi]
  · by_cases hs2 : s < i
    · simp [hs2, show s < i + 1 by omega]
    · simp [hs2, show ¬s < i + 1 by omega]
/-- all columns are done -/
theorem wordsB_end (z : α) (cs : List (List (Option α))) : wordsB z cs cs.length 0 ++ [z] = wordsL z cs := by
  unfold wordsB wordsL
  simp [colN]
theorem pathB_end (cs : List (List (Option α))) (s : Nat) : pathB cs cs.length 0 s ++ [endN cs] = fullP cs s := by
  unfold pathB fullP endN
  simp
end
/-- the first nodes of the lists, in order -/
def firstsL (e : Int) (al : List Arc) (n : Nat) : List Nat := (List.range n).filter fun i => (pre e al (i : Int)).isNone
theorem firstsL_succ (e : Int) (al : List Arc) (n : Nat) : firstsL e al (n + 1) = firstsL e al n ++ if (pre e al (n : Int)).isNone then [n] else [] := by
  unfold firstsL
  rw [List.range_succ, List.filter_append]
  congr 1
  cases h : (pre e al (n : Int)).isNone <;> simp [h]
theorem firstsL_len (e : Int) (al : List Arc) (n : Nat) : (firstsL e al n).length = rk e al n := by
  unfold firstsL rk
  rw [List.countP_eq_length_filter, Int.toNat_natCast]
section
variable {α : Type} (sp : List α)
/-- the words of the contracted graph, where the graph has n nodes -/
def contrW (e : Int) (al : List Arc) (ws : Int → List α) (n : Nat) : List (List α) := (firstsL e al n).map fun x : Nat => accW sp e al ws (n - 1) (x : Int)
end
end Go.Ap.Vg

namespace Go.Ap.Vg
section
variable {α : Type} [DecidableEq α]
def pathsC (cs : List (List (Option α))) (n : Nat) : List (List Int) := (List.range n).map (fullP cs)
/-- the arcs of the graph of a collation of n sources -/
def arcsG (cs : List (List (Option α))) (n : Nat) : List Arc := idxE (stepsP (pathsC cs n))
theorem pathsC_ok (cs : List (List (Option α))) (n : Nat) : ∀ l ∈ pathsC cs n, l.Pairwise (· < ·) ∧ l.head? = some 0 ∧ l.getLast? = some (endN cs) := fun l hl => by
  obtain ⟨s, _, rfl⟩ := List.mem_map.1 hl
  exact fullP_ok cs s
theorem pathsC_at {cs : List (List (Option α))} {n s : Nat} (h : s < n) : (pathsC cs n)[s]? = some (fullP cs s) := by
  unfold pathsC
  rw [List.getElem?_map, List.getElem?_range h]
  rfl
theorem arcsG_ok (cs : List (List (Option α))) (n : Nat) : OfPaths (endN cs) (pathsC cs n) (arcsG cs n) :=
  OfPaths.of_idx (idxE_is _) (pathsC_ok cs n) fun _ _ => stepsP_mem
/-- program and reference lay the same arcs -/
theorem arcsG_ref (cs : List (List (Option α))) (n : Nat) (z : α) : arcsR (wordsL z cs).length (pathsC cs n) = arcsG cs n :=
  OfPaths.unique (arcsR_ok (pathsC_ok cs n) (by unfold wordsL endN; simp; omega)) (arcsG_ok cs n)
theorem endN_pos (cs : List (List (Option α))) : 0 < endN cs := by unfold endN; omega
theorem arcsG_valid {cs : List (List (Option α))} {n : Nat} (hn : ∀ c ∈ cs, c.length = n) : ValidG (endN cs) (arcsG cs n) := by
  refine (arcsG_ok cs n).valid (endN_pos cs) fun k h1 h2 => ?_
  unfold endN at h2
  obtain ⟨s, hs, c, hc, hsc⟩ := node_path cs 1 (k.toNat - 1) (by omega)
  refine ⟨fullP cs s, List.mem_map_of_mem (List.mem_range.2 (by rw [← hn c hc]; exact hsc)), ?_⟩
  unfold fullP
  rw [List.mem_cons, List.mem_append]
  right; left
  have : ((1 + (k.toNat - 1) : Nat) : Int) = k := by omega
  rwa [this] at hs
theorem arcsG_goes {cs : List (List (Option α))} {n : Nat} (s : Int) : (∃ a ∈ arcsG cs n, s ∈ a.2) ↔ ∃ i : Nat, s = i ∧ i < n := by
  have H := arcsG_ok cs n
  constructor
  · rintro ⟨a, ha, hs⟩
    obtain ⟨i, l, hi, hl, _⟩ := (H.all a.1 s).1 ⟨a, ha, rfl, hs⟩
    have := (List.getElem?_eq_some_iff.1 hl).1
    unfold pathsC at this
    simp at this
    exact ⟨i, hi, this⟩
  · rintro ⟨i, rfl, hi⟩
    obtain ⟨x, hx⟩ : ∃ x, x ∈ consec (fullP cs i) := by
      unfold fullP
      cases h : pathF 1 cs i ++ [((1 + (nodesL cs).length : Nat) : Int)] with
      | nil => simp at h
      | cons b r => exact ⟨(0, b), by unfold consec; exact List.mem_cons_self ..⟩
    obtain ⟨a, ha, _, hs⟩ := (H.all x i).2 ⟨i, _, rfl, pathsC_at hi, hx⟩
    exact ⟨a, ha, hs⟩
end
end Go.Ap.Vg

namespace Go.Ap.Vg
section
variable {α : Type} (sp : List α) {e : Int} {al al' : List Arc} {ws : Int → List α}
end
end Go.Ap.Vg

namespace Go.Ap.Vg
/-- the check of a set, number by number -/
def setGo : Option Int → List Int → Int
  | _, [] => 0
  | p, x :: r => if x < 0 ∨ 63 < x then 2 else if (∃ q, p = some q ∧ x ≤ q) then 10 else setGo (some x) r
theorem setGo_zero : ∀ {l : List Int} {p : Option Int}, setGo p l = 0 ↔ (∀ x ∈ l, 0 ≤ x ∧ x ≤ 63) ∧ l.Pairwise (· < ·) ∧ ∀ q, p = some q → ∀ x ∈ l, q < x
  | [], p => by simp [setGo]
  | x :: r, p => by
    unfold setGo
    by_cases h1 : x < 0 ∨ 63 < x
    · rw [if_pos h1]
      refine ⟨fun h => by omega, fun h => ?_⟩
      have := h.1 x (List.mem_cons_self ..)
      omega
    · rw [if_neg h1]
      by_cases h2 : ∃ q, p = some q ∧ x ≤ q
      · rw [if_pos h2]
        refine ⟨fun h => by omega, fun h => ?_⟩
        obtain ⟨q, hq, hx⟩ := h2
        have := h.2.2 q hq x (List.mem_cons_self ..)
        omega
      · rw [if_neg h2, setGo_zero (l := r) (p := some x)]
        constructor
        · rintro ⟨g1, g2, g3⟩
          refine ⟨fun y hy => ?_, List.pairwise_cons.2 ⟨fun y hy => g3 x rfl y hy, g2⟩, fun q hq y hy => ?_⟩
          · rcases List.mem_cons.1 hy with rfl | hy
            · omega
            · exact g1 y hy
          · have hqx : q < x := by
              rcases Int.lt_or_le q x with h | h
              · exact h
              · exact absurd ⟨q, hq, h⟩ h2
            rcases List.mem_cons.1 hy with rfl | hy
            · exact hqx
            · have := g3 x rfl y hy
              omega
        · rintro ⟨g1, g2, g3⟩
          rw [List.pairwise_cons] at g2
          exact ⟨fun y hy => g1 y (List.mem_cons_of_mem _ hy), g2.2, fun q hq y hy => by cases hq; exact g2.1 y hy⟩
instance (x y : En) : Decidable (ltE x y) := by unfold ltE; exact inferInstance
/-- the check of an arc behind another one -/
def arcC (n : Int) (p : Option En) (a : Arc) : Int :=
  if a.1.1 < 0 ∨ n ≤ a.1.1 ∨ a.1.2 < 0 ∨ n ≤ a.1.2 then 2
  else if a.1.2 ≤ a.1.1 ∨ (∃ q, p = some q ∧ ¬ltE q a.1) then 10
  else if a.2 = [] ∨ setGo none a.2 ≠ 0 ∨ 32 ≤ a.2.getLastD 0 then 1 else 0
/-- .. of all -/
def arcsGo (n : Int) : Option En → List Arc → Int
  | _, [] => 0
  | p, a :: r => if arcC n p a ≠ 0 then arcC n p a else arcsGo n (some a.1) r
theorem arcC_zero {n : Int} {p : Option En} {a : Arc} : arcC n p a = 0 ↔ (0 ≤ a.1.1 ∧ a.1.1 < a.1.2 ∧ a.1.2 < n) ∧ (∀ q, p = some q → ltE q a.1) ∧ a.2.Pairwise (· < ·) ∧ a.2 ≠ [] ∧ ∀ s ∈ a.2, 0 ≤ s ∧ s < 32 := by
  unfold arcC
  by_cases h1 : a.1.1 < 0 ∨ n ≤ a.1.1 ∨ a.1.2 < 0 ∨ n ≤ a.1.2
  · rw [if_pos h1]
    exact ⟨fun h => by omega, fun h => by omega⟩
  · rw [if_neg h1]
    by_cases h2 : a.1.2 ≤ a.1.1 ∨ (∃ q, p = some q ∧ ¬ltE q a.1)
    · rw [if_pos h2]
      refine ⟨fun h => by omega, fun h => ?_⟩
      rcases h2 with h2 | ⟨q, hq, h2⟩
      · omega
      · exact absurd (h.2.1 q hq) h2
    · rw [if_neg h2]
      have h3 : ∀ q, p = some q → ltE q a.1 := fun q hq => by
        by_cases h : ltE q a.1
        · exact h
        · exact absurd (.inr ⟨q, hq, h⟩) h2
      have hlast : a.2.Pairwise (· < ·) → a.2 ≠ [] → (a.2.getLastD 0 < 32 ↔ ∀ s ∈ a.2, s < 32) := fun hp hne => by
        have hl : a.2.getLastD 0 = a.2.getLast hne := by
          rw [List.getLastD_eq_getLast?, List.getLast?_eq_some_getLast hne]
          rfl
        rw [hl]
        constructor
        · intro h s hs
          obtain ⟨m, hm⟩ := List.getLast?_eq_some_iff.1 (List.getLast?_eq_some_getLast hne)
          rw [hm] at hs hp
          rw [List.pairwise_append] at hp
          rcases List.mem_append.1 hs with hs | hs
          · have := hp.2.2 s hs _ (List.mem_singleton.2 rfl)
            omega
          · rw [List.mem_singleton] at hs
            omega
        · exact fun h => h _ (List.getLast_mem hne)
      by_cases h4 : a.2 = [] ∨ setGo none a.2 ≠ 0 ∨ 32 ≤ a.2.getLastD 0
      · rw [if_pos h4]
        refine ⟨fun h => by omega, fun h => ?_⟩
        exfalso
        rcases h4 with h4 | h4 | h4
        · exact h.2.2.2.1 h4
        · exact h4 (setGo_zero.2 ⟨fun s hs => by have := h.2.2.2.2 s hs; omega, h.2.2.1, fun q hq => by cases hq⟩)
        · have := (hlast h.2.2.1 h.2.2.2.1).2 fun s hs => (h.2.2.2.2 s hs).2
          omega
      · rw [if_neg h4]
        have h5 : a.2 ≠ [] := fun h => h4 (.inl h)
        have h6 : setGo none a.2 = 0 := by
          by_cases h : setGo none a.2 = 0
          · exact h
          · exact absurd (.inr (.inl h)) h4
        have h7 := setGo_zero.1 h6
        refine ⟨fun _ => ⟨by omega, h3, h7.2.1, h5, fun s hs => ⟨(h7.1 s hs).1, (hlast h7.2.1 h5).1 (by
          rcases Int.lt_or_le (a.2.getLastD 0) 32 with h | h
          · exact h
          · exact absurd (.inr (.inr h)) h4) s hs⟩⟩, fun _ => rfl⟩
theorem arcsGo_zero {n : Int} : ∀ {l : List Arc} {p : Option En}, arcsGo n p l = 0 ↔ (∀ a ∈ l, (0 ≤ a.1.1 ∧ a.1.1 < a.1.2 ∧ a.1.2 < n) ∧ a.2.Pairwise (· < ·) ∧ a.2 ≠ [] ∧ ∀ s ∈ a.2, 0 ≤ s ∧ s < 32) ∧ l.Pairwise (fun a b => ltE a.1 b.1) ∧ ∀ q, p = some q → ∀ a ∈ l, ltE q a.1
  | [], p => by simp [arcsGo]
  | a :: r, p => by
    unfold arcsGo
    by_cases h : arcC n p a = 0
    · rw [if_neg (by simp [h]), arcsGo_zero (l := r)]
      have h1 := arcC_zero.1 h
      constructor
      · rintro ⟨g1, g2, g3⟩
        refine ⟨fun b hb => ?_, List.pairwise_cons.2 ⟨fun b hb => g3 _ rfl b hb, g2⟩, fun q hq b hb => ?_⟩
        · rcases List.mem_cons.1 hb with rfl | hb
          · exact ⟨h1.1, h1.2.2.1, h1.2.2.2⟩
          · exact g1 b hb
        · rcases List.mem_cons.1 hb with rfl | hb
          · exact h1.2.1 q hq
          · exact (h1.2.1 q hq).trans (g3 _ rfl b hb)
      · rintro ⟨g1, g2, g3⟩
        rw [List.pairwise_cons] at g2
        exact ⟨fun b hb => g1 b (List.mem_cons_of_mem _ hb), g2.2, fun q hq b hb => by cases hq; exact g2.1 b hb⟩
    · rw [if_pos h]
      refine ⟨fun h2 => absurd h2 h, fun g => absurd (arcC_zero.2 ?_) h⟩
      have g1 := g.1 a (List.mem_cons_self ..)
      exact ⟨g1.1, fun q hq => g.2.2 q hq a (List.mem_cons_self ..), g1.2⟩
/-- the words: empty at the ends, and there alone -/
def wordsOk {α : Type} (ws : List (List α)) : Prop := ∀ i (h : i < ws.length), ws[i] = [] ↔ i = 0 ∨ i + 1 = ws.length
open Classical in
/-- the check of a graph -/
noncomputable def chkG {α : Type} (ws : List (List α)) (al : List Arc) : Int :=
  if ws.length < 2 then 5 else if 4096 < ws.length ∨ 65536 < al.length then 4 else if ¬wordsOk ws then 1
  else if arcsGo ws.length none al ≠ 0 then arcsGo ws.length none al else if Flows ((ws.length : Int) - 1) al then 0 else 17
theorem chkG_zero {α : Type} {ws : List (List α)} {al : List Arc} : chkG ws al = 0 ↔ 2 ≤ ws.length ∧ ws.length ≤ 4096 ∧ al.length ≤ 65536 ∧ wordsOk ws ∧ ValidG ((ws.length : Int) - 1) al ∧ ∀ a ∈ al, ∀ s ∈ a.2, 0 ≤ s ∧ s < 32 := by
  unfold chkG
  by_cases h1 : ws.length < 2
  · rw [if_pos h1]; exact ⟨fun h => by omega, fun h => by omega⟩
  rw [if_neg h1]
  by_cases h2 : 4096 < ws.length ∨ 65536 < al.length
  · rw [if_pos h2]; exact ⟨fun h => by omega, fun h => by omega⟩
  rw [if_neg h2]
  by_cases h3 : wordsOk ws
  · rw [if_neg (fun h => h h3)]
    by_cases h4 : arcsGo ws.length none al = 0
    · rw [if_neg (fun h => h h4)]
      have h5 := arcsGo_zero.1 h4
      by_cases h6 : Flows ((ws.length : Int) - 1) al
      · rw [if_pos h6]
        refine ⟨fun _ => ⟨by omega, by omega, by omega, h3, ?_, fun a ha => (h5.1 a ha).2.2.2⟩, fun _ => rfl⟩
        exact ValidG.of_check (by omega) (fun a ha => by have := (h5.1 a ha).1; omega) (fun i h => List.pairwise_iff_getElem.1 h5.2.1 i (i + 1) (by omega) h (by omega)) (fun a ha => (h5.1 a ha).2) h6
      · rw [if_neg h6]
        exact ⟨fun h => by omega, fun h => absurd h.2.2.2.2.1.flows h6⟩
    · rw [if_pos h4]
      refine ⟨fun h => absurd h h4, fun h => absurd (arcsGo_zero.2 ⟨fun a ha => ?_, h.2.2.2.2.1.asc, fun q hq => by cases hq⟩) h4⟩
      have V := h.2.2.2.2.1
      have := V.rng a ha
      exact ⟨by omega, (V.src a ha).1, (V.src a ha).2, h.2.2.2.2.2 a ha⟩
  · rw [if_pos h3]
    exact ⟨fun h => by omega, fun h => absurd h.2.2.2.1 h3⟩
end Go.Ap.Vg

namespace Go.Ap.Vg
theorem AllS.unique {al : List Arc} {l m : List Int} (h : AllS al l) (h' : AllS al m) : l = m :=
  List.Perm.eq_of_pairwise (le := (· < ·)) (fun a b _ _ h1 h2 => by omega) h.asc h'.asc ((List.perm_ext_iff_of_nodup (asc_nodup h.asc) (asc_nodup h'.asc)).2 fun s => (h.all s).trans (h'.all s).symm)
/-- the words on the path of a source -/
def spellW {α : Type} (ws : List (List α)) (al : List Arc) (s : Int) : List (List α) := ((walkA s 0 al).filter fun k => decide (k < (ws.length : Int) - 1)).map fun k => ws.getD k.toNat []
/-- a step of the program's path, one of the reference's -/
theorem walkA_cons (s p : Int) (a : Arc) (r : List Arc) : walkA s p (a :: r) = if a.1.1 = p ∧ s ∈ a.2 then a.1.2 :: walkA s a.1.2 r else walkA s p r := rfl
theorem walkP_cons (e s p : Int) (a : Arc) (r : List Arc) : walkP e s p (a :: r) = if a.1.1 = p ∧ s ∈ a.2 then (if a.1.2 = e then [] else a.1.2 :: walkP e s a.1.2 r) else walkP e s p r := rfl
theorem ValidG.walkP_eq {e : Int} {al : List Arc} (V : ValidG e al) (s : Int) : walkP e s 0 al = (walkA s 0 al).filter fun k => decide (k < e) :=
  walk_eq fun a ha => ⟨(V.rng a ha).2.1, (V.rng a ha).2.2⟩
end Go.Ap.Vg
