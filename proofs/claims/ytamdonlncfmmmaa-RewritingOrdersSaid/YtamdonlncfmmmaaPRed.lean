/-
  Steps end; what any order leads to; one normal string where steps that part come together again. Plain words.
-/
import Derived.Test.YtamdonlncfmmmaaPAll
namespace Go.Ap

theorem right_ok {x : Rule} (h : rightB x = 0) : x.1 ≠ [] ∧ x.2 ≠ [] ∧ x.1.length ≤ 64 ∧ x.2.length ≤ 64 ∧ wordB x.1 = true ∧ wordB x.2 = true ∧ (x.2.length < x.1.length ∨ (x.2.length = x.1.length ∧ x.2 < x.1)) := by
  unfold rightB at h
  split at h
  · cases h
  split at h
  · cases h
  split at h
  · cases h
  split at h
  · cases h
  rename_i h1 h2 h3 h4
  rw [not_or] at h1 h2 h3 h4
  refine ⟨h1.1, h1.2, by omega, by omega, by simpa using h3.1, by simpa using h3.2, ?_⟩
  rcases Nat.lt_or_ge x.2.length x.1.length with h | h
  · exact .inl h
  · have he : x.2.length = x.1.length := by omega
    by_cases hl : x.2 < x.1
    · exact .inr ⟨he, hl⟩
    · exact absurd ⟨he, hl⟩ h4.2
theorem bad_all : ∀ {rs : List Rule}, badR rs = 0 → ∀ r ∈ rs, rightB r = 0
  | [], _ => fun r hr => by cases hr
  | x :: rs, h => by
    rw [badR] at h
    split at h
    · rename_i hx
      intro r hr
      rcases List.mem_cons.1 hr with rfl | hr
      · exact hx
      · exact bad_all h r hr
    · rename_i hx; exact absurd h hx
theorem chk_all {rs : List Rule} (h : chkR rs = 0) : ∀ r ∈ rs, rightB r = 0 := by
  unfold chkR at h
  split at h
  · cases h
  · exact bad_all h

/-- what a step is -/
theorem mem_res {rs : List Rule} {s y : Str} : y ∈ resL rs s ↔ ∃ i r, i < s.length ∧ r ∈ rs ∧ appl s i r = some y := by
  unfold resL resAt
  simp only [List.mem_flatMap, List.mem_range, List.mem_filterMap]
  constructor
  · rintro ⟨i, hi, r, hr, h⟩; exact ⟨i, r, hi, hr, h⟩
  · rintro ⟨i, r, hi, hr, h⟩; exact ⟨i, hi, r, hr, h⟩
theorem appl_split {s y : Str} {i : Nat} {r : Rule} (hi : i ≤ s.length) (h : appl s i r = some y) : ∃ a b, a.length = i ∧ s = a ++ (r.1 ++ b) ∧ y = a ++ (r.2 ++ b) := by
  unfold appl at h
  split at h
  · rename_i hp
    injection h with h
    rw [List.isPrefixOf_iff_prefix] at hp
    obtain ⟨b, hb⟩ := hp
    refine ⟨s.take i, b, by simp; omega, by rw [hb, List.take_append_drop], ?_⟩
    have : s.drop (i + r.1.length) = b := by rw [← List.drop_drop, ← hb, List.drop_left]
    rw [← h, this, List.append_assoc]
  · cases h
theorem appl_of (a b : Str) (r : Rule) : appl (a ++ (r.1 ++ b)) a.length r = some (a ++ (r.2 ++ b)) := by
  unfold appl
  rw [List.drop_left, if_pos (by rw [List.isPrefixOf_iff_prefix]; exact List.prefix_append _ _), List.take_left, ← List.drop_drop, List.drop_left, List.drop_left, List.append_assoc]
/-- a rule's left side is not empty -/
def Ne (rs : List Rule) : Prop := ∀ r ∈ rs, r.1 ≠ []
theorem ne_chk {rs : List Rule} (h : chkR rs = 0) : Ne rs := fun r hr => (right_ok (chk_all h r hr)).1
theorem mem_res' {rs : List Rule} (hn : Ne rs) {s y : Str} : y ∈ resL rs s ↔ ∃ a b r, r ∈ rs ∧ s = a ++ (r.1 ++ b) ∧ y = a ++ (r.2 ++ b) := by
  rw [mem_res]
  constructor
  · rintro ⟨i, r, hi, hr, h⟩
    obtain ⟨a, b, _, h1, h2⟩ := appl_split (Nat.le_of_lt hi) h
    exact ⟨a, b, r, hr, h1, h2⟩
  · rintro ⟨a, b, r, hr, rfl, rfl⟩
    refine ⟨a.length, r, ?_, hr, appl_of a b r⟩
    have := List.length_pos_iff.2 (hn r hr)
    simp only [List.length_append]; omega
theorem res_ctx {rs : List Rule} (hn : Ne rs) {s y : Str} (a b : Str) (h : y ∈ resL rs s) : a ++ (y ++ b) ∈ resL rs (a ++ (s ++ b)) := by
  obtain ⟨c, d, r, hr, rfl, rfl⟩ := (mem_res' hn).1 h
  exact (mem_res' hn).2 ⟨a ++ c, d ++ b, r, hr, by simp, by simp⟩

/-- the number of a string -/
def valN : Str → Nat
  | [] => 0
  | c :: s => c.toNat * 256 ^ s.length + valN s
def num (s : Str) : Nat := 256 ^ s.length + valN s
theorem valN_lt : ∀ s : Str, valN s < 256 ^ s.length
  | [] => by simp [valN]
  | c :: s => by
    have h1 := valN_lt s
    have h2 : c.toNat ≤ 255 := by have := c.toNat_lt; omega
    have h3 : c.toNat * 256 ^ s.length ≤ 255 * 256 ^ s.length := Nat.mul_le_mul_right _ h2
    simp only [valN, List.length_cons, Nat.pow_succ]
    omega
theorem valN_append : ∀ a b : Str, valN (a ++ b) = valN a * 256 ^ b.length + valN b
  | [], b => by simp [valN]
  | c :: a, b => by
    simp only [List.cons_append, valN, valN_append a b, List.length_append, Nat.pow_add, Nat.add_mul, Nat.mul_assoc, Nat.add_assoc]
theorem valN_lex : ∀ {v u : Str}, v.length = u.length → v < u → valN v < valN u
  | [], [], _, h => by simp at h
  | [], _ :: _, h, _ => by simp at h
  | _ :: _, [], h, _ => by simp at h
  | c :: v, d :: u, h, hl => by
    simp only [List.length_cons, Nat.add_right_cancel_iff] at h
    have h1 := valN_lt v
    rw [List.cons_lt_cons_iff] at hl
    simp only [valN, h]
    rw [h] at h1
    rcases hl with hl | ⟨rfl, hl⟩
    · have h2 : c.toNat + 1 ≤ d.toNat := UInt8.lt_iff_toNat_lt.1 hl
      have h3 := Nat.mul_le_mul_right (256 ^ u.length) h2
      rw [Nat.add_mul, Nat.one_mul] at h3
      omega
    · have := valN_lex h hl
      omega
theorem num_short {x y : Str} (h : x.length < y.length) : num x < num y := by
  have h1 := valN_lt x
  have h2 : 256 ^ (x.length + 1) ≤ 256 ^ y.length := Nat.pow_le_pow_right (by omega) h
  rw [Nat.pow_succ] at h2
  unfold num
  omega
/-- each rule makes less -/
def Dec (rs : List Rule) : Prop := ∀ r ∈ rs, r.2.length < r.1.length ∨ (r.2.length = r.1.length ∧ r.2 < r.1)
theorem dec_chk {rs : List Rule} (h : chkR rs = 0) : Dec rs := fun r hr => (right_ok (chk_all h r hr)).2.2.2.2.2.2
theorem lex_ctx : ∀ {a b v u : Str}, v.length = u.length → v < u → a ++ (v ++ b) < a ++ (u ++ b)
  | [], b, [], [], _, h => by simp at h
  | [], b, [], _ :: _, h, _ => by simp at h
  | [], b, _ :: _, [], h, _ => by simp at h
  | [], b, c :: v, d :: u, h, hl => by
    simp only [List.length_cons, Nat.add_right_cancel_iff] at h
    rw [List.cons_lt_cons_iff] at hl
    simp only [List.nil_append, List.cons_append]
    rw [List.cons_lt_cons_iff]
    rcases hl with hl | ⟨rfl, hl⟩
    · exact .inl hl
    · exact .inr ⟨rfl, lex_ctx (a := []) h hl⟩
  | c :: a, b, v, u, h, hl => by
    simp only [List.cons_append]
    rw [List.cons_lt_cons_iff]
    exact .inr ⟨rfl, lex_ctx (a := a) h hl⟩
theorem step_less {rs : List Rule} (hd : Dec rs) {s y : Str} (h : y ∈ resL rs s) : y.length < s.length ∨ (y.length = s.length ∧ y < s) := by
  obtain ⟨i, r, hi, hr, h⟩ := mem_res.1 h
  obtain ⟨a, b, _, rfl, rfl⟩ := appl_split (Nat.le_of_lt hi) h
  simp only [List.length_append]
  rcases hd r hr with h | ⟨h, hl⟩
  · exact .inl (by omega)
  · exact .inr ⟨by omega, lex_ctx h hl⟩
theorem step_num {rs : List Rule} (hd : Dec rs) {s y : Str} (h : y ∈ resL rs s) : num y < num s := by
  rcases step_less hd h with h | ⟨h, hl⟩
  · exact num_short h
  · have := valN_lex h hl
    unfold num
    rw [h]; omega

/-- any number of steps -/
inductive Red (rs : List Rule) : Str → Str → Prop
  | refl (x : Str) : Red rs x x
  | step {x y z : Str} (h : y ∈ resL rs x) (t : Red rs y z) : Red rs x z
section
variable {rs : List Rule} {s x y z : Str}
theorem Red.trans (h : Red rs x y) (k : Red rs y z) : Red rs x z := by
  induction h with
  | refl => exact k
  | step h _ ih => exact .step h (ih k)
theorem Red.one (h : y ∈ resL rs x) : Red rs x y := .step h (.refl y)
theorem Red.ctx (hn : Ne rs) (a b : Str) (h : Red rs x y) : Red rs (a ++ (x ++ b)) (a ++ (y ++ b)) := by
  induction h with
  | refl => exact .refl _
  | step h _ ih => exact .step (res_ctx hn a b h) ih
theorem Red.nf (h : Red rs x y) (hx : resL rs x = []) : y = x := by
  cases h with
  | refl => rfl
  | step h _ => rw [hx] at h; cases h
theorem red_nf (hd : Dec rs) : ∀ (n : Nat) (x : Str), num x ≤ n → ∃ y, Red rs x y ∧ resL rs y = []
  | n, x, hn => by
    by_cases h : resL rs x = []
    · exact ⟨x, .refl x, h⟩
    · obtain ⟨y, hy⟩ := List.exists_mem_of_ne_nil _ h
      have h1 := step_num hd hy
      match n, hn with
      | 0, hn => omega
      | n + 1, hn =>
        obtain ⟨z, h2, h3⟩ := red_nf hd n y (by omega)
        exact ⟨z, .step hy h2, h3⟩
/-- steps that part come together again -/
def LocC (rs : List Rule) : Prop := ∀ x y z, y ∈ resL rs x → z ∈ resL rs x → ∃ t, Red rs y t ∧ Red rs z t
theorem newman (hd : Dec rs) (hl : LocC rs) : ∀ (n : Nat) (x y z : Str), num x ≤ n → Red rs x y → resL rs y = [] → Red rs x z → resL rs z = [] → y = z
  | n, x, y, z, hn, hy, ny, hz, nz => by
    cases hy with
    | refl => exact (hz.nf ny).symm
    | step h1 hy =>
      cases hz with
      | refl => rw [nz] at h1; cases h1
      | step h2 hz =>
        have l1 := step_num hd h1
        have l2 := step_num hd h2
        match n, hn with
        | 0, hn => omega
        | n + 1, hn =>
          obtain ⟨t, t1, t2⟩ := hl _ _ _ h1 h2
          obtain ⟨m, t3, nm⟩ := red_nf hd _ t (Nat.le_refl _)
          exact (newman hd hl n _ _ _ (by omega) hy ny (t1.trans t3) nm).trans (newman hd hl n _ _ _ (by omega) (t2.trans t3) nm hz nz)

/-- where the search stands, and what it has seen -/
structure Seen (rs : List Rule) (s : Str) (i : Nat) (L N : List Str) : Prop where
  nd : L.Nodup
  il : i ≤ L.length
  rd : ∀ x ∈ L, Red rs s x
  st : s ∈ L
  cl : ∀ x ∈ L.take i, ∀ y ∈ resL rs x, y ∈ L
  nm : ∀ y, y ∈ N ↔ y ∈ L.take i ∧ resL rs y = []
  nn : N.Nodup
theorem Seen.next {i : Nat} {L N : List Str} (h : Seen rs s i L N) (hx : L[i]? = some x) : Seen rs s (i + 1) (expandL L (resL rs x)) (if resL rs x = [] then N ++ [x] else N) := by
  have hi := (List.getElem?_eq_some_iff.1 hx).1
  have hpre := expandL_pre (L := L) (ys := resL rs x)
  have hlen := hpre.length_le
  obtain ⟨t, ht⟩ := hpre
  have htake1 : (expandL L (resL rs x)).take (i + 1) = L.take i ++ [x] := by rw [← ht, List.take_append_of_le_length (by omega), take_succ_of hx]
  have hxm : x ∈ L := List.mem_of_getElem? hx
  have hxt : x ∉ L.take i := fun hm => by
    obtain ⟨j, hj⟩ := List.getElem?_of_mem hm
    rw [List.getElem?_take] at hj
    split at hj
    · rename_i hji
      obtain ⟨hj1, hj2⟩ := List.getElem?_eq_some_iff.1 hj
      obtain ⟨hi1, hi2⟩ := List.getElem?_eq_some_iff.1 hx
      exact (List.pairwise_iff_getElem.1 h.nd) j i hj1 hi1 hji (hj2.trans hi2.symm)
    · cases hj
  refine ⟨expandL_nodup h.nd, by omega, ?_, mem_expandL.2 (.inl h.st), ?_, ?_, ?_⟩
  · intro y hy
    rcases mem_expandL.1 hy with hy | hy
    · exact h.rd y hy
    · exact (h.rd x hxm).trans (.one hy)
  · rw [htake1]
    intro u hu y hy
    rcases List.mem_append.1 hu with hu | hu
    · exact mem_expandL.2 (.inl (h.cl u hu y hy))
    · rw [List.mem_singleton] at hu
      subst hu
      exact mem_expandL.2 (.inr hy)
  · intro y
    rw [htake1, List.mem_append, List.mem_singleton]
    split
    · rename_i hz
      rw [List.mem_append, List.mem_singleton, h.nm]
      constructor
      · rintro (⟨h1, h2⟩ | rfl)
        · exact ⟨.inl h1, h2⟩
        · exact ⟨.inr rfl, hz⟩
      · rintro ⟨h1 | h1, h2⟩
        · exact .inl ⟨h1, h2⟩
        · exact .inr h1
    · rename_i hz
      rw [h.nm]
      constructor
      · rintro ⟨h1, h2⟩; exact ⟨.inl h1, h2⟩
      · rintro ⟨h1 | h1, h2⟩
        · exact ⟨h1, h2⟩
        · subst h1; exact absurd h2 hz
  · split
    · rw [List.nodup_append]
      refine ⟨h.nn, by simp, fun a ha b hb => ?_⟩
      rw [List.mem_singleton] at hb
      subst hb
      exact fun e => hxt (e ▸ ((h.nm a).1 ha).1)
    · exact h.nn
theorem bfs_seen : ∀ {f i : Nat} {L N M : List Str}, bfsF rs f i L N = some M → Seen rs s i L N → ∃ j L', L'[j]? = none ∧ Seen rs s j L' M
  | 0, _, _, _, _, h, _ => by rw [bfsF] at h; cases h
  | f + 1, i, L, N, M, h, hs => by
    rw [bfsF] at h
    split at h
    · rename_i hn
      injection h with h
      subst h
      exact ⟨i, L, hn, hs⟩
    · rename_i x hx
      split at h
      · cases h
      · exact bfs_seen h (hs.next hx)
/-- what the search finds: the normal strings that any order leads to, each once -/
theorem normals_iff {N : List Str} (h : normalsL rs s = some N) : N.Nodup ∧ ∀ y, y ∈ N ↔ Red rs s y ∧ resL rs y = [] := by
  obtain ⟨j, L, hj, hs⟩ := bfs_seen (s := s) h ⟨by simp, by simp, fun x hx => by rw [List.mem_singleton] at hx; subst hx; exact .refl _, by simp, by simp, by simp, by simp⟩
  have hjl : L.take j = L := List.take_of_length_le (List.getElem?_eq_none_iff.1 hj)
  refine ⟨hs.nn, fun y => ?_⟩
  rw [hs.nm, hjl]
  refine ⟨fun ⟨h1, h2⟩ => ⟨hs.rd y h1, h2⟩, fun ⟨h1, h2⟩ => ⟨?_, h2⟩⟩
  have hcl := hs.cl
  rw [hjl] at hcl
  have : ∀ {a b : Str}, Red rs a b → a ∈ L → b ∈ L := fun hr => by
    induction hr with
    | refl => exact id
    | step h _ ih => exact fun ha => ih (hcl _ ha _ h)
  exact this h1 hs.st
theorem all_iff {l : List Str} (h : allE rs s = (0, l)) : (∀ y, y ∈ l ↔ Red rs s y ∧ resL rs y = []) ∧ l.Nodup ∧ l.Pairwise (· ≤ ·) := by
  unfold allE at h
  split at h
  · rename_i N hN
    injection h with _ h
    subst h
    obtain ⟨h1, h2⟩ := normals_iff hN
    exact ⟨fun y => by rw [(sortS_perm N).mem_iff]; exact h2 y, (sortS_perm N).nodup_iff.2 h1, sortS_sorted N⟩
  · cases h
theorem allE_rng (rs : List Rule) (s : Str) : (allE rs s).1 = 0 ∨ (allE rs s).1 = 4 := by
  unfold allE
  split
  · exact .inl rfl
  · exact .inr rfl
theorem all_ne (hd : Dec rs) {l : List Str} (h : allE rs s = (0, l)) : l ≠ [] := by
  obtain ⟨y, h1, h2⟩ := red_nf hd _ s (Nat.le_refl _)
  exact List.ne_nil_of_mem ((all_iff h).1 y |>.2 ⟨h1, h2⟩)
theorem stepL_mem (h : (stepL rs s).2 = true) : (stepL rs s).1 ∈ resL rs s := by
  unfold stepL at h ⊢
  split
  · rename_i e; rw [e] at h; cases h
  · rename_i e; rw [e]; exact List.mem_cons_self
theorem stepL_nf (h : (stepL rs s).2 = false) : resL rs s = [] ∧ (stepL rs s).1 = s := by
  unfold stepL at h ⊢
  split
  · rename_i e; exact ⟨e, rfl⟩
  · rename_i e; rw [e] at h; cases h
theorem stepL_of (h : resL rs s = []) : stepL rs s = (s, false) := by
  unfold stepL
  rw [h]
/-- what a trace is -/
theorem trace_is : ∀ {f : Nat} {s : Str} {l : List Str}, traceF rs f s = some l → l[0]? = some s ∧ (∀ i x y, l[i]? = some x → l[i + 1]? = some y → stepL rs x = (y, true)) ∧ (∃ z, l.getLast? = some z ∧ resL rs z = [] ∧ Red rs s z) ∧ l.length ≤ f + 1
  | f, s, l, h => by
    by_cases hs : (stepL rs s).2 = true
    · match f, h with
      | 0, h => rw [traceF, if_pos hs] at h; cases h
      | f + 1, h =>
        rw [traceF, if_pos hs] at h
        obtain ⟨t, ht, rfl⟩ := Option.map_eq_some_iff.1 h
        obtain ⟨h1, h2, ⟨z, h3, h4, h5⟩, h6⟩ := trace_is ht
        refine ⟨rfl, ?_, ⟨z, ?_, h4, .step (stepL_mem hs) h5⟩, by simpa using h6⟩
        · intro i x y hx hy
          match i, hx, hy with
          | 0, hx, hy =>
            simp only [List.getElem?_cons_zero, List.getElem?_cons_succ, Option.some.injEq, Nat.zero_add] at hx hy
            subst hx
            rw [h1] at hy
            injection hy with hy
            subst hy
            rw [← hs]
          | i + 1, hx, hy => exact h2 i x y (by simpa using hx) (by simpa using hy)
        · match t, h3 with
          | [], h3 => cases h3
          | a :: t, h3 => rw [List.getLast?_cons_cons]; exact h3
    · have hs' : (stepL rs s).2 = false := by simpa using hs
      have : l = [s] := by
        match f, h with
        | 0, h => rw [traceF, if_neg hs] at h; injection h with h; exact h.symm
        | f + 1, h => rw [traceF, if_neg hs] at h; injection h with h; exact h.symm
      subst this
      exact ⟨rfl, fun i x y _ hy => by simp at hy, ⟨s, rfl, (stepL_nf hs').1, .refl s⟩, by simp⟩
end
/-- steps keep words -/
theorem word_append (a b : Str) : wordB (a ++ b) = (wordB a && wordB b) := by simp [wordB, List.all_append]
theorem word_step {rs : List Rule} (h : chkR rs = 0) {s y : Str} (hs : wordB s = true) (hy : y ∈ resL rs s) : wordB y = true := by
  obtain ⟨a, b, r, hr, rfl, rfl⟩ := (mem_res' (ne_chk h)).1 hy
  have := (right_ok (chk_all h r hr)).2.2.2.2.2.1
  simp only [word_append, Bool.and_eq_true] at hs ⊢
  exact ⟨hs.1, this, hs.2.2⟩
theorem word_red {rs : List Rule} (h : chkR rs = 0) {s y : Str} (hr : Red rs s y) : wordB s = true → y.length ≤ s.length ∧ wordB y = true := by
  induction hr with
  | refl => exact fun h => ⟨Nat.le_refl _, h⟩
  | step h1 _ ih =>
    intro hs
    have h2 := ih (word_step h hs h1)
    have h3 := resL_len (val_of h) h1
    exact ⟨by omega, h2.2⟩
theorem chkW_of {rs : List Rule} {s : Str} (h : chkR rs = 0) (hl : s.length ≤ 64) (hw : wordB s = true) : chkW rs s = 0 := by
  unfold chkW
  rw [if_neg (by simpa using h), if_neg (by omega), if_neg (by simp [hw])]
end Go.Ap
