/-
  Normal forms, traces, confluence, critical words: what the laws ask, in plain words.
-/
import Derived.Test.YtamdonlncfmmmaaPLaw
namespace Go.Proofs.Ytamdonlncfmmmaa
open Go.RowKit Go.Ap Go.Shelf Go.Proofs

section
variable {rs : List Rule} {s : Str}
theorem trE_rng (h : chkW rs s = 0) : (TrE rs s).1 = 0 ∨ (TrE rs s).1 = 4 := by
  unfold TrE
  rw [if_pos h]
  unfold traceE
  split
  · exact .inl rfl
  · exact .inr rfl
theorem trE_is (h : chkW rs s = 0) (ht : (TrE rs s).1 = 0) : traceF rs 4095 s = some (TrE rs s).2 := by
  unfold TrE at ht ⊢
  rw [if_pos h] at ht ⊢
  unfold traceE at ht ⊢
  split
  · rename_i l hl; exact hl
  · rename_i hl; rw [hl] at ht; cases ht
theorem nfE_err (h : chkW rs s = 0) : (NfE rs s).1 = 0 ∨ ((NfE rs s).1 = 4 ∧ (NfE rs s).2 = []) := by
  unfold NfE
  split
  · exact .inl rfl
  · rename_i h0
    rcases trE_rng h with h1 | h1
    · exact absurd h1 h0
    · exact .inr ⟨h1, rfl⟩
theorem nfE_is (h : chkW rs s = 0) (h0 : (NfE rs s).1 = 0) : (TrE rs s).1 = 0 ∧ ∃ x, (NfE rs s).2 = x ∧ Red rs s x ∧ resL rs x = [] ∧ (TrE rs s).2.getLast? = some x := by
  unfold NfE at h0 ⊢
  split
  · rename_i h1
    obtain ⟨_, _, ⟨z, hz, nz, rz⟩, _⟩ := trace_is (trE_is h h1)
    refine ⟨h1, z, ?_, rz, nz, hz⟩
    show (TrE rs s).2.getLastD [] = z
    rw [List.getLastD_eq_getLast?, hz]; rfl
  · rename_i h1
    rw [if_neg h1] at h0
    exact absurd h0 h1
theorem red_chkW (h : chkW rs s = 0) {x : Str} (hr : Red rs s x) : chkW rs x = 0 := by
  obtain ⟨h1, h2, h3⟩ := chkW_ok h
  obtain ⟨h4, h5⟩ := word_red h1 hr h3
  exact chkW_of h1 (by omega) h5
theorem nfE_nf (h : chkW rs s = 0) (hn : resL rs s = []) : NfE rs s = (0, s) := by
  have h1 : TrE rs s = (0, [s]) := by
    unfold TrE
    rw [if_pos h]
    unfold traceE
    have : traceF rs 4095 s = some [s] := by
      rw [traceF, stepL_of hn]; rfl
    rw [this]
  rw [NfE, h1]; rfl
theorem allE_of (h : chkW rs s = 0) : AllE rs s = allE rs s := by rw [AllE, if_pos h]
theorem allE_split (h : chkW rs s = 0) : (∃ l, AllE rs s = (0, l) ∧ (∀ y, y ∈ l ↔ Red rs s y ∧ resL rs y = []) ∧ l.Nodup ∧ l.Pairwise (· ≤ ·) ∧ l ≠ []) ∨ AllE rs s = (4, []) := by
  rw [allE_of h]
  have h1 := (chkW_ok h).1
  cases hn : normalsL rs s with
  | none => exact .inr (by rw [allE, hn])
  | some N =>
    have he : allE rs s = (0, sortS N) := by rw [allE, hn]
    obtain ⟨h2, h3, h4⟩ := all_iff he
    exact .inl ⟨_, he, h2, h3, h4, all_ne (dec_chk h1) he⟩
theorem bfs_len : ∀ {f i : Nat} {L N M : List Str}, bfsF rs f i L N = some M → L.length ≤ 4096 → N.length ≤ i → i ≤ L.length → M.length ≤ 4096
  | 0, _, _, _, _, h, _, _, _ => by rw [bfsF] at h; cases h
  | f + 1, i, L, N, M, h, h1, h2, h3 => by
    rw [bfsF] at h
    split at h
    · injection h with h; subst h; omega
    · rename_i x hx
      have hi := (List.getElem?_eq_some_iff.1 hx).1
      have hp := (expandL_pre (L := L) (ys := resL rs x)).length_le
      split at h
      · cases h
      · refine bfs_len h (by omega) ?_ (by omega)
        split
        · simp; omega
        · omega
theorem allE_len (rs : List Rule) (s : Str) : (allE rs s).2.length ≤ 4096 := by
  unfold allE
  split
  · rename_i N hN
    rw [sortS_length]
    exact bfs_len hN (by simp) (by simp) (by simp)
  · simp
/-- RewritingForms -/
theorem forms_law (hf : fineB rs [s] = true) : (NfE rs s).1 = 4 ∨ ∃ x, NfE rs s = (0, x) ∧ x.length ≤ 10 ∧ NoE rs x = (true, 0) ∧ NfE rs x = (0, x) ∧ (AllE rs s = (4, []) ∨ ∃ l, AllE rs s = (0, l) ∧ x ∈ l ∧ l.Pairwise (· ≤ ·) ∧ l.length ≤ 4096) := by
  obtain ⟨h1, h2, _⟩ := fine_ok hf
  obtain ⟨ls, cs⟩ := h2 s (by simp)
  rcases nfE_err cs with h0 | h0
  · obtain ⟨_, x, hx, hr, hn, _⟩ := nfE_is cs h0
    have cx := red_chkW cs hr
    have lx := (word_red h1 hr (chkW_ok cs).2.2).1
    refine .inr ⟨x, by rw [← h0, ← hx], by omega, ?_, nfE_nf cx hn, ?_⟩
    · rw [noE_ok cx, step_normal.2 hn]
    · rcases allE_split cs with ⟨l, e, hl, _, hp, _⟩ | e
      · refine .inr ⟨l, e, (hl x).2 ⟨hr, hn⟩, hp, ?_⟩
        have := allE_len rs s
        rw [← allE_of cs, e] at this
        exact this
      · exact .inl e
  · exact .inl h0.1
theorem allE_conf (hj : Joins rs) (h : chkR rs = 0) {x : Str} {l : List Str} (hr : Red rs s x) (hn : resL rs x = []) (hl : ∀ y, y ∈ l ↔ Red rs s y ∧ resL rs y = []) (nd : l.Nodup) : l = [x] := by
  have hu := fun y hy => newman (dec_chk h) (loc_joins (ne_chk h) hj) _ s y x (Nat.le_refl _) ((hl y).1 hy).1 ((hl y).1 hy).2 hr hn
  have hx := (hl x).2 ⟨hr, hn⟩
  match l, nd, hu, hx with
  | [], _, _, hx => cases hx
  | [y], _, hu, _ => rw [hu y (by simp)]
  | y :: z :: l, nd, hu, _ =>
    exfalso
    have h1 := hu y (by simp)
    have h2 := hu z (by simp)
    rw [h1, h2] at nd
    simp at nd
/-- one normal string each -/
theorem conL_true : ∀ {l : List Trip} {is : Bool}, conL rs l is = (true, 0) → is = true ∧ ∀ z ∈ l, ∃ m, allE rs z.1 = (0, m) ∧ m.length = 1
  | [], is, h => by
    rw [conL] at h
    injection h with h
    exact ⟨h, fun z hz => by cases hz⟩
  | z :: l, is, h => by
    rw [conL] at h
    split at h
    · rename_i h0
      obtain ⟨h1, h2⟩ := conL_true h
      simp only [Bool.and_eq_true, decide_eq_true_eq] at h1
      refine ⟨h1.1, fun y hy => ?_⟩
      rcases List.mem_cons.1 hy with rfl | hy
      · exact ⟨_, Prod.ext h0 rfl, h1.2⟩
      · exact h2 y hy
    · cases h
theorem conL_rng : ∀ {l : List Trip} {is : Bool}, (conL rs l is).2 = 0 ∨ (conL rs l is).2 = 4
  | [], is => .inl rfl
  | z :: l, is => by
    rw [conL]
    split
    · exact conL_rng
    · rename_i h0
      rcases allE_rng rs z.1 with h | h
      · exact absurd h h0
      · exact .inr h
theorem crE_rng (h : chkR rs = 0) : ((CrE rs).1 = 0 ∧ (CrE rs).2 = critL rs ∧ (critL rs).length ≤ 4096) ∨ (CrE rs).1 = 4 := by
  unfold CrE
  rw [if_pos h]
  split
  · rename_i h1; exact .inl ⟨rfl, rfl, h1⟩
  · exact .inr rfl
theorem coE_rng (h : chkR rs = 0) : (CoE rs).2 = 0 ∨ (CoE rs).2 = 4 := by
  unfold CoE
  rcases crE_rng h with ⟨h1, _⟩ | h1
  · rw [if_pos h1]; exact conL_rng
  · rw [if_neg (by omega)]; exact .inr h1
theorem co_joins (h : chkR rs = 0) (hc : CoE rs = (true, 0)) : Joins rs := by
  unfold CoE at hc
  rcases crE_rng h with ⟨h1, h2, _⟩ | h1
  · rw [if_pos h1, h2] at hc
    intro z hz
    obtain ⟨m, hm, hl⟩ := (conL_true hc).2 z hz
    obtain ⟨hi, _, _⟩ := all_iff hm
    obtain ⟨x, y, b, hx, hy, hp⟩ := crit_mem hz
    obtain ⟨p1, p2⟩ := pair_res (ne_chk h) hx hy hp
    obtain ⟨t, t1, n1⟩ := red_nf (dec_chk h) _ z.2.1 (Nat.le_refl _)
    obtain ⟨u, u1, n2⟩ := red_nf (dec_chk h) _ z.2.2 (Nat.le_refl _)
    have m1 := (hi t).2 ⟨.step p1 t1, n1⟩
    have m2 := (hi u).2 ⟨.step p2 u1, n2⟩
    match m, hl, m1, m2 with
    | [k], _, m1, m2 =>
      rw [List.mem_singleton] at m1 m2
      subst m1
      subst m2
      exact ⟨_, t1, u1⟩
  · rw [if_neg (by omega), h1] at hc
    cases hc
/-- RewritingConfluence -/
theorem conf_law (hf : fineB rs [s] = true) : ∃ is e x f all g, CoE rs = (is, e) ∧ NfE rs s = (f, x) ∧ AllE rs s = (g, all) ∧ (e = 0 ∨ e = 4) ∧ (f = 0 ∨ f = 4) ∧ (g = 0 ∨ g = 4) ∧ all.length ≤ 4096 ∧
    (e = 0 → f = 0 → g = 0 → (is = true → all = [x]) ∧ 0 < all.length) := by
  obtain ⟨h1, h2, _⟩ := fine_ok hf
  obtain ⟨ls, cs⟩ := h2 s (by simp)
  refine ⟨(CoE rs).1, (CoE rs).2, (NfE rs s).2, (NfE rs s).1, (AllE rs s).2, (AllE rs s).1, rfl, rfl, rfl, coE_rng h1, ?_, ?_, ?_, ?_⟩
  · rcases nfE_err cs with h | h
    · exact .inl h
    · exact .inr h.1
  · rcases allE_split cs with ⟨l, e, _⟩ | e
    · rw [e]; exact .inl rfl
    · rw [e]; exact .inr rfl
  · rw [allE_of cs]; exact allE_len rs s
  · intro e f g
    obtain ⟨_, x, hx, hr, hn, _⟩ := nfE_is cs f
    rcases allE_split cs with ⟨l, el, hl, nd, _, ne⟩ | el
    · rw [el, hx]
      refine ⟨fun hi => ?_, List.length_pos_iff.2 ne⟩
      exact allE_conf (co_joins h1 (Prod.ext hi e)) h1 hr hn hl nd
    · rw [el] at g; cases g
end
end Go.Proofs.Ytamdonlncfmmmaa
