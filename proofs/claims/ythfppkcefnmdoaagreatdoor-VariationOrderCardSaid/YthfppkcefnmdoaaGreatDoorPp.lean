/-
  The places of a collation with its sources in another order: plain laws.
-/
import Derived.Test.YthfppkcefnmdoaaGreatDoorPo
import Derived.Test.YthfppkcefnmdoaaGreatDoorLa
namespace Go.Ap
section
variable {x : Coll} {f : Nat → Nat}
theorem reo_cell (hv : Val x) (hf : Inv x.sigla.length f) {k s : Nat} (hs : s < x.sigla.length) : cellO (reoC x f) k s = cellO x k (f s) := by
  have f2 : ∀ k, k < x.sigla.length → f k < x.tokens.length := fun k hk => by rw [hv.toks]; exact hf.lt k hk
  unfold cellO
  have e : (reoC x f).columns[k]? = (x.columns[k]?).map fun c => perL f c x.sigla.length := by unfold reoC; rw [List.getElem?_map]
  rw [e]
  cases hc : x.columns[k]? with
  | none => rfl
  | some c =>
    have hcl := (hv.somes hc).1
    simp only [Option.map_some]
    rw [perL_nth (fun k hk => by rw [hcl]; exact hf.lt k hk) hs]
    show (if _ then _ else (((perL f x.tokens x.sigla.length)[s]?).bind _).map _) = _
    rw [perL_at f2 hs]
theorem comB_iff (hn : 0 < x.sigla.length) {i : Nat} : comB x i = true ↔ ∃ u, ∀ s, s < x.sigla.length → cellO x i s = some u := by
  constructor
  · intro h
    simp only [comB, Bool.and_eq_true, List.all_eq_true, List.mem_range, decide_eq_true_eq] at h
    obtain ⟨u, hu⟩ := Option.isSome_iff_exists.1 h.1
    exact ⟨u, fun s hs => (h.2 s hs).trans hu⟩
  · rintro ⟨u, hu⟩
    exact com_yes (hu 0 hn) hu
theorem reo_sig (hf : Inv x.sigla.length f) : (reoC x f).sigla.length = x.sigla.length := perL_len hf.lt
theorem reo_com (hv : Val x) (hf : Inv x.sigla.length f) : comB (reoC x f) = comB x := by
  funext i
  have hn := hv.pos
  refine Bool.eq_iff_iff.2 ((comB_iff (by rw [reo_sig hf]; exact hn)).trans (Iff.trans ?_ (comB_iff hn).symm))
  rw [reo_sig hf]
  constructor
  · rintro ⟨u, hu⟩
    refine ⟨u, fun s hs => ?_⟩
    have := hu (f s) (hf.lt s hs)
    rwa [reo_cell hv hf (hf.lt s hs), hf.inv] at this
  · rintro ⟨u, hu⟩
    exact ⟨u, fun s hs => (reo_cell hv hf hs).trans (hu (f s) (hf.lt s hs))⟩
theorem reo_read (hv : Val x) (hf : Inv x.sigla.length f) {s : Nat} (hs : s < x.sigla.length) (lo hi : Nat) : readL (reoC x f) s lo hi = readL x (f s) lo hi := by
  unfold readL
  congr 1
  funext k
  exact reo_cell hv hf hs
end
section
variable {W W' : Nat → List Str} {n : Nat} {A B : List Rdg} {f : Nat → Nat}
theorem RdsAt.uniq (h : RdsAt W n A) {q r : Rdg} (hq : q ∈ A) (hr : r ∈ A) (he : q.1 = r.1) : q = r := by
  obtain ⟨i, hi⟩ := List.getElem?_of_mem hq
  obtain ⟨j, hj⟩ := List.getElem?_of_mem hr
  obtain ⟨hi1, hi2⟩ := List.getElem?_eq_some_iff.1 hi
  obtain ⟨hj1, hj2⟩ := List.getElem?_eq_some_iff.1 hj
  have hp := List.pairwise_iff_getElem.1 h.neq
  rcases Nat.lt_trichotomy i j with hij | hij | hij
  · exact absurd (by rw [hi2, hj2]; exact he) (hp i j hi1 hj1 hij)
  · subst hij; rw [← hi2, hj2]
  · exact absurd (by rw [hi2, hj2]; exact he.symm) (hp j i hj1 hi1 hij)
theorem RdsAt.mem (h : RdsAt W n A) {r : Rdg} (hr : r ∈ A) {z : Int} : z ∈ r.2 ↔ ∃ k : Nat, z = k ∧ k < n ∧ W k = r.1 := by
  refine ⟨(h.src r hr).2.2 z, ?_⟩
  rintro ⟨k, rfl, hk, hw⟩
  obtain ⟨q, hq, hz⟩ := h.all k hk
  obtain ⟨k', e, _, hw'⟩ := (h.src q hq).2.2 _ hz
  obtain rfl : k' = k := by omega
  rw [← h.uniq hq hr (by rw [← hw', hw])]
  exact hz
theorem RdsAt.word (h : RdsAt W n A) {r : Rdg} (hr : r ∈ A) : ∃ k, k < n ∧ W k = r.1 := by
  obtain ⟨⟨a, ha⟩, _, h2⟩ := h.src r hr
  obtain ⟨k, _, hk, hw⟩ := h2 a (List.mem_of_getElem? ha)
  exact ⟨k, hk, hw⟩
theorem RdsAt.has (h : RdsAt W n A) {k : Nat} (hk : k < n) : ∃ r ∈ A, r.1 = W k := by
  obtain ⟨q, hq, hz⟩ := h.all k hk
  obtain ⟨k', e, _, hw'⟩ := (h.src q hq).2.2 _ hz
  obtain rfl : k' = k := by omega
  exact ⟨q, hq, hw'.symm⟩
theorem RdsAt.sub (h : RdsAt W n A) (h' : RdsAt W' n B) (hf : Inv n f) (hW : ∀ s, s < n → W' s = W (f s)) : B.length ≤ A.length := by
  have hn : (B.map (·.1)).Nodup := by
    refine List.pairwise_map.2 h'.neq
  have hs : B.map (·.1) ⊆ A.map (·.1) := by
    intro u hu
    obtain ⟨r, hr, rfl⟩ := List.mem_map.1 hu
    obtain ⟨k, hk, hw⟩ := h'.word hr
    obtain ⟨q, hq, he⟩ := h.has (hf.lt k hk)
    exact List.mem_map.2 ⟨q, hq, by rw [he, ← hW k hk, hw]⟩
  simpa using hn.length_le_of_subset hs
theorem RdsAt.same (h : RdsAt W n A) (h' : RdsAt W' n B) (hf : Inv n f) (hW : ∀ s, s < n → W' s = W (f s)) : A.length = B.length :=
  Nat.le_antisymm (h'.sub h hf fun s hs => by rw [hW _ (hf.lt s hs), hf.inv]) (h.sub h' hf hW)
theorem asc_ext {xs ys : List Int} (hx : xs.Pairwise (· < ·)) (hy : ys.Pairwise (· < ·)) (h : ∀ k, k ∈ xs ↔ k ∈ ys) : xs = ys := by
  have e1 : xs.Nodup := hx.imp fun h => by omega
  have e2 : ys.Nodup := hy.imp fun h => by omega
  have hp : xs.Perm ys := (List.perm_ext_iff_of_nodup e1 e2).2 h
  exact hp.eq_of_pairwise (fun a b _ _ h1 h2 => by omega) hx hy
def sortI (xs : List Int) : List Int := xs.mergeSort fun x y => decide (x ≤ y)
theorem sortI_perm (xs : List Int) : (sortI xs).Perm xs := List.mergeSort_perm _ _
theorem sortI_pair (xs : List Int) : (sortI xs).Pairwise (· ≤ ·) := by
  have h := List.pairwise_mergeSort (le := fun (x y : Int) => decide (x ≤ y)) (fun a b c => by simp; omega) (fun a b => by simp; omega) xs
  exact h.imp (fun h => by simpa using h)
theorem sortI_asc {xs : List Int} (h : xs.Nodup) : (sortI xs).Pairwise (· < ·) := by
  have h1 : (sortI xs).Nodup := (sortI_perm xs).nodup_iff.2 h
  exact ((sortI_pair xs).and h1).imp (fun h => by omega)
/-- the sources of a reading with their old indices -/
def oldL (f : Nat → Nat) (l : List Int) : List Int := l.map fun z => ((f z.toNat : Nat) : Int)
theorem RdsAt.old (h : RdsAt W n A) (h' : RdsAt W' n B) (hf : Inv n f) (hW : ∀ s, s < n → W' s = W (f s)) {r : Rdg} (hr : r ∈ A) :
    ∃ (j : Nat) (q : Rdg), idxF (fun q : Rdg => decide (q.1 = r.1)) B = j ∧ B[j]? = some q ∧ (∀ z ∈ q.2, ∃ k : Nat, z = k ∧ k < n) ∧ sortI (oldL f q.2) = r.2 := by
  obtain ⟨k, hk, hw⟩ := h.word hr
  obtain ⟨q0, hq0, he0⟩ := h'.has (hf.lt k hk)
  have e0 : q0.1 = r.1 := by rw [he0, hW _ (hf.lt k hk), hf.inv, hw]
  rcases idxF_cases (fun q : Rdg => decide (q.1 = r.1)) B with ⟨_, hall⟩ | ⟨j, q, hj, _, hjq, hp, _⟩
  · have := hall q0 hq0
    simp [e0] at this
  · have hq := List.mem_of_getElem? hjq
    have he : q.1 = r.1 := of_decide_eq_true hp
    have hsrc := h'.src q hq
    refine ⟨j, q, hj, hjq, fun z hz => by obtain ⟨k, e, hk, _⟩ := hsrc.2.2 z hz; exact ⟨k, e, hk⟩, asc_ext (sortI_asc ?_) (h.src r hr).2.1 fun z => ?_⟩
    · refine List.pairwise_map.2 (hsrc.2.1.imp_of_mem fun {a b} ha hb hab e => ?_)
      obtain ⟨ka, rfl, _, _⟩ := hsrc.2.2 _ ha
      obtain ⟨kb, rfl, _, _⟩ := hsrc.2.2 _ hb
      simp only [Int.toNat_natCast] at e
      have e' : f ka = f kb := by omega
      have := congrArg f e'
      rw [hf.inv, hf.inv] at this
      omega
    · rw [(sortI_perm _).mem_iff, h.mem hr]
      unfold oldL
      rw [List.mem_map]
      constructor
      · rintro ⟨a, ha, rfl⟩
        obtain ⟨ka, rfl, hka, hwa⟩ := hsrc.2.2 _ ha
        exact ⟨f ka, by simp, hf.lt ka hka, by rw [← hW ka hka, hwa, he]⟩
      · rintro ⟨ka, rfl, hka, hwa⟩
        refine ⟨((f ka : Nat) : Int), (h'.mem hq).2 ⟨f ka, rfl, hf.lt ka hka, ?_⟩, by simp [hf.inv]⟩
        rw [hW _ (hf.lt ka hka), hf.inv, hwa, he]
end
/-- the places in another order of the sources -/
theorem reo_units {x : Coll} {f : Nat → Nat} (hv : Val x) (hf : Inv x.sigla.length f) :
    (unitsL (reoC x f)).length = (unitsL x).length ∧ ∀ (i : Nat) (u : Plc), (unitsL x)[i]? = some u → ∃ v : Plc, (unitsL (reoC x f))[i]? = some v ∧ v.lo = u.lo ∧ v.hi = u.hi ∧ v.rds.length = u.rds.length ∧
      ∀ r ∈ u.rds, ∃ (j : Nat) (q : Rdg), idxF (fun q : Rdg => decide (q.1 = r.1)) v.rds = j ∧ v.rds[j]? = some q ∧ (∀ z ∈ q.2, ∃ k : Nat, z = k ∧ k < x.sigla.length) ∧ sortI (oldL f q.2) = r.2 := by
  have hc : (reoC x f).columns.length = x.columns.length := by unfold reoC; simp
  have e : unitsL (reoC x f) = (runsF (comB x) x.columns.length 0).map fun r => ⟨r.1, r.2, rdsL (reoC x f) r.1 r.2⟩ := by unfold unitsL; rw [reo_com hv hf, hc]
  refine ⟨by rw [e]; simp [unitsL], fun i u hu => ?_⟩
  unfold unitsL at hu
  rw [List.getElem?_map] at hu
  obtain ⟨r, hr, rfl⟩ := Option.map_eq_some_iff.1 hu
  have h1 := rdsN_at x r.1 r.2 x.sigla.length
  have h2 := rdsN_at (reoC x f) r.1 r.2 (reoC x f).sigla.length
  rw [reo_sig hf] at h2
  have hW : ∀ s, s < x.sigla.length → readL (reoC x f) s r.1 r.2 = readL x (f s) r.1 r.2 := fun s hs => reo_read hv hf hs r.1 r.2
  have e2 : rdsL (reoC x f) r.1 r.2 = rdsN (reoC x f) r.1 r.2 x.sigla.length := by unfold rdsL; rw [reo_sig hf]
  refine ⟨⟨r.1, r.2, rdsL (reoC x f) r.1 r.2⟩, by rw [e, List.getElem?_map, hr]; rfl, rfl, rfl, ?_, fun q hq => ?_⟩
  · show (rdsL (reoC x f) r.1 r.2).length = _
    rw [e2]
    exact (h1.same h2 hf hW).symm
  · show ∃ (j : Nat) (q' : Rdg), idxF _ (rdsL (reoC x f) r.1 r.2) = j ∧ (rdsL (reoC x f) r.1 r.2)[j]? = some q' ∧ _
    rw [e2]
    exact h1.old h2 hf hW hq
end Go.Ap
