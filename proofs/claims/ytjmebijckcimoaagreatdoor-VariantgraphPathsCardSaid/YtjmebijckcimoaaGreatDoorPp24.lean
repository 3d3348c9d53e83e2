/-
  The places of a collation with its sources in another order: plain laws.
-/
import Derived.Test.YtjmebijckcimoaaGreatDoorPo
namespace Go.Ap
section
variable {x : Coll} {f : Nat → Nat}
theorem reo_cell (hv : Val x) (hf : Inv x.sigla.length f) {k s : Nat} (hs : s < x.sigla.length) : cellO (reoC x f) k s = cellO x k (f s) := by
  have f2 : ∀ k, k < x.sigla.length → f k < x.tokens.length := fun k hk => by rw [hv.toks]; exact hf.lt k hk
  unfold cellO
  have e : (reoC x f).columns[k]? = (x.columns[k]?).map fun c => perL f c x.sigla.length := by unfold reoC; rw [List.getElem?_map]
  rw [e]
  cases hc : x.columns[k]? with
  | none => rfl
  | some c =>
    have hcl := (hv.somes hc).1
    simp only [Option.map_some]
    rw [perL_nth (fun k hk => by rw [hcl]; exact hf.lt k hk) hs]
    show (if _ then _ else (((perL f x.tokens x.sigla.length)[s]?).bind _).map _) = _
    rw [perL_at f2 hs]
theorem comB_iff (hn : 0 < x.sigla.length) {i : Nat} : comB x i = true ↔ ∃ u, ∀ s, s < x.sigla.length → cellO x i s = some u := by
  constructor
  · intro h
    simp only [comB, Bool.and_eq_true, List.all_eq_true, List.mem_range, decide_eq_true_eq] at h
    obtain ⟨u, hu⟩ := Option.isSome_iff_exists.1 h.1
    exact ⟨u, fun s hs => (h.2 s hs).trans hu⟩
  · rintro ⟨u, hu⟩
    exact com_yes (hu 0 hn) hu
theorem reo_sig (hf : Inv x.sigla.length f) : (reoC x f).sigla.length = x.sigla.length := perL_len hf.lt
theorem reo_com (hv : Val x) (hf : Inv x.sigla.length f) : comB (reoC x f) = comB x := by
  funext i
  have hn := hv.pos
  refine Bool.eq_iff_iff.2 ((comB_iff (by rw [reo_sig hf]; exact hn)).trans (Iff.trans ?_ (comB_iff hn).symm))
  rw [reo_sig hf]
  constructor
  · rintro ⟨u, hu⟩
    refine ⟨u, fun s hs => ?_⟩
    have := hu (f s) (hf.lt s hs)
    rwa [reo_cell hv hf (hf.lt s hs), hf.inv] at this
  · rintro ⟨u, hu⟩
    exact ⟨u, fun s hs => (reo_cell hv hf hs).trans (hu (f s) (hf.lt s hs))⟩
theorem reo_read (hv : Val x) (hf : Inv x.sigla.length f) {s : Nat} (hs : s < x.sigla.length) (lo hi : Nat) : readL (reoC x f) s lo hi = readL x (f s) lo hi := by
  unfold readL
  congr 1
  funext k
  exact reo_cell hv hf hs
end
end Go.Ap
