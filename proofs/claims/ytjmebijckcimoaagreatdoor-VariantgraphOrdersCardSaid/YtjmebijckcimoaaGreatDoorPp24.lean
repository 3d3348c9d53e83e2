/-
  The places of a collation with its sources in another order: plain laws.
-/
import Derived.Test.YtjmebijckcimoaaGreatDoorPo
namespace Go.Ap
section
variable {x : Coll} {f : Nat → Nat}
theorem reo_cell (hv : Val x) (hf : Inv x.sigla.length f) {k s : Nat} (hs : s < x.sigla.length) : cellO (reoC x f) k s = cellO x k (f s) := by
  have f2 : ∀ k, k < x.sigla.length → f k < x.tokens.length := fun k hk => by rw [hv.toks]; exact hf.lt k hk
  unfold cellO
  have e : (reoC x f).columns[k]? = (x.columns[k]?).map fun c => perL f c x.sigla.length := by unfold reoC; rw [List.getElem?_map]
  rw [e]
  cases hc : x.columns[k]? with
  | none => rfl
  | some c =>
    have hcl := (hv.somes hc).1
    simp only [Option.map_some]
    rw [perL_nth (fun k hk => by rw [hcl]; exact hf.lt k hk) hs]
    show (if _ then _ else (((perL f x.tokens x.sigla.length)[s]?).bind _).map _) = _
    rw [perL_at f2 hs]
theorem reo_sig (hf : Inv x.sigla.length f) : (reoC x f).sigla.length = x.sigla.length := perL_len hf.lt
end
end Go.Ap
