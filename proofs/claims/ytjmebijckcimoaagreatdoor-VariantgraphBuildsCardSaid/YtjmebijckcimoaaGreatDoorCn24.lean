/-
  A column of a collation (what chapter 24 wants of chapter 25's texts).
-/
import Derived.Test.YtjmebijckcimoaaGreatDoorQ7
import Derived.Test.YtjmebijckcimoaaGreatDoorUa
import Derived.Test.YtjmebijckcimoaaGreatDoorNab
import Derived.Test.YtjmebijckcimoaaGreatDoorPl
namespace Go.Ap
/-- a block of one-cell elements -/
def ArrG {α : Type} (enc : α → Go.Value) (W : Go.World) (B : Nat) (T : Go.TypeId) (xs : List α) : Prop := W.heap[B]? = some (.cells (xs.map enc).toArray T (0, 0))
section
open Go Go.RowKit
variable {α : Type} {enc : α → Value} {W W' : World} {B : Nat} {T : TypeId} {xs : List α}
theorem ArrG.lt (h : ArrG enc W B T xs) : B < W.heap.size := (Array.getElem?_eq_some_iff.1 h).1
theorem ArrG.cell (h : ArrG enc W B T xs) {k : Nat} {x : α} (hk : xs[k]? = some x) : W.cell? ⟨B, k, none⟩ = some (enc x) := by
  obtain ⟨hl, rfl⟩ := List.getElem?_eq_some_iff.1 hk
  simp [World.cell?, show W.heap[B]? = _ from h, hl]
theorem ArrG.free (h : ArrG enc W B T xs) (k : Nat) : W.frozen? ⟨B, k, none⟩ = false := by simp [World.frozen?, show W.heap[B]? = _ from h]
theorem ArrG.set (h : ArrG enc W B T xs) (k : Nat) (v : α) : ArrG enc (W.setCell ⟨B, k, none⟩ (enc v)) B T (xs.set k v) := by
  obtain ⟨hlt, hk⟩ := Array.getElem?_eq_some_iff.1 h
  show (W.heap.modify B _)[B]? = _
  rw [Array.getElem?_eq_getElem (by rw [Array.size_modify]; exact hlt), Array.getElem_modify_self, hk]
  simp [List.map_set]
theorem ArrG.kept (h : ArrG enc W B T xs) (hb : Below W.heap.size W W') : ArrG enc W' B T xs := (hb.block B h.lt).trans h
theorem made_all {v : Value} {x : α} (hv : enc x = v) (n : Nat) : madeCells #[v] n = ((List.replicate n x).map enc).toArray := by
  subst hv
  apply Array.ext_getElem?
  intro i
  simp [madeCells, Nat.mod_one]
  by_cases h : i < n
  · simp [h]
  · simp [h]
end
theorem form_ne {t : Tok} (h : tokC t = 0) : t.text ≠ [] := by
  intro he
  have hf : formB t = true := by
    cases hf : formB t with
    | true => rfl
    | false =>
      exfalso
      unfold tokC at h
      rw [hf] at h
      split at h
      · cases h
      · split at h
        · cases h
        · cases h
  unfold formB at hf
  rw [he] at hf
  split at hf
  · cases hf
  · split at hf
    · rw [gapB, List.any_eq_true] at hf
      obtain ⟨n, _, hn⟩ := hf
      simp [gapS] at hn
    · simp [isWordB] at hf
theorem cell_ne {x : Coll} (hv : Val x) {k s : Nat} {u : Str} (h : cellO x k s = some u) : u ≠ [] := by
  unfold cellO at h
  split at h
  · split at h
    · cases h
    · obtain ⟨t, ht, rfl⟩ := Option.map_eq_some_iff.1 h
      obtain ⟨l, hl, hl2⟩ := Option.bind_eq_some_iff.1 ht
      exact form_ne ((hv.rows l (List.mem_of_getElem? hl)).2 t (List.mem_of_getElem? hl2))
  · cases h
end Go.Ap
namespace Go.Proofs.YtjmebijckcimoaaGreatDoor
open Go.RowKit Go.Ap Go.Shelf Go.Proofs

attribute [local go_sem] Oper.semAt_some bs_toList empty_toList bs_size bs_extract
/-- a box that holds a collation -/
structure BoxC (W : World) (b : Nat) (sec : Str) (a1 : Option Addr) (n1 c1 : Nat) (a2 : Option Addr) (n2 c2 : Nat) (a3 : Option Addr) (n3 c3 : Nat) : Prop where
  k0 : W.cell? ⟨b, 0, none⟩ = some (.string (bs sec))
  k1 : W.cell? ⟨b, 1, none⟩ = some (.slice a1 n1 c1)
  k2 : W.cell? ⟨b, 2, none⟩ = some (.slice a2 n2 c2)
  k3 : W.cell? ⟨b, 3, none⟩ = some (.slice a3 n3 c3)
section
variable {W W' : World} {b e b1 b2 : Nat} {sec : Str} {a1 : Option Addr} {n1 c1 : Nat} {a2 : Option Addr} {n2 c2 : Nat} {a3 : Option Addr} {n3 c3 : Nat}
theorem BoxC.below (h : BoxC W b sec a1 n1 c1 a2 n2 c2 a3 n3 c3) (hb : Below W.heap.size W W') : BoxC W' b sec a1 n1 c1 a2 n2 c2 a3 n3 c3 :=
  ⟨cell_keep hb h.k0, cell_keep hb h.k1, cell_keep hb h.k2, cell_keep hb h.k3⟩
theorem BoxC.kept (h : BoxC W b1 sec a1 n1 c1 a2 n2 c2 a3 n3 c3) (hk : KeepR e b1 b2 W W') : BoxC W' b1 sec a1 n1 c1 a2 n2 c2 a3 n3 c3 :=
  ⟨(hk.cell (.inr (.inl rfl))).trans h.k0, (hk.cell (.inr (.inl rfl))).trans h.k1, (hk.cell (.inr (.inl rfl))).trans h.k2, (hk.cell (.inr (.inl rfl))).trans h.k3⟩
theorem BoxC.new (w : World) (sec : Str) (a1 : Option Addr) (n1 c1 : Nat) (a2 : Option Addr) (n2 c2 : Nat) (a3 : Option Addr) (n3 c3 : Nat) : BoxC (w.alloc (.cells #[.string (bs sec), .slice a1 n1 c1, .slice a2 n2 c2, .slice a3 n3 c3] 26)) w.heap.size sec a1 n1 c1 a2 n2 c2 a3 n3 c3 :=
  ⟨cell_fresh rfl rfl, cell_fresh rfl rfl, cell_fresh rfl rfl, cell_fresh rfl rfl⟩
end
theorem grown_of_below {w w' : World} (h : Below w.heap.size w w') : w.grownBy w' none := ⟨h.os, h.tape, h.output, h.size, fun k hk _ => h.block k hk⟩
theorem infoStr24 : (Tryz.prog.info? 9).map (fun i => (i.zero, i.size, i.bytes)) = some (some (.string { data := #[] }), 1, 16) := by kernel_rfl
/-- where the rows of a column lie -/
theorem col_lies {x : Coll} {a1 a2 a3 : Option Addr} {n1 n2 n3 : Nat} {w : World} (h : CollM w a1 a2 a3 n1 n2 n3 x) (hv : Val x) (i : Nat) (hi : i < x.columns.length) :
    ∃ (b o bc oc cc : Nat), a3 = some ⟨b, o, none⟩ ∧ w.cell? ⟨b, o + i, none⟩ = some (.slice (some ⟨bc, oc, none⟩) n1 cc) ∧ ∀ s, s < x.sigla.length → ∃ y : Int, w.cell? ⟨bc, oc + s, none⟩ = some (.int .i64 y) ∧
      ((y = -1 ∧ cellO x i s = none) ∨ ∃ (m : Nat) (b5 o5 n5 c5 b6 o6 : Nat) (u : Str), y = m ∧ a2 = some ⟨b5, o5, none⟩ ∧ w.cell? ⟨b5, o5 + s, none⟩ = some (.slice (some ⟨b6, o6, none⟩) n5 c5) ∧ m < n5 ∧ n5 ≤ 4611686018427387903 ∧ w.cell? ⟨b6, o6 + m * 6, none⟩ = some (.string (bs u)) ∧ cellO x i s = some u) := by
  have hl1 := h.sigla.len
  have hl2 := h.tokens.len
  have hl3 := h.columns.len
  have h12 := hv.toks
  have hp := hv.pos
  obtain ⟨c, b, off, v, hc, hab, hcv, a', n', c', rfl, hI⟩ := h.columns.at (show i < n3 by omega)
  have hcr := hv.cols c (List.mem_of_getElem? hc)
  have hln := hI.len
  have hcl := hcr.1
  rw [lensT_len] at hcl
  obtain ⟨bc, oc, rfl, hcc⟩ := Ints.at hI (by omega)
  obtain rfl : n' = n1 := by omega
  refine ⟨b, off, bc, oc, c', hab, hcv, fun s hs => ⟨nth c s, hcc s (by omega), ?_⟩⟩
  rcases hcr.2 s (by rw [lensT_len]; omega) with hm | ⟨h0, hlt⟩
  · exact .inl ⟨hm, cellO_neg hc (by omega)⟩
  · obtain ⟨l, b5, o5, v5, hl5, hab5, hcv5, a5, n5, c5, rfl, ht5⟩ := h.tokens.at (show s < n2 by omega)
    rw [lensT_at hl5, ht5.len] at hlt
    obtain ⟨m, hm⟩ : ∃ m : Nat, nth c s = m := ⟨(nth c s).toNat, by omega⟩
    obtain ⟨t, b6, o6, ht, rfl, ⟨⟨q0, _, _, _, _, _⟩, _⟩⟩ := ht5.at (show m < n5 by omega)
    exact .inr ⟨m, b5, o5, n5, c5, b6, o6, t.text, hm, hab5, hcv5, by omega, ht5.small, q0, cellO_pos hc hm hl5 ht⟩

end Go.Proofs.YtjmebijckcimoaaGreatDoor
