/-
  Places of a word: the keys of the laws' maps; how many there are.
-/
import Derived.Test.YtngdmpkoedpgdaaGreatDoorQ2
import Derived.Test.YtngdmpkoedpgdaaGreatDoorOpC
namespace Go.Ap
open Go Go.RowKit Go.Maps Go.WideShapes
section
variable {P : Program} {t k e : TypeId} {κ : Type} {T : MapV P t k e κ} {w w' : World} {b n : Nat} {f : κ → Option Value}
theorem nodup_length_le {α : Type} [DecidableEq α] : ∀ {l m : List α}, l.Nodup → (∀ x ∈ l, x ∈ m) → l.length ≤ m.length
  | [], _, _, _ => Nat.zero_le _
  | a :: l, m, h, hs => by
    rw [List.nodup_cons] at h
    have h1 : a ∈ m := hs a (List.mem_cons_self ..)
    have h2 : ∀ x ∈ l, x ∈ m.erase a := fun x hx => by
      rw [List.mem_erase_of_ne (fun e => by subst e; exact h.1 hx)]
      exact hs x (List.mem_cons_of_mem _ hx)
    have h3 := nodup_length_le h.2 h2
    have h4 := List.length_erase_of_mem h1
    have h5 := List.length_pos_of_mem h1
    rw [List.length_cons]
    omega
/-- how many keys a map has -/
theorem MapH.count [DecidableEq κ] (h : MapH T w b n f) {ks : List κ} (hk : ks.Nodup) (hm : ∀ s, T.fit s → (f s ≠ none ↔ s ∈ ks)) (hfit : ∀ s ∈ ks, T.fit s) (ty : TypeId) :
    (Builtin.len_ #[t] ty #[.map (some b)]).run P w = .ok (.int .i64 (ks.length : Nat)) w := by
  classical
  obtain ⟨D, ⟨es, clock, hb, F, hs, rfl⟩, h2⟩ := h
  have hlen := World.ownsMap.len (P := P) (k := k) (R := heldR) (w := w) (b := b) (n := n) ⟨es, clock, hb, F, hs, rfl⟩ T.und ty
  rw [hlen]
  obtain ⟨es', hes⟩ : ∃ es', (es.toList.map (WideElems.rg P k heldR)).foldr DataW.insert [] = es' := ⟨_, rfl⟩
  rw [hes] at h2 ⊢
  have hnd : (es'.map (·.1)).Nodup := by
    rw [← hes, List.Nodup, List.pairwise_map]
    exact ((sorted_perm _).pairwise_iff (fun {_ _} hne => Ne.symm hne)).2 (Maps.fit_apart T.keyed F)
  have hkl : ∀ p ∈ es', ∃ s, T.fit s ∧ T.kl s = p.1 ∧ WideAt.IsKeyLit p.1 := fun p hp => by
    rw [← hes] at hp
    obtain ⟨x, hx, rfl⟩ := List.mem_map.1 (mem_sorted.1 hp)
    obtain ⟨y, hy⟩ := F.reads x hx
    rw [WideElems.rg_of hy]
    have hk1 := WideElems.rd_key hy
    obtain ⟨s, hf, hv⟩ := T.keyI hk1
    refine ⟨s, hf, ?_, T.keyed.key hk1⟩
    rw [hv, T.kl_of hf] at hk1
    exact Option.some.inj hk1
  have hhas : ∀ s, Maps.has (DataW.map es') (T.kl s) = (f s).isSome := fun s => by
    cases hf : f s with
    | none => exact has_false_of_atKey fun z => by rw [h2, hf]; rfl
    | some x => exact has_true_of_atKey fun z => by rw [h2, hf]; rfl
  have l1 : (es'.map (·.1)).length ≤ (ks.map T.kl).length := nodup_length_le hnd fun z hz => by
    obtain ⟨p, hp, rfl⟩ := List.mem_map.1 hz
    obtain ⟨s, hf, he, hlit⟩ := hkl p hp
    have h3 : Maps.has (DataW.map es') (T.kl s) = true := by
      rw [has_eq, he]
      exact List.any_eq_true.2 ⟨p, hp, WideAt.sameKey_self hlit⟩
    rw [hhas, Option.isSome_iff_ne_none] at h3
    exact List.mem_map.2 ⟨s, (hm s hf).1 h3, he⟩
  have l2 : (ks.map T.kl).length ≤ (es'.map (·.1)).length := nodup_length_le (List.pairwise_map.2 (hk.imp_of_mem fun {a c} ha _ hne he => hne (T.inj (hfit a ha) he.symm).symm)) fun z hz => by
    obtain ⟨s, hs', rfl⟩ := List.mem_map.1 hz
    have h3 : Maps.has (DataW.map es') (T.kl s) = true := by
      rw [hhas, Option.isSome_iff_ne_none]
      exact (hm s (hfit s hs')).2 hs'
    rw [has_eq] at h3
    obtain ⟨p, hp, hsk⟩ := List.any_eq_true.1 h3
    obtain ⟨_, _, _, hlit⟩ := hkl p hp
    exact List.mem_map.2 ⟨p, hp, WideAt.sameKey_eq hsk⟩
  rw [List.length_map, List.length_map] at l1 l2
  rw [size_eq, show es'.length = ks.length by omega]
end
end Go.Ap
namespace Go.Proofs.YtngdmpkoedpgdaaGreatDoor
open Go.RowKit Go.Ap Go.Shelf Go.Proofs Go.Maps
theorem wf_i64 {z : Int} (h : I64 z) : (Lit.int .i64 z).wf = true := by
  have h1 : IntKind.i64.min = -9223372036854775808 := rfl
  have h2 : IntKind.i64.max = 9223372036854775807 := rfl
  have := h.1
  have := h.2
  simp only [Lit.wf, Bool.and_eq_true, decide_eq_true_eq, h1, h2]
  omega
theorem intLits {m : Nat} {c : Value} {ls : List Lit} (h : Tryz.prog.keyLits (m + 1) 3 [c] = some ls) : ∃ z : Int, c = .int .i64 z ∧ I64 z := by
  unfold Program.keyLits at h
  simp only [Tryz.underlying3] at h
  cases c with
  | int q z =>
    simp only [] at h
    split at h
    · rename_i hs
      obtain ⟨rfl, hwf⟩ := hs
      exact ⟨z, rfl, i64_of_wf hwf⟩
    · cases h
  | _ => cases h
def kvPl (p : Str × Int) : Value := .agg #[.string (bs p.1), .int .i64 p.2]

theorem keyedPl : Keyed Tryz.prog 34 := Keyed.of_law (deep_law_laid (by kernel_rfl) (m := 2) (by omega) (of_decide_eq_true (by kernel_rfl)) (by kernel_rfl) (by kernel_rfl))
theorem keyPl {p : Str × Int} (h1 : p.1.length ≤ maxLen) (h2 : I64 p.2) : ∃ x, keyOf Tryz.prog 34 (kvPl p) = some (.string x) := by
  obtain ⟨m, hm⟩ := sizeHd
  have hkt : Tryz.prog.keyType 34 = true := by kernel_rfl
  have hcs : Tryz.prog.cellsOf 34 = 2 := by kernel_rfl
  have hc9 : Tryz.prog.cellsOf 9 = 1 := by kernel_rfl
  have hc3 : Tryz.prog.cellsOf 3 = 1 := by kernel_rfl
  have hb1 : (bs p.1).size ≤ maxLen := by rw [bs_size]; exact h1
  have hwf := wf_i64 h2
  refine ⟨keyBytes [.string (bs p.1).data.toList, .int .i64 p.2], ?_⟩
  unfold keyOf kvPl
  simp only [Tryz.underlying34]
  rw [if_pos (by simp [hkt, Value.formed, Tryz.underlying34, hcs]), hm]
  unfold Program.keyLits
  simp only [Tryz.underlying34, Value.cells]
  rw [if_pos (by simp [hcs])]
  simp [hc9, hc3, Program.keyLits, Tryz.underlying9, Tryz.underlying3, hb1, hwf]
set_option maxRecDepth 100000 in
theorem keyInvPl {v : Value} {l : Lit} (h : keyOf Tryz.prog 34 v = some l) : ∃ p : Str × Int, (p.1.length ≤ maxLen ∧ I64 p.2) ∧ v = kvPl p := by
  obtain ⟨m, hm⟩ := sizeHd
  have hcs : Tryz.prog.cellsOf 34 = 2 := by kernel_rfl
  have hc9 : Tryz.prog.cellsOf 9 = 1 := by kernel_rfl
  have hc3 : Tryz.prog.cellsOf 3 = 1 := by kernel_rfl
  unfold keyOf at h
  simp only [Tryz.underlying34] at h
  split at h
  · rename_i hf
    rw [Bool.and_eq_true] at hf
    obtain ⟨_, hf⟩ := hf
    cases v with
    | agg cs =>
      obtain ⟨cl⟩ := cs
      simp [Value.formed, Tryz.underlying34, hcs] at hf
      match cl, hf with
      | [c0, c1], _ =>
        rw [hm] at h
        unfold Program.keyLits at h
        simp [Tryz.underlying34, hc9, hc3, hcs, Value.cells] at h
        rw [Option.bind_eq_some_iff] at h
        obtain ⟨l0, h0, h⟩ := h
        simp only [Function.comp] at h
        cases h1 : Tryz.prog.keyLits (m + 1) 3 [c1] with
        | none => rw [h1] at h; simp at h
        | some l1 =>
          obtain ⟨s0, rfl, g0⟩ := strLits h0
          obtain ⟨z, rfl, g1⟩ := intLits h1
          refine ⟨(s0.data.toList, z), ⟨by simpa using g0, g1⟩, ?_⟩
          unfold kvPl
          simp [bs]
    | _ => simp [Value.formed, Tryz.underlying34] at hf
  · cases h
/-- places: a word with a line -/
def tPl : MapV Tryz.prog 32 34 4 (Str × Int) where
  kv := kvPl
  fit p := p.1.length ≤ maxLen ∧ I64 p.2
  keyed := keyedPl
  und := Tryz.underlying32
  key h := keyPl h.1 h.2
  keyI h := keyInvPl h
  kinj {s s'} h := by
    unfold kvPl at h
    simp only [Value.agg.injEq, Array.mk.injEq, List.cons.injEq, Value.string.injEq, Value.int.injEq, and_true, true_and] at h
    exact Prod.ext (Go.Proofs.YtngdmpkoedpgdaaGreatDoor.bs_inj h.1) h.2
  zero := .bool false
  zeroV w := Tryz.zeroValue4 w

theorem keyedPm : Keyed Tryz.prog 79 := Keyed.of_law (deep_law_laid (by kernel_rfl) (m := 2) (by omega) (of_decide_eq_true (by kernel_rfl)) (by kernel_rfl) (by kernel_rfl))
theorem keyPm {p : Str × Int} (h1 : p.1.length ≤ maxLen) (h2 : I64 p.2) : ∃ x, keyOf Tryz.prog 79 (kvPl p) = some (.string x) := by
  obtain ⟨m, hm⟩ := sizeHd
  have hkt : Tryz.prog.keyType 79 = true := by kernel_rfl
  have hcs : Tryz.prog.cellsOf 79 = 2 := by kernel_rfl
  have hc9 : Tryz.prog.cellsOf 9 = 1 := by kernel_rfl
  have hc3 : Tryz.prog.cellsOf 3 = 1 := by kernel_rfl
  have hb1 : (bs p.1).size ≤ maxLen := by rw [bs_size]; exact h1
  have hwf := wf_i64 h2
  refine ⟨keyBytes [.string (bs p.1).data.toList, .int .i64 p.2], ?_⟩
  unfold keyOf kvPl
  simp only [Tryz.underlying79]
  rw [if_pos (by simp [hkt, Value.formed, Tryz.underlying79, hcs]), hm]
  unfold Program.keyLits
  simp only [Tryz.underlying79, Value.cells]
  rw [if_pos (by simp [hcs])]
  simp [hc9, hc3, Program.keyLits, Tryz.underlying9, Tryz.underlying3, hb1, hwf]
set_option maxRecDepth 100000 in
theorem keyInvPm {v : Value} {l : Lit} (h : keyOf Tryz.prog 79 v = some l) : ∃ p : Str × Int, (p.1.length ≤ maxLen ∧ I64 p.2) ∧ v = kvPl p := by
  obtain ⟨m, hm⟩ := sizeHd
  have hcs : Tryz.prog.cellsOf 79 = 2 := by kernel_rfl
  have hc9 : Tryz.prog.cellsOf 9 = 1 := by kernel_rfl
  have hc3 : Tryz.prog.cellsOf 3 = 1 := by kernel_rfl
  unfold keyOf at h
  simp only [Tryz.underlying79] at h
  split at h
  · rename_i hf
    rw [Bool.and_eq_true] at hf
    obtain ⟨_, hf⟩ := hf
    cases v with
    | agg cs =>
      obtain ⟨cl⟩ := cs
      simp [Value.formed, Tryz.underlying79, hcs] at hf
      match cl, hf with
      | [c0, c1], _ =>
        rw [hm] at h
        unfold Program.keyLits at h
        simp [Tryz.underlying79, hc9, hc3, hcs, Value.cells] at h
        rw [Option.bind_eq_some_iff] at h
        obtain ⟨l0, h0, h⟩ := h
        simp only [Function.comp] at h
        cases h1 : Tryz.prog.keyLits (m + 1) 3 [c1] with
        | none => rw [h1] at h; simp at h
        | some l1 =>
          obtain ⟨s0, rfl, g0⟩ := strLits h0
          obtain ⟨z, rfl, g1⟩ := intLits h1
          refine ⟨(s0.data.toList, z), ⟨by simpa using g0, g1⟩, ?_⟩
          unfold kvPl
          simp [bs]
    | _ => simp [Value.formed, Tryz.underlying79] at hf
  · cases h
/-- places: a word with a line -/
def tPm : MapV Tryz.prog 77 79 4 (Str × Int) where
  kv := kvPl
  fit p := p.1.length ≤ maxLen ∧ I64 p.2
  keyed := keyedPm
  und := Tryz.underlying77
  key h := keyPm h.1 h.2
  keyI h := keyInvPm h
  kinj {s s'} h := by
    unfold kvPl at h
    simp only [Value.agg.injEq, Array.mk.injEq, List.cons.injEq, Value.string.injEq, Value.int.injEq, and_true, true_and] at h
    exact Prod.ext (Go.Proofs.YtngdmpkoedpgdaaGreatDoor.bs_inj h.1) h.2
  zero := .bool false
  zeroV w := Tryz.zeroValue4 w
end Go.Proofs.YtngdmpkoedpgdaaGreatDoor
