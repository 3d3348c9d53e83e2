/-
  Postings: the row of items as the sort wants it, and what the sort gives.
-/
import Derived.Test.YtngdmpkoedpgdaaGreatDoorSp5
import Derived.Test.YtngdmpkoedpgdaaGreatDoorSc
import Derived.Test.YtngdmpkoedpgdaaGreatDoorIp
namespace Go.Proofs.YtngdmpkoedpgdaaGreatDoor
open Go.RowKit Go.Ap Go.Shelf Go.Proofs Go.Sort
theorem flatAt {α : Type} {f : α → List Value} {m : Nat} (hf : ∀ x, (f x).length = m) : ∀ {xs : List α} {k : Nat} {x : α} {i : Nat} {u : Value}, xs[k]? = some x → (f x)[i]? = some u → (xs.flatMap f)[k * m + i]? = some u
  | [], k, x, i, u, h, _ => by simp at h
  | y :: xs, 0, x, i, u, h, hu => by
    simp only [List.getElem?_cons_zero, Option.some.injEq] at h
    subst h
    rw [List.flatMap_cons, Nat.zero_mul, Nat.zero_add, List.getElem?_append_left (List.getElem?_eq_some_iff.1 hu).1]
    exact hu
  | y :: xs, k + 1, x, i, u, h, hu => by
    rw [List.flatMap_cons, List.getElem?_append_right (by rw [hf, Nat.succ_mul]; omega), hf, Nat.succ_mul, show k * m + m + i - m = k * m + i by omega]
    exact flatAt hf (by simpa using h) hu
theorem itC_get (p : Go.Ap.Item) {c : Nat} (hc : c < 3) : (itC p)[c]? = some (itC p)[c]! := by
  rw [List.getElem?_eq_getElem (by rw [itC_len]; exact hc), getElem!_pos (itC p) c (by rw [itC_len]; exact hc)]
theorem holdsK_row {w : World} {base g cap n : Nat} {e : TypeId} {d : Array ItS} (h : w.ownsRow base e 3 (.slice (some ⟨g, 0, none⟩) n cap) n ((d.toList.map (·.1)).flatMap itC)) (hn : d.size = n) : HoldsK (fun p : ItS => itC p.1) 3 w g 0 d := by
  intro t ht
  rw [size_flatK] at ht
  rw [get_flatK _ _ _ _ ht, Nat.zero_add]
  have hk : t / 3 < d.size := by omega
  refine ⟨?_, h.frozenAt t⟩
  rw [h.cellAt t (by omega)]
  have h0 : (d.toList.map (·.1))[t / 3]? = some (d[t / 3]!).1 := by
    rw [List.getElem?_map, Array.getElem?_toList, Array.getElem?_eq_getElem hk, getElem!_pos d (t / 3) hk]
    rfl
  have h1 := flatAt (f := itC) (m := 3) itC_len h0 (itC_get (d[t / 3]!).1 (c := t % 3) (by omega))
  rw [show t / 3 * 3 + t % 3 = t by omega] at h1
  exact h1
theorem grown_sortK {w : World} {gb m : Nat} {d : Array ItS} {os : Array Obj} : w.grownBy (sortWorldK (fun p : ItS => itC p.1) 3 w gb 0 m d os) (some gb) := by
  unfold sortWorldK putRowK
  refine ⟨rfl, rfl, rfl, by simp, fun k hk hne => ?_⟩
  rw [heap_grow_old _ _ (by simpa using hk)]
  have : gb ≠ k := fun e => hne (by rw [e])
  simp [putRow, mapBlock, Sort.ahead, Array.getElem?_modify, this]
/-- a row of sorted items reads as postings -/
theorem posts_row {W : World} {gb : Nat} {d : Array ItS} {L : Str × Str → List Int} (hH : HoldsK (fun p : ItS => itC p.1) 3 W gb 0 d) (hn : d.size ≤ 4611686018427387903)
    (hp : ∀ p ∈ d.toList, p.1.1.1.length ≤ 4611686018427387903 ∧ p.1.1.2.length ≤ 4611686018427387903 ∧ ∃ a c, p.1.2 = .slice a (L p.1.1).length c ∧ Ints W a (L p.1.1).length (L p.1.1)) :
    Posts W (some ⟨gb, 0, none⟩) d.size (d.toList.map fun p => (p.1.1, L p.1.1)) := by
  refine ⟨by simp, hn, fun k x hk => ⟨gb, 0, rfl, ?_⟩⟩
  rw [List.getElem?_map, Option.map_eq_some_iff] at hk
  obtain ⟨p, hpk, rfl⟩ := hk
  obtain ⟨h1, h2, a, c, h3, h4⟩ := hp p (List.mem_of_getElem? hpk)
  have hkd : k < d.size := by simpa using (List.getElem?_eq_some_iff.1 hpk).1
  have hpd : d[k]! = p := by
    rw [Array.getElem?_toList, Array.getElem?_eq_getElem hkd, Option.some.injEq] at hpk
    rw [getElem!_pos d k hkd, hpk]
  have c0 := (hH.cell hkd (c := 0) (by omega)).1
  have c1 := (hH.cell hkd (c := 1) (by omega)).1
  have c2 := (hH.cell hkd (c := 2) (by omega)).1
  rw [hpd] at c0 c1 c2
  refine ⟨a, c, c0, c1, ?_, h1, h2, h4⟩
  rw [← h3]
  exact c2
theorem compact_some {l : List Int} (h : l ≠ []) : Lib.compact (Go.Ap.sortI l) ≠ [] := by
  obtain ⟨x, hx⟩ := List.exists_mem_of_ne_nil l h
  intro he
  have := ((compact_asc (Go.Ap.sortI_asc l)).2 x).2 ((Go.Ap.sortI_perm l).mem_iff.2 hx)
  rw [he] at this
  cases this
/-- sorted items are the index -/
theorem idx_items {es : List ((Str × Str) × Int)} {g : Str × Str → List Int} {I : List Go.Ap.Item} (hpw : I.Pairwise fun p q => headM mkB p.1 q.1 < 0) (hall : ∀ s, g s ≠ [] → s ∈ I.map (·.1)) (hne : ∀ p ∈ I, g p.1 ≠ []) (hes : ∀ h m, (h, m) ∈ es ↔ m ∈ g h) :
    I.map (fun p => ((p.1, Lib.compact (Go.Ap.sortI (g p.1))) : Post)) = idxM mkB es := by
  refine IsIdx.unique (cmp_head mkB) (es := es) (es' := es) ⟨?_, ?_, ?_, ?_⟩ (idx_is mkB es) (fun _ => Iff.rfl)
  · exact List.pairwise_map.2 hpw
  · intro p hp
    obtain ⟨q, hq, rfl⟩ := List.mem_map.1 hp
    exact (compact_asc (Go.Ap.sortI_asc _)).1
  · intro p hp
    obtain ⟨q, hq, rfl⟩ := List.mem_map.1 hp
    exact compact_some (hne q hq)
  · intro h m
    rw [hes]
    constructor
    · intro hm
      obtain ⟨q, hq, rfl⟩ := List.mem_map.1 (hall h fun e => by rw [e] at hm; cases hm)
      exact ⟨_, List.mem_map.2 ⟨q, hq, rfl⟩, rfl, ((compact_asc (Go.Ap.sortI_asc _)).2 m).2 ((Go.Ap.sortI_perm _).mem_iff.2 hm)⟩
    · rintro ⟨p, hp, rfl, hm⟩
      obtain ⟨q, hq, rfl⟩ := List.mem_map.1 hp
      exact (Go.Ap.sortI_perm _).mem_iff.1 (((compact_asc (Go.Ap.sortI_asc _)).2 m).1 hm)
/-- an index of the call's own, handed on -/
def GivesPo (w' : World) (u : Value) (l : List Post) : Prop := ∃ a c, u = .slice a l.length c ∧ Posts w' a l.length l ∧ l.length ≤ c
theorem own_one {e : TypeId} {w : World} {base : Nat} {v : Value} {xs : List Int} (h : OwnI e w base v xs) : v.oneCell' = true := by
  rcases h.1.2 with ⟨rfl, h0⟩ | ⟨g, cap, cur, rfl, _, _, h1, h2, _, _⟩
  · rfl
  · rfl
theorem comp_len (l : List Int) : (Lib.compact (Go.Ap.sortI l)).length ≤ l.length := by
  have h1 : (Lib.compact (Go.Ap.sortI l)).length ≤ (Go.Ap.sortI l).length := by
    unfold Lib.compact Lib.compactUpTo
    rw [List.length_map]
    exact Nat.le_trans (List.length_filter_le _ _) (by simp)
  have h2 := (Go.Ap.sortI_perm l).length_eq
  omega
/-- behind the loop of postings: what is to be sorted, and what the sort makes of it -/
theorem rnd_end {w W : World} {b r base n cnt : Nat} {f : Str × Str → Option Value} {g : Str × Str → List Int} {left : Str × Str → Bool} {ov : Value} {I : List Go.Ap.Item} {es : List ((Str × Str) × Int)}
    (R : RndP tHd 37 3 W b r base n f g left cnt ov I none) (hall : ∀ s, left s = false) (hf1 : ∀ s, f s = none → g s = []) (hf2 : ∀ s v, f s = some v → OwnI 3 w base v (g s) ∧ g s ≠ []) (hes : ∀ h m, (h, m) ∈ es ↔ m ∈ g h)
    (hel : ∀ x ∈ es, x.1.1.length ≤ 4611686018427387903 ∧ x.1.2.length ≤ 4611686018427387903) (hgn : ∀ s, (g s).length ≤ 1000000) (hIn : I.length ≤ 4096) :
    ov = .slice none 0 0 ∧ idxM mkB es = [] ∨
    ∃ (gb cap k : Nat) (d : Array ItS), ov = .slice (some ⟨gb, 0, none⟩) k cap ∧ k = I.length ∧ d.size = k ∧ HoldsK (fun p : ItS => itC p.1) 3 W gb 0 d ∧ gb < W.heap.size ∧
      ∀ d' m os, PermIn 0 d.size d d' → SortedIn (ltOf fun p q : ItS => headM mkB p.1.1 q.1.1) 0 d.size d' →
        GivesPo (sortWorldK (fun p : ItS => itC p.1) 3 W gb 0 m d' os) (.slice (some ⟨gb, 0, none⟩) k cap) (idxM mkB es) ∧
        (Below base w W → base ≤ w.heap.size → Below base w (sortWorldK (fun p : ItS => itC p.1) 3 W gb 0 m d' os)) := by
  have hin : ∀ s, g s ≠ [] → s ∈ I.map (·.1) := fun s hs => by
    rcases R.all s (fun e => hs (hf1 s e)) with h | h | h
    · rw [hall] at h; cases h
    · exact h
    · cases h
  have hne : ∀ p ∈ I, g p.1 ≠ [] := fun p hp => by
    obtain ⟨_, v, hv, _⟩ := R.done p hp
    exact (hf2 _ _ hv).2
  rcases R.row.2 with ⟨rfl, h0⟩ | ⟨gb, cap, cur, rfl, hbg, hgb, hc1, hc2, hc3, hc4⟩
  · have hI : I = [] := List.eq_nil_of_length_eq_zero h0
    subst hI
    exact .inl ⟨rfl, (idx_items (es := es) (g := g) .nil hin hne hes).symm⟩
  · refine .inr ?_
    have hfit : ∀ p ∈ I, p.1.1.length ≤ 4611686018427387903 ∧ p.1.2.length ≤ 4611686018427387903 := fun p hp => by
      obtain ⟨m, hm⟩ := List.exists_mem_of_ne_nil _ (hne p hp)
      exact hel _ ((hes p.1 m).2 hm)
    have hP : ∀ p ∈ I, p.1.1.length ≤ 4611686018427387903 ∧ p.2.oneCell' = true := fun p hp => ⟨(hfit p hp).1, own_one (R.lines p hp)⟩
    obtain ⟨d, hd⟩ : ∃ d : Array ItS, d.toList.map (·.1) = I := ⟨(I.attachWith _ hP).toArray, by rw [List.toList_toArray]; exact List.attachWith_map_subtype_val hP⟩
    have hds : d.size = I.length := by rw [← hd]; simp
    have hgl : gb < W.heap.size := (Array.getElem?_eq_some_iff.1 hgb).1
    have hH : HoldsK (fun p : ItS => itC p.1) 3 W gb 0 d := holdsK_row (by rw [hd]; exact R.row) hds
    refine ⟨gb, cap, I.length, d, rfl, rfl, hds, hH, hgl, fun d' m os hp hs => ?_⟩
    have hnd : (d.toList.map fun p : ItS => p.1.1).Nodup := by
      have := R.once
      rw [← hd, List.map_map] at this
      exact this
    obtain ⟨hperm, hpw⟩ := sorted_heads hp hs hnd
    have hds' : d'.size = d.size := by have := hperm.length_eq; simpa using this
    have hg := grown_sortK (w := W) (gb := gb) (m := m) (d := d') (os := os)
    have hH' := holdsK_sortWorldK_c (enc := fun p : ItS => itC p.1) (k := 3) (w := W) (blk := gb) (off := 0) d d' m os hH hgl hds'
    have hmem : ∀ p ∈ d'.toList, p.1 ∈ I := fun p hp => by
      rw [← hd]
      exact List.mem_map.2 ⟨p, hperm.mem_iff.1 hp, rfl⟩
    have hPo := posts_row (L := fun s => Lib.compact (Go.Ap.sortI (g s))) hH' (by omega) (fun p hp => by
      have hl := R.lines p.1 (hmem p hp)
      have hl' := hl.kept hg (own_type hl.1 R.row (Ne.symm R.types))
      obtain ⟨a, c, h1, h2⟩ := hl'.ints (by have a := comp_len (g p.1.1); have b := hgn p.1.1; omega)
      exact ⟨(hfit p.1 (hmem p hp)).1, (hfit p.1 (hmem p hp)).2, a, c, h1, h2⟩)
    have hidx : (d'.toList.map fun p => ((p.1.1, Lib.compact (Go.Ap.sortI (g p.1.1))) : Post)) = idxM mkB es := by
      have h1 : ∀ s, g s ≠ [] → s ∈ (d'.toList.map (·.1)).map (·.1) := fun s hs => by
        obtain ⟨p, hp, rfl⟩ := List.mem_map.1 (hin s hs)
        rw [← hd] at hp
        obtain ⟨q, hq, rfl⟩ := List.mem_map.1 hp
        exact List.mem_map.2 ⟨q.1, List.mem_map.2 ⟨q, hperm.mem_iff.2 hq, rfl⟩, rfl⟩
      have h2 : ∀ p ∈ d'.toList.map (·.1), g p.1 ≠ [] := fun p hp => by
        obtain ⟨q, hq, rfl⟩ := List.mem_map.1 hp
        exact hne _ (hmem q hq)
      have h0 : (d'.toList.map fun p : ItS => p.1).Pairwise fun p q : Go.Ap.Item => headM mkB p.1 q.1 < 0 := by
        rw [List.pairwise_map]
        exact hpw
      have h3 := idx_items (es := es) (g := g) h0 h1 h2 hes
      rw [List.map_map] at h3
      exact h3
    have hlen : (idxM mkB es).length = I.length := by rw [← hidx]; simp [hds', hds]
    rw [hidx, hds', hds] at hPo
    refine ⟨⟨_, cap, by rw [hlen], by rw [hlen]; exact hPo, by rw [hlen]; exact hc1⟩, fun hb hbs => hb.grown hg (by have := hb.size; omega) fun k hk => ?_⟩
    cases hk
    exact hbg
/-- an index of the call's own, handed on -/
theorem GivesPo.nil (w : World) : GivesPo w (.slice none 0 0) [] := ⟨none, 0, rfl, SlM.nil _ _, Nat.le_refl _⟩
end Go.Proofs.YtngdmpkoedpgdaaGreatDoor
