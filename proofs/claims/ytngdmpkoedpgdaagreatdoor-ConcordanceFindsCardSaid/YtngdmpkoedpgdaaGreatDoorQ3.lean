import Derived.Test.YtngdmpkoedpgdaaGreatDoorQ2
import Derived.Test.YtngdmpkoedpgdaaGreatDoorIp
import Derived.Test.YtngdmpkoedpgdaaGreatDoorOr
import Derived.Test.YtngdmpkoedpgdaaGreatDoorShelf
import Derived.Shelf.SlSortCmp.WholeK
import Derived.Shelf.SlSortCmp.NoneTotal
import Derived.Test.YtngdmpkoedpgdaaGreatDoorU1
import Derived.Maps.AppendAt

/-
  The rows of postings under way: what a round of postings keeps.
-/


namespace Go.Ap
open Go Go.RowKit
/-- rows of different element types lie in different blocks -/
theorem own_type {w : World} {base n size base' n' size' : Nat} {e e' : TypeId} {v v' : Value} {xs xs' : List Value} (h : w.ownsRow base e size v n xs) (h' : w.ownsRow base' e' size' v' n' xs') (hne : e ≠ e') : v.ownBlock = none ∨ v.ownBlock ≠ v'.ownBlock := by
  rcases h.2 with ⟨rfl, _⟩ | ⟨g, cap, cur, rfl, _, hg, _⟩
  · exact .inl rfl
  · refine .inr fun he => ?_
    rcases h'.2 with ⟨rfl, _⟩ | ⟨g', cap', cur', rfl, _, hg', _⟩
    · cases he
    · have hgg : g = g' := by simpa [Value.ownBlock] using he
      subst hgg
      rw [hg] at hg'
      cases hg'
      exact hne rfl
/-- a head with the slice of its lines: three cells -/
abbrev Item := (Str × Str) × Value
def itC (p : Item) : List Value := [.string (bs p.1.1), .string (bs p.1.2), p.2]
theorem itC_len (p : Item) : (itC p).length = 3 := rfl
section
variable {P : Program} {t k e : TypeId} (T : MapV P t k e (Str × Str))
/-- what a round of postings keeps: the map under way, the items that are done, the head that is being done -/
structure RndP (pe ie : TypeId) (w : World) (b r base n : Nat) (f : Str × Str → Option Value) (g : Str × Str → List Int) (left : Str × Str → Bool) (cnt : Nat) (out : Value) (I : List Item) (cur : Option (Str × Str)) : Prop where
  map : MapW T w b r n f left cnt
  types : pe ≠ ie
  todo : ∀ s v, left s = true → f s = some v → OwnI ie w base v (g s)
  row : w.ownsRow base pe 3 out I.length (I.flatMap itC)
  lines : ∀ p ∈ I, OwnI ie w base p.2 (Lib.compact (sortI (g p.1)))
  done : ∀ p ∈ I, left p.1 = false ∧ ∃ v, f p.1 = some v ∧ p.2.ownBlock = v.ownBlock
  once : (I.map (·.1)).Nodup
  all : ∀ s, f s ≠ none → left s = true ∨ s ∈ I.map (·.1) ∨ cur = some s
  now : ∀ s, cur = some s → left s = false ∧ s ∉ I.map (·.1)
  apart : ∀ s s' v v', f s = some v → f s' = some v' → s ≠ s' → Apart v v'
variable {T}
variable {pe ie : TypeId} {w w' : World} {b r base n cnt : Nat} {f : Str × Str → Option Value} {g : Str × Str → List Int} {left : Str × Str → Bool} {out : Value} {I : List Item} {cur : Option (Str × Str)}
theorem MapW.below {κ : Type} {T : MapV P t k e κ} {f : κ → Option Value} {left : κ → Bool} (h : MapW T w b r n f left cnt) (hb : Below w.heap.size w w') : MapW T w' b r n f left cnt := by
  have hg : w.grownBy w' none := ⟨hb.os, hb.tape, hb.output, hb.size, fun k hk _ => hb.block k hk⟩
  exact h.kept hg (by simp) (by simp)
theorem MapW.iter {κ : Type} {T : MapV P t k e κ} {f : κ → Option Value} {left : κ → Bool} (h : MapW T w b r n f left cnt) {base' n' size : Nat} {e' : TypeId} {v : Value} {xs : List Value} (ho : w.ownsRow base' e' size v n' xs) : some r ≠ v.ownBlock := by
  obtain ⟨D, lf, h1, _⟩ := h
  exact Go.row_ne_iter ho h1
/-- new blocks and draws change nothing -/
theorem RndP.below (h : RndP T pe ie w b r base n f g left cnt out I cur) (hb : Below w.heap.size w w') : RndP T pe ie w' b r base n f g left cnt out I cur :=
  { h with
    map := h.map.below hb
    todo := fun s v hs hv => (h.todo s v hs hv).below hb
    row := owns_below h.row hb
    lines := fun p hp => (h.lines p hp).below hb }
/-- the next head is taken -/
theorem RndP.next {s : Str × Str} {cnt' : Nat} (h : RndP T pe ie w b r base n f g left cnt out I none) (hl : left s = true) (hm : MapW T w' b r n f (fun x => left x && !decide (x = s)) cnt') (hg : w.grownBy w' (some r)) :
    RndP T pe ie w' b r base n f g (fun x => left x && !decide (x = s)) cnt' out I (some s) where
  map := hm
  types := h.types
  todo x v hx hv := by
    simp only [Bool.and_eq_true] at hx
    have h1 := h.todo x v hx.1 hv
    exact h1.kept hg (.inr fun he => h.map.iter h1.1 he.symm)
  row := h.row.kept hg (.inr fun he => h.map.iter h.row he.symm)
  lines p hp := (h.lines p hp).kept hg (.inr fun he => h.map.iter (h.lines p hp).1 he.symm)
  done p hp := ⟨by rw [(h.done p hp).1]; rfl, (h.done p hp).2⟩
  once := h.once
  all x hx := by
    by_cases hxs : x = s
    · exact .inr (.inr (by rw [hxs]))
    · rcases h.all x hx with h1 | h1 | h1
      · exact .inl (by rw [h1]; simp [hxs])
      · exact .inr (.inl h1)
      · cases h1
  now x hx := by
    cases hx
    refine ⟨by simp, fun hm => ?_⟩
    obtain ⟨p, hp, rfl⟩ := List.mem_map.1 hm
    have := (h.done p hp).1
    rw [hl] at this
    cases this
  apart := h.apart
/-- the slice of the head that is being done is worked on -/
theorem RndP.touch {s : Str × Str} {v : Value} {xs : List Int} (h : RndP T pe ie w b r base n f g left cnt out I (some s)) (hf : f s = some v) (hv : OwnI ie w base v xs) (hg : w.grownBy w' v.ownBlock) : RndP T pe ie w' b r base n f g left cnt out I (some s) := by
  obtain ⟨o, ho, hoc⟩ := h.map.map.obj
  have hbv : some b ≠ v.ownBlock := by
    rcases own_not hv.1 ho hoc with h1 | h1
    · rw [h1]; simp
    · exact fun e => h1 e.symm
  have far : ∀ x u, x ≠ s → f x = some u → u.ownBlock = none ∨ u.ownBlock ≠ v.ownBlock := fun x u hx hu => h.apart x s u v hu hf hx
  exact { h with
    map := h.map.kept hg hbv (h.map.iter hv.1)
    todo := fun x u hx hu => (h.todo x u hx hu).kept hg (far x u (fun e => by rw [e, ((h.now s rfl).1)] at hx; cases hx) hu)
    row := h.row.kept hg (own_type h.row hv.1 h.types)
    lines := fun p hp => (h.lines p hp).kept hg (by
      obtain ⟨_, u, hu, hue⟩ := h.done p hp
      rw [hue]
      exact far p.1 u (fun e => (h.now s rfl).2 (List.mem_map.2 ⟨p, hp, e⟩)) hu) }
/-- the head is done: its item is appended -/
theorem RndP.push {s : Str × Str} {v u out' : Value} (h : RndP T pe ie w b r base n f g left cnt out I (some s)) (hf : f s = some v) (hu : OwnI ie w base u (Lib.compact (sortI (g s)))) (hub : u.ownBlock = v.ownBlock)
    (hrow : w'.ownsRow base pe 3 out' (I.length + 1) (I.flatMap itC ++ itC (s, u))) (hg : w.grownBy w' out.ownBlock) : RndP T pe ie w' b r base n f g left cnt out' (I ++ [(s, u)]) none := by
  obtain ⟨o, ho, hoc⟩ := h.map.map.obj
  have hbo : some b ≠ out.ownBlock := by
    rcases own_not h.row ho hoc with h1 | h1
    · rw [h1]; simp
    · exact fun e => h1 e.symm
  have keep : ∀ {z : Value} {xs : List Int}, OwnI ie w base z xs → OwnI ie w' base z xs := fun hz => hz.kept hg (own_type hz.1 h.row (Ne.symm h.types))
  exact {
    map := h.map.kept hg hbo (h.map.iter h.row)
    types := h.types
    todo := fun x z hx hz => keep (h.todo x z hx hz)
    row := by
      rw [List.length_append, List.flatMap_append]
      simpa using hrow
    lines := fun p hp => by
      rcases List.mem_append.1 hp with hp | hp
      · exact keep (h.lines p hp)
      · rw [List.mem_singleton] at hp
        subst hp
        exact keep hu
    done := fun p hp => by
      rcases List.mem_append.1 hp with hp | hp
      · exact h.done p hp
      · rw [List.mem_singleton] at hp
        subst hp
        exact ⟨(h.now s rfl).1, v, hf, hub⟩
    once := by
      rw [List.map_append, List.nodup_append]
      refine ⟨h.once, by simp, fun a ha c hc hac => ?_⟩
      simp only [List.map_cons, List.map_nil, List.mem_singleton] at hc
      subst hc
      subst hac
      exact (h.now _ rfl).2 ha
    all := fun x hx => by
      rw [List.map_append, List.mem_append]
      rcases h.all x hx with h1 | h1 | h1
      · exact .inl h1
      · exact .inr (.inl (.inl h1))
      · cases h1
        exact .inr (.inl (.inr (by simp)))
    now := fun _ hx => by cases hx
    apart := h.apart }
end
end Go.Ap

/-
  slices.SortFunc of postings by order (the application of the shelf).
-/





namespace Go.Proofs.YtngdmpkoedpgdaaGreatDoor
open Go.RowKit Go.Ap Go.Shelf Go.Proofs Go.Sort
abbrev ItS := {p : Go.Ap.Item // p.1.1.length ≤ 4611686018427387903 ∧ p.2.oneCell' = true}
instance : Inhabited ItS := ⟨⟨(([], []), .bool false), by simp, rfl⟩⟩
theorem swo_head : SWO (ltOf fun p q : ItS => headM mkB p.1.1 q.1.1) := by
  have hc := cmp_head mkB
  have neg : ∀ {x y : Str × Str}, ¬headM mkB x y < 0 → x = y ∨ headM mkB y x < 0 := fun {x y} h => by
    by_cases h0 : headM mkB x y = 0
    · exact .inl (hc.zero.1 h0)
    · exact .inr (hc.swap.2 (by omega))
  have lt : ∀ (x y : ItS), (ltOf fun p q : ItS => headM mkB p.1.1 q.1.1) x y = decide (headM mkB x.1.1 y.1.1 < 0) := fun _ _ => rfl
  refine ⟨fun x => ?_, fun x y z h1 h2 => ?_, fun x y z h1 h2 => ?_⟩
  · rw [lt, decide_eq_false_iff_not, hc.self]
    omega
  · rw [lt, decide_eq_true_eq] at *
    exact hc.trans h1 h2
  · rw [lt, decide_eq_false_iff_not] at *
    intro h3
    rcases neg h1 with e1 | e1
    · rw [e1] at h3
      exact h2 h3
    · rcases neg h2 with e2 | e2
      · rw [← e2] at h3
        exact h1 h3
      · have h4 := hc.trans e2 e1
        exact hc.asym h3 h4
theorem sortPosts (gb n cap : Nat) (d : Array ItS) (w : World) (hd : d.size = n) (hH : HoldsK (fun p : ItS => itC p.1) 3 w gb 0 d) (hb : gb < w.heap.size) (hn : n ≤ 4096) :
    Calls Tryz.prog 126 #[.slice (some ⟨gb, 0, none⟩) n cap, .func (.func 127) #[] #[]] w fun e w' =>
      e = .returned (.tuple #[]) ∧ ∃ d' m os, PermIn 0 d.size d d' ∧ SortedIn (ltOf fun p q : ItS => headM mkB p.1.1 q.1.1) 0 d.size d' ∧ w' = sortWorldK (fun p : ItS => itC p.1) 3 w gb 0 m d' os := by
  subst hd
  exact AnyQ.slices_SortFunc Tryz.sortPost126 3 (fun w => Tryz.isAgg37 w) (fun w => Tryz.sizeOf37 w) (fun p : ItS => itC p.1) (fun p => rfl) (fun p v hv => by
    simp only [itC, List.mem_cons, List.not_mem_nil, or_false] at hv
    rcases hv with rfl | rfl | rfl
    · rfl
    · rfl
    · exact p.2.2) (fun p q => headM mkB p.1.1 q.1.1) swo_head 127 #[] gb 0 cap d w (enters_of Tryz.func127 (by kernel_rfl) rfl)
    (fun m os dk _ x y => by
      refine (orderP x.1.1 y.1.1 x.1.2 y.1.2 _ x.2.1 y.2.1).mono fun e w' ⟨h1, h2⟩ => ⟨h1, h2⟩) hH hb (by omega)
/-- in order, heads apart: strictly in order -/
theorem sorted_heads {d d' : Array ItS} (hp : PermIn 0 d.size d d') (hs : SortedIn (ltOf fun p q : ItS => headM mkB p.1.1 q.1.1) 0 d.size d') (hn : (d.toList.map fun p : ItS => p.1.1).Nodup) :
    d'.toList.Perm d.toList ∧ d'.toList.Pairwise fun p q => headM mkB p.1.1 q.1.1 < 0 := by
  have hc := cmp_head mkB
  obtain ⟨h1, _, h3⟩ := hp
  have hperm : d'.toList.Perm d.toList := by
    have e1 : d'.extract 0 d.size = d' := by rw [← h1]; exact Array.extract_size
    have e2 : d.extract 0 d.size = d := Array.extract_size
    rw [e1, e2] at h3
    exact h3
  refine ⟨hperm, ?_⟩
  have hn' : (d'.toList.map fun p : ItS => p.1.1).Nodup := (hperm.map _).nodup_iff.2 hn
  rw [List.pairwise_iff_getElem]
  intro i j hi hj hij
  have hi' : i < d'.size := by simpa using hi
  have hj' : j < d'.size := by simpa using hj
  have h4 := hs i j (Nat.zero_le _) hij (by omega)
  rw [getElem!_pos d' j hj', getElem!_pos d' i hi'] at h4
  have h5 : ¬headM mkB d'[j].1.1 d'[i].1.1 < 0 := by simpa [ltOf] using h4
  have h6 := List.pairwise_iff_getElem.1 hn' i j (by simpa using hi') (by simpa using hj') hij
  simp only [List.getElem_map, Array.getElem_toList] at h6 ⊢
  refine hc.swap.2 ?_
  by_cases h0 : headM mkB d'[j].1.1 d'[i].1.1 = 0
  · exact absurd (hc.zero.1 h0).symm h6
  · omega
theorem sortPosts0 (a : Option Addr) (cap : Nat) (fv : Value) (w : World) : Calls Tryz.prog 126 #[.slice a 0 cap, fv] w fun e w' => e = .returned (.tuple #[]) ∧ w' = w :=
  AnyF.slices_SortFunc_none Tryz.sortPost126 a cap fv w
end Go.Proofs.YtngdmpkoedpgdaaGreatDoor

/-
  Postings: the row of items as the sort wants it, and what the sort gives.
-/



namespace Go.Proofs.YtngdmpkoedpgdaaGreatDoor
open Go.RowKit Go.Ap Go.Shelf Go.Proofs Go.Sort
theorem flatAt {α : Type} {f : α → List Value} {m : Nat} (hf : ∀ x, (f x).length = m) : ∀ {xs : List α} {k : Nat} {x : α} {i : Nat} {u : Value}, xs[k]? = some x → (f x)[i]? = some u → (xs.flatMap f)[k * m + i]? = some u
  | [], k, x, i, u, h, _ => by simp at h
  | y :: xs, 0, x, i, u, h, hu => by
    simp only [List.getElem?_cons_zero, Option.some.injEq] at h
    subst h
    rw [List.flatMap_cons, Nat.zero_mul, Nat.zero_add, List.getElem?_append_left (List.getElem?_eq_some_iff.1 hu).1]
    exact hu
  | y :: xs, k + 1, x, i, u, h, hu => by
    rw [List.flatMap_cons, List.getElem?_append_right (by rw [hf, Nat.succ_mul]; omega), hf, Nat.succ_mul, show k * m + m + i - m = k * m + i by omega]
    exact flatAt hf (by simpa using h) hu
theorem itC_get (p : Go.Ap.Item) {c : Nat} (hc : c < 3) : (itC p)[c]? = some (itC p)[c]! := by
  rw [List.getElem?_eq_getElem (by rw [itC_len]; exact hc), getElem!_pos (itC p) c (by rw [itC_len]; exact hc)]
theorem holdsK_row {w : World} {base g cap n : Nat} {e : TypeId} {d : Array ItS} (h : w.ownsRow base e 3 (.slice (some ⟨g, 0, none⟩) n cap) n ((d.toList.map (·.1)).flatMap itC)) (hn : d.size = n) : HoldsK (fun p : ItS => itC p.1) 3 w g 0 d := by
  intro t ht
  rw [size_flatK] at ht
  rw [get_flatK _ _ _ _ ht, Nat.zero_add]
  have hk : t / 3 < d.size := by omega
  refine ⟨?_, h.frozenAt t⟩
  rw [h.cellAt t (by omega)]
  have h0 : (d.toList.map (·.1))[t / 3]? = some (d[t / 3]!).1 := by
    rw [List.getElem?_map, Array.getElem?_toList, Array.getElem?_eq_getElem hk, getElem!_pos d (t / 3) hk]
    rfl
  have h1 := flatAt (f := itC) (m := 3) itC_len h0 (itC_get (d[t / 3]!).1 (c := t % 3) (by omega))
  rw [show t / 3 * 3 + t % 3 = t by omega] at h1
  exact h1
theorem grown_sortK {w : World} {gb m : Nat} {d : Array ItS} {os : Array Obj} : w.grownBy (sortWorldK (fun p : ItS => itC p.1) 3 w gb 0 m d os) (some gb) := by
  unfold sortWorldK putRowK
  refine ⟨rfl, rfl, rfl, by simp, fun k hk hne => ?_⟩
  rw [heap_grow_old _ _ (by simpa using hk)]
  have : gb ≠ k := fun e => hne (by rw [e])
  simp [putRow, mapBlock, Sort.ahead, Array.getElem?_modify, this]
/-- a row of sorted items reads as postings -/
theorem posts_row {W : World} {gb : Nat} {d : Array ItS} {L : Str × Str → List Int} (hH : HoldsK (fun p : ItS => itC p.1) 3 W gb 0 d) (hn : d.size ≤ 4611686018427387903)
    (hp : ∀ p ∈ d.toList, p.1.1.1.length ≤ 4611686018427387903 ∧ p.1.1.2.length ≤ 4611686018427387903 ∧ ∃ a c, p.1.2 = .slice a (L p.1.1).length c ∧ Ints W a (L p.1.1).length (L p.1.1)) :
    Posts W (some ⟨gb, 0, none⟩) d.size (d.toList.map fun p => (p.1.1, L p.1.1)) := by
  refine ⟨by simp, hn, fun k x hk => ⟨gb, 0, rfl, ?_⟩⟩
  rw [List.getElem?_map, Option.map_eq_some_iff] at hk
  obtain ⟨p, hpk, rfl⟩ := hk
  obtain ⟨h1, h2, a, c, h3, h4⟩ := hp p (List.mem_of_getElem? hpk)
  have hkd : k < d.size := by simpa using (List.getElem?_eq_some_iff.1 hpk).1
  have hpd : d[k]! = p := by
    rw [Array.getElem?_toList, Array.getElem?_eq_getElem hkd, Option.some.injEq] at hpk
    rw [getElem!_pos d k hkd, hpk]
  have c0 := (hH.cell hkd (c := 0) (by omega)).1
  have c1 := (hH.cell hkd (c := 1) (by omega)).1
  have c2 := (hH.cell hkd (c := 2) (by omega)).1
  rw [hpd] at c0 c1 c2
  refine ⟨a, c, c0, c1, ?_, h1, h2, h4⟩
  rw [← h3]
  exact c2
theorem compact_some {l : List Int} (h : l ≠ []) : Lib.compact (Go.Ap.sortI l) ≠ [] := by
  obtain ⟨x, hx⟩ := List.exists_mem_of_ne_nil l h
  intro he
  have := ((compact_asc (Go.Ap.sortI_asc l)).2 x).2 ((Go.Ap.sortI_perm l).mem_iff.2 hx)
  rw [he] at this
  cases this
/-- sorted items are the index -/
theorem idx_items {es : List ((Str × Str) × Int)} {g : Str × Str → List Int} {I : List Go.Ap.Item} (hpw : I.Pairwise fun p q => headM mkB p.1 q.1 < 0) (hall : ∀ s, g s ≠ [] → s ∈ I.map (·.1)) (hne : ∀ p ∈ I, g p.1 ≠ []) (hes : ∀ h m, (h, m) ∈ es ↔ m ∈ g h) :
    I.map (fun p => ((p.1, Lib.compact (Go.Ap.sortI (g p.1))) : Post)) = idxM mkB es := by
  refine IsIdx.unique (cmp_head mkB) (es := es) (es' := es) ⟨?_, ?_, ?_, ?_⟩ (idx_is mkB es) (fun _ => Iff.rfl)
  · exact List.pairwise_map.2 hpw
  · intro p hp
    obtain ⟨q, hq, rfl⟩ := List.mem_map.1 hp
    exact (compact_asc (Go.Ap.sortI_asc _)).1
  · intro p hp
    obtain ⟨q, hq, rfl⟩ := List.mem_map.1 hp
    exact compact_some (hne q hq)
  · intro h m
    rw [hes]
    constructor
    · intro hm
      obtain ⟨q, hq, rfl⟩ := List.mem_map.1 (hall h fun e => by rw [e] at hm; cases hm)
      exact ⟨_, List.mem_map.2 ⟨q, hq, rfl⟩, rfl, ((compact_asc (Go.Ap.sortI_asc _)).2 m).2 ((Go.Ap.sortI_perm _).mem_iff.2 hm)⟩
    · rintro ⟨p, hp, rfl, hm⟩
      obtain ⟨q, hq, rfl⟩ := List.mem_map.1 hp
      exact (Go.Ap.sortI_perm _).mem_iff.1 (((compact_asc (Go.Ap.sortI_asc _)).2 m).1 hm)
/-- an index of the call's own, handed on -/
def GivesPo (w' : World) (u : Value) (l : List Post) : Prop := ∃ a c, u = .slice a l.length c ∧ Posts w' a l.length l ∧ l.length ≤ c
theorem own_one {e : TypeId} {w : World} {base : Nat} {v : Value} {xs : List Int} (h : OwnI e w base v xs) : v.oneCell' = true := by
  rcases h.1.2 with ⟨rfl, h0⟩ | ⟨g, cap, cur, rfl, _, _, h1, h2, _, _⟩
  · rfl
  · rfl
theorem comp_len (l : List Int) : (Lib.compact (Go.Ap.sortI l)).length ≤ l.length := by
  have h1 : (Lib.compact (Go.Ap.sortI l)).length ≤ (Go.Ap.sortI l).length := by
    unfold Lib.compact Lib.compactUpTo
    rw [List.length_map]
    exact Nat.le_trans (List.length_filter_le _ _) (by simp)
  have h2 := (Go.Ap.sortI_perm l).length_eq
  omega
/-- behind the loop of postings: what is to be sorted, and what the sort makes of it -/
theorem rnd_end {w W : World} {b r base n cnt : Nat} {f : Str × Str → Option Value} {g : Str × Str → List Int} {left : Str × Str → Bool} {ov : Value} {I : List Go.Ap.Item} {es : List ((Str × Str) × Int)}
    (R : RndP tHd 37 3 W b r base n f g left cnt ov I none) (hall : ∀ s, left s = false) (hf1 : ∀ s, f s = none → g s = []) (hf2 : ∀ s v, f s = some v → OwnI 3 w base v (g s) ∧ g s ≠ []) (hes : ∀ h m, (h, m) ∈ es ↔ m ∈ g h)
    (hel : ∀ x ∈ es, x.1.1.length ≤ 4611686018427387903 ∧ x.1.2.length ≤ 4611686018427387903) (hgn : ∀ s, (g s).length ≤ 1000000) (hIn : I.length ≤ 4096) :
    ov = .slice none 0 0 ∧ idxM mkB es = [] ∨
    ∃ (gb cap k : Nat) (d : Array ItS), ov = .slice (some ⟨gb, 0, none⟩) k cap ∧ k = I.length ∧ d.size = k ∧ HoldsK (fun p : ItS => itC p.1) 3 W gb 0 d ∧ gb < W.heap.size ∧
      ∀ d' m os, PermIn 0 d.size d d' → SortedIn (ltOf fun p q : ItS => headM mkB p.1.1 q.1.1) 0 d.size d' →
        GivesPo (sortWorldK (fun p : ItS => itC p.1) 3 W gb 0 m d' os) (.slice (some ⟨gb, 0, none⟩) k cap) (idxM mkB es) ∧
        (Below base w W → base ≤ w.heap.size → Below base w (sortWorldK (fun p : ItS => itC p.1) 3 W gb 0 m d' os)) := by
  have hin : ∀ s, g s ≠ [] → s ∈ I.map (·.1) := fun s hs => by
    rcases R.all s (fun e => hs (hf1 s e)) with h | h | h
    · rw [hall] at h; cases h
    · exact h
    · cases h
  have hne : ∀ p ∈ I, g p.1 ≠ [] := fun p hp => by
    obtain ⟨_, v, hv, _⟩ := R.done p hp
    exact (hf2 _ _ hv).2
  rcases R.row.2 with ⟨rfl, h0⟩ | ⟨gb, cap, cur, rfl, hbg, hgb, hc1, hc2, hc3, hc4⟩
  · have hI : I = [] := List.eq_nil_of_length_eq_zero h0
    subst hI
    exact .inl ⟨rfl, (idx_items (es := es) (g := g) .nil hin hne hes).symm⟩
  · refine .inr ?_
    have hfit : ∀ p ∈ I, p.1.1.length ≤ 4611686018427387903 ∧ p.1.2.length ≤ 4611686018427387903 := fun p hp => by
      obtain ⟨m, hm⟩ := List.exists_mem_of_ne_nil _ (hne p hp)
      exact hel _ ((hes p.1 m).2 hm)
    have hP : ∀ p ∈ I, p.1.1.length ≤ 4611686018427387903 ∧ p.2.oneCell' = true := fun p hp => ⟨(hfit p hp).1, own_one (R.lines p hp)⟩
    obtain ⟨d, hd⟩ : ∃ d : Array ItS, d.toList.map (·.1) = I := ⟨(I.attachWith _ hP).toArray, by rw [List.toList_toArray]; exact List.attachWith_map_subtype_val hP⟩
    have hds : d.size = I.length := by rw [← hd]; simp
    have hgl : gb < W.heap.size := (Array.getElem?_eq_some_iff.1 hgb).1
    have hH : HoldsK (fun p : ItS => itC p.1) 3 W gb 0 d := holdsK_row (by rw [hd]; exact R.row) hds
    refine ⟨gb, cap, I.length, d, rfl, rfl, hds, hH, hgl, fun d' m os hp hs => ?_⟩
    have hnd : (d.toList.map fun p : ItS => p.1.1).Nodup := by
      have := R.once
      rw [← hd, List.map_map] at this
      exact this
    obtain ⟨hperm, hpw⟩ := sorted_heads hp hs hnd
    have hds' : d'.size = d.size := by have := hperm.length_eq; simpa using this
    have hg := grown_sortK (w := W) (gb := gb) (m := m) (d := d') (os := os)
    have hH' := holdsK_sortWorldK_c (enc := fun p : ItS => itC p.1) (k := 3) (w := W) (blk := gb) (off := 0) d d' m os hH hgl hds'
    have hmem : ∀ p ∈ d'.toList, p.1 ∈ I := fun p hp => by
      rw [← hd]
      exact List.mem_map.2 ⟨p, hperm.mem_iff.1 hp, rfl⟩
    have hPo := posts_row (L := fun s => Lib.compact (Go.Ap.sortI (g s))) hH' (by omega) (fun p hp => by
      have hl := R.lines p.1 (hmem p hp)
      have hl' := hl.kept hg (own_type hl.1 R.row (Ne.symm R.types))
      obtain ⟨a, c, h1, h2⟩ := hl'.ints (by have a := comp_len (g p.1.1); have b := hgn p.1.1; omega)
      exact ⟨(hfit p.1 (hmem p hp)).1, (hfit p.1 (hmem p hp)).2, a, c, h1, h2⟩)
    have hidx : (d'.toList.map fun p => ((p.1.1, Lib.compact (Go.Ap.sortI (g p.1.1))) : Post)) = idxM mkB es := by
      have h1 : ∀ s, g s ≠ [] → s ∈ (d'.toList.map (·.1)).map (·.1) := fun s hs => by
        obtain ⟨p, hp, rfl⟩ := List.mem_map.1 (hin s hs)
        rw [← hd] at hp
        obtain ⟨q, hq, rfl⟩ := List.mem_map.1 hp
        exact List.mem_map.2 ⟨q.1, List.mem_map.2 ⟨q, hperm.mem_iff.2 hq, rfl⟩, rfl⟩
      have h2 : ∀ p ∈ d'.toList.map (·.1), g p.1 ≠ [] := fun p hp => by
        obtain ⟨q, hq, rfl⟩ := List.mem_map.1 hp
        exact hne _ (hmem q hq)
      have h0 : (d'.toList.map fun p : ItS => p.1).Pairwise fun p q : Go.Ap.Item => headM mkB p.1 q.1 < 0 := by
        rw [List.pairwise_map]
        exact hpw
      have h3 := idx_items (es := es) (g := g) h0 h1 h2 hes
      rw [List.map_map] at h3
      exact h3
    have hlen : (idxM mkB es).length = I.length := by rw [← hidx]; simp [hds', hds]
    rw [hidx, hds', hds] at hPo
    refine ⟨⟨_, cap, by rw [hlen], by rw [hlen]; exact hPo, by rw [hlen]; exact hc1⟩, fun hb hbs => hb.grown hg (by have := hb.size; omega) fun k hk => ?_⟩
    cases hk
    exact hbg
/-- an index of the call's own, handed on -/
theorem GivesPo.nil (w : World) : GivesPo w (.slice none 0 0) [] := ⟨none, 0, rfl, SlM.nil _ _, Nat.le_refl _⟩
end Go.Proofs.YtngdmpkoedpgdaaGreatDoor

/-
  postings: the index of the groups.
-/



namespace Go.Proofs.YtngdmpkoedpgdaaGreatDoor
open Go.RowKit Go.Ap Go.Shelf Go.Proofs

attribute [local go_sem] Oper.semAt_some bs_toList empty_toList bs_size bs_extract

theorem infoPost : (Tryz.prog.info? 37).map (fun i => (i.zero, i.size, i.bytes)) = some (some (.agg #[.string { data := #[] }, .string { data := #[] }, .slice none 0 0]), 3, 56) := by kernel_rfl
set_option maxRecDepth 100000 in
set_option maxHeartbeats 8000000 in
theorem postingsP (b base n : Nat) (g : Str × Str → List Int) (w : World) (hG : Grp tHd 3 w b base n g) (hbase : base ≤ w.heap.size) (hn : n ≤ 4096) (hgl : ∀ s, (g s).length ≤ 1000000) (es : List ((Str × Str) × Int)) (hes : ∀ h m, (h, m) ∈ es ↔ m ∈ g h) (hel : ∀ x ∈ es, x.1.1.length ≤ 4611686018427387903 ∧ x.1.2.length ≤ 4611686018427387903) :
    Calls Tryz.prog 65 #[.map (some b)] w fun e w' => (∃ u, e = .returned u ∧ GivesPo w' u (idxM mkB es)) ∧ Below base w w' := by
  obtain ⟨i0, hi, hz0, hz1, hz2⟩ := info_parts infoPost
  obtain ⟨f, hM, hF1, hF2, hF3⟩ := hG
  obtain ⟨W1, cnt0, hrg, hmw, hgr, hsz, hcn⟩ := hM.range
  replace hrg : (Instr.range 90 (.map (some b))).run Tryz.prog w = .ok (.pointer (some ⟨w.heap.size, 0, none⟩)) W1 := hrg
  have HGL := Lib.hid hgl
  have HF2 := Lib.hid hF2
  obtain ⟨r, hr⟩ : ∃ r, w.heap.size = r := ⟨_, rfl⟩
  rw [hr] at hrg hmw hsz
  have HR0 := Lib.hid (show RndP tHd 37 3 W1 b r base n f g (fun s => (f s).isSome) cnt0 (.slice none 0 0) [] none from
    { map := hmw, types := by decide, todo := fun s v _ hv => (hF2 s v hv).1.kept hgr (by cases h : v.ownBlock <;> simp), row := World.ownsRow_nil _ _ _ _, lines := fun p hp => absurd hp List.not_mem_nil, done := fun p hp => absurd hp List.not_mem_nil, once := by simp, all := fun s hs => .inl (Option.isSome_iff_ne_none.2 hs), now := fun _ h => absurd h (by simp), apart := hF3 })
  have HB0 := Lib.hid (show Below base w W1 from (Below.refl base w).grown hgr hbase fun k hk => by cases hk)
  have HRR := Lib.hid hr
  have HF1 := Lib.hid hF1
  have HES := Lib.hid hes
  have HEL := Lib.hid hel
  generalize hIX : idxM mkB es = ix
  have HIX := Lib.hid hIX
  clear hM hF1 hF2 hF3 hmw hgr hr hgl hes hel
  go_enter Tryz.func65, Tryz.ntmps65
  go_wp2_with (fail)
  try rw [HRR.out]
  clear hrg
  go_loopw [3] (fun ov wr => ∃ (left : Str × Str → Bool) (cnt : Nat) (I : List Go.Ap.Item), RndP tHd 37 3 wr b r base n f g left cnt ov I none ∧ Below base w wr ∧ I.length + cnt ≤ n) (fun _ wr => wr.rangeLeft b r)
  case atStart => exact ⟨_, _, _, HR0.out, HB0.out, by simpa using hcn⟩
  case round =>
    obtain ⟨wi, rfl⟩ : ∃ wi : World, wi = wr := ⟨_, rfl⟩
    obtain ⟨left, cnt, I, hR, hb, hIc⟩ := hrel
    have HB := Lib.hid hb
    have HR := Lib.hid hR
    rcases hR.map.next 0 with ⟨_, hall, hrun⟩ | ⟨s, v, W2, cnt', hfit, hls, hfs, hrun, hm2, hlt, hg2, hs2, hen⟩
    · replace hrun : (Instr.next (.pointer (some ⟨r, 0, none⟩)) false 0).run Tryz.prog wi = .ok (.tuple #[.bool false]) wi := hrun
      have HALL := Lib.hid hall
      have HIC := Lib.hid hIc
      clear hall hIc
      rcases rnd_end HR.out HALL.out HF1.out HF2.out HES.out HEL.out HGL.out (by have := HIC.out; omega) with ⟨rfl, hnil⟩ | ⟨gb, cap, k, d, rfl, hkI, hds, hH, hgl, hend⟩
      · have HS := Lib.hid (fun w => sortPosts0 none 0 (.func (.func 127) #[] #[]) w)
        rw [hIX] at hnil
        subst hnil
        clear hR hb
        go_wp2_with (fail)
        refine (HS.out _).mono ?_
        rintro e W9 ⟨rfl, rfl⟩
        go_wp2_with (fail)
        go_ret
        exact ⟨⟨_, rfl, GivesPo.nil _⟩, HB.out⟩
      · have HS := Lib.hid (sortPosts gb k cap d wi hds hH hgl (by have := HIC.out; omega))
        have HE := Lib.hid hend
        clear hR hb hkI hds hH hgl hend
        go_wp2_with (fail)
        refine HS.out.mono ?_
        rintro e W9 ⟨rfl, d', m, os, hp, hs, rfl⟩
        have HQ := Lib.hid (HE.out d' m os (by exact hp) (by exact hs))
        clear hp hs
        go_wp2_with (fail)
        go_ret
        exact ⟨⟨_, rfl, HIX.out ▸ HQ.out.1⟩, HQ.out.2 HB.out hbase⟩
    · replace hrun : (Instr.next (.pointer (some ⟨r, 0, none⟩)) false 0).run Tryz.prog wi = .ok (.tuple #[.bool true, .agg #[.string (bs s.1), .string (bs s.2)], v]) W2 := hrun
      replace hen : (Instr.entry (.pointer (some ⟨r, 0, none⟩))).run Tryz.prog W2 = .ok (.tuple #[.agg #[.string (bs s.1), .string (bs s.2)], v]) W2 := hen
      have hle := hR.map.left_eq
      have HN := Lib.hid (hR.next hls hm2 hg2)
      have hv0 := hR.todo s v hls hfs
      have HV2 := Lib.hid (show OwnI 3 W2 base v (g s) from hv0.kept hg2 (.inr fun he => hR.map.iter hv0.1 he.symm))
      have HNE := Lib.hid (HF2.out s v hfs).2
      have HB2 := Lib.hid (show Below base w W2 from hb.grown hg2 (by have := hb.size; omega) fun k hk => (by
        cases hk
        have := HRR.out
        omega))
      have HFS := Lib.hid hfs
      have HLT := Lib.hid hlt
      obtain ⟨X, hX⟩ : ∃ X, W2.heap.size = X := ⟨_, rfl⟩
      have HA := Lib.hid (balloc W2 (.cells #[.string (bs s.1), .string (bs s.2)] 92))
      have K := Lib.hid (show BlkK (W2.alloc (.cells #[.string (bs s.1), .string (bs s.2)] 92)) X #[.string (bs s.1), .string (bs s.2)] 92 by rw [← hX]; exact BlkK.new W2 _ _)
      obtain ⟨WA, hWA⟩ : ∃ W, W2.alloc (.cells #[.string (bs s.1), .string (bs s.2)] 92) = W := ⟨_, rfl⟩
      rw [hWA] at HA K
      have hva := HV2.out.below HA.out
      obtain ⟨a, c, rfl, hsort⟩ := sortG base v (g s) WA hva (HGL.out s) HNE.out
      have HVA := Lib.hid hva
      have HS := Lib.hid hsort
      clear hR hb hfit hls hm2 hg2 hs2 hv0 hfs hlt hva hsort
      go_wp2_with (fail)
      refine HS.out.mono ?_
      rintro e W3 ⟨rfl, ho3, hg3⟩
      have R3 := Lib.hid ((HN.out.below HA.out).touch HFS.out HVA.out hg3)
      have K3 := Lib.hid (K.out.keptE hg3 (K.out.apart HVA.out.1 (by decide)))
      have HO3 := Lib.hid ho3
      have hp := Go.Ap.sortI_perm (g s)
      obtain ⟨a', c', he, hcomp⟩ := compG base _ (Go.Ap.sortI (g s)) W3.drew (ho3.below (bdrewN W3 1)) (by rw [hp.length_eq]; exact HGL.out s) (fun h0 => HNE.out (List.eq_nil_of_length_eq_zero (by rw [← hp.length_eq, h0]; rfl))) (Go.Ap.sortI_asc _)
      rw [hp.length_eq] at he hcomp
      cases he
      have HC := Lib.hid hcomp
      have HB3 := Lib.hid (show Below base w W3 from (HB2.out.trans (HA.out.mono (by have := HB2.out.size; omega))).grown hg3 (by have h1 := HA.out.size; have h2 := HB2.out.size; omega) fun k hk => (HVA.out.1.lt k hk).1)
      clear ho3 hg3 hcomp hp
      go_wp2_with (fail)
      refine (wpIn_wide (n := 20)).1 ?_
      refine wpIn_region_planN (fun W' => BlkK W' X #[.string (bs s.1), .string (bs s.2)] 92) (.take 0 <| .take 1 <| .take 2 <| .take 3 <| .take 4 <| .take 5 <| .one 6 <| .take 7 <| .one 8 <| .one 9 <| .take 10 <| .fin) (fun _ => trivial) (by kernel_rfl) (by kernel_rfl) (show BlkK _ X _ _ from K3.out.below (bdrewN _ 1)) ?_
      iterate 2
        apply plan_take rfl rfl (by rfl)
        case hy =>
          rintro W' hb'
          clear hb'
          go_simp
          first | done | with_reducible rfl
        simp only [List.setIfInBounds_toArray, List.set_cons_zero, List.set_cons_succ]
      apply plan_take rfl rfl (by rfl)
      case hy =>
        rintro W' hb'
        have x0 : W'.cell? ⟨X, 0, none⟩ = some (.string (bs s.1)) := hb'.cell (i := 0) rfl
        clear hb'
        go_simp
        first | done | with_reducible rfl
      simp only [List.setIfInBounds_toArray, List.set_cons_zero, List.set_cons_succ]
      apply plan_take rfl rfl (by rfl)
      case hy =>
        rintro W' hb'
        clear hb'
        go_simp
        first | done | with_reducible rfl
      simp only [List.setIfInBounds_toArray, List.set_cons_zero, List.set_cons_succ]
      apply plan_take rfl rfl (by rfl)
      case hy =>
        rintro W' hb'
        have x1 : W'.cell? ⟨X, 1, none⟩ = some (.string (bs s.2)) := hb'.cell (i := 1) rfl
        clear hb'
        go_simp
        first | done | with_reducible rfl
      simp only [List.setIfInBounds_toArray, List.set_cons_zero, List.set_cons_succ]
      apply plan_take rfl rfl (by rfl)
      case hy =>
        rintro W' hb'
        clear hb'
        go_simp
        first | done | with_reducible rfl
      simp only [List.setIfInBounds_toArray, List.set_cons_zero, List.set_cons_succ]
      refine plan_one rfl ?_
      gi_wp2_with (fail)
      refine ⟨trivial, (callsIn_wide.2 HC.out).mono ?_⟩
      rintro e W4 ⟨u, rfl, ho4, hg4, hub⟩
      have R4 := Lib.hid ((R3.out.below (bdrewN W3 1)).touch HFS.out (HO3.out.below (bdrewN W3 1)) hg4)
      have K4 := Lib.hid ((K3.out.below (bdrewN W3 1)).keptE hg4 ((K3.out.below (bdrewN W3 1)).apart (HO3.out.below (bdrewN W3 1)).1 (by decide)))
      have HO4 := Lib.hid ho4
      have HUB := Lib.hid hub
      have HB4 := Lib.hid (show Below base w W4 from (HB3.out.trans ((bdrewN W3 1).mono (by have := HB3.out.size; omega))).grown hg4 (by have := HB3.out.size; show base ≤ W3.heap.size; omega) fun k hk => ((HO3.out.below (bdrewN W3 1)).1.lt k hk).1)
      have hsz4 : base ≤ W4.heap.size := by have := HB4.out.size; omega
      have hcl : (Lib.compact (Go.Ap.sortI (g s))).length ≤ 4611686018427387903 := by
        have h1 : (Lib.compact (Go.Ap.sortI (g s))).length ≤ (Go.Ap.sortI (g s)).length := by
          unfold Lib.compact Lib.compactUpTo
          rw [List.length_map]
          exact Nat.le_trans (List.length_filter_le _ _) (by simp)
        have h2 := (Go.Ap.sortI_perm (g s)).length_eq
        have h3 := HGL.out s
        omega
      obtain ⟨a5, k5, rfl, _⟩ := ho4.ints hcl
      obtain ⟨m5, hm5⟩ : ∃ m, (Lib.compact (Go.Ap.sortI (g s))).length = m := ⟨_, rfl⟩
      rw [hm5] at HUB HO4
      simp only [hm5]
      clear ho4 hg4 hub
      gi_wp2_with (fail)
      refine ⟨K4.out, ?_⟩
      apply plan_take rfl rfl (by rfl)
      case hy =>
        rintro W' hb'
        clear hb'
        go_simp
        first | done | with_reducible rfl
      simp only [List.setIfInBounds_toArray, List.set_cons_zero, List.set_cons_succ]
      refine plan_one rfl ?_
      gi_wp2_with (fail)
      refine ⟨K4.out.allocK _, ?_⟩
      have HNW := Lib.hid (show ∀ (j : Nat) (u : Value), [.string (bs s.1), .string (bs s.2), .slice a5 m5 k5][j]? = some u → (W4.alloc (.cells #[.string (bs s.1), .string (bs s.2), .slice a5 m5 k5] 37)).cell? ((⟨W4.heap.size, 0, none⟩ : Addr).add j) = some u from World.news_of_block (cs := #[.string (bs s.1), .string (bs s.2), .slice a5 m5 k5]) (heap_fresh rfl))
      have HROW := Lib.hid R4.out.row
      refine plan_one rfl ?_
      refine wpListIn_append_own _ rfl _ _ 27 rfl base 37 i0 (.agg #[.string { data := #[] }, .string { data := #[] }, .slice none 0 0]) 3 56 Tryz.underlying27 hi hz0 hz1 hz2 rfl (by decide) _ _ _ rfl (HROW.out.alloc _) ⟨W4.heap.size, 0, none⟩ 1 1 [.string (bs s.1), .string (bs s.2), .slice a5 m5 k5] rfl rfl HNW.out (by simp [Value.oneCell']) (by unfold maxLen; omega) (by omega) (by simp; omega) ?_
      intro v' w9 hown' hgr' _
      have HW9 := Lib.hid hown'
      have HG9 := Lib.hid hgr'
      clear hown' hgr'
      have HG := Lib.hid (show (W4.alloc (.cells #[.string (bs s.1), .string (bs s.2), .slice a5 m5 k5] 37)).grownBy w9 u3.ownBlock from HG9.out)
      have RA := Lib.hid (R4.out.below (balloc W4 (.cells #[.string (bs s.1), .string (bs s.2), .slice a5 m5 k5] 37)))
      have K9 := Lib.hid ((K4.out.allocK (.cells #[.string (bs s.1), .string (bs s.2), .slice a5 m5 k5] 37)).keptE HG.out ((K4.out.allocK (.cells #[.string (bs s.1), .string (bs s.2), .slice a5 m5 k5] 37)).apart RA.out.row (by decide)))
      have R9 := Lib.hid (RA.out.push HFS.out (HO4.out.below (balloc W4 _)) HUB.out HW9.out HG.out)
      have HB9 := Lib.hid (show Below base w w9 from (HB4.out.alloc hsz4 _).grown HG.out (by simp; omega) fun k hk => (RA.out.row.lt k hk).1)
      have hle9 := R9.out.map.left_eq
      have hlt9 := HLT.out
      clear HW9 HG9
      rw [put_some (d := 24) rfl]
      simp only [List.setIfInBounds_toArray, List.set_cons_zero, List.set_cons_succ]
      gi_wp2_with (fail)
      refine ⟨K9.out, ?_⟩
      apply plan_take rfl rfl (by rfl)
      case hy =>
        rintro W' hb'
        clear hb'
        go_simp
        first | done | with_reducible rfl
      simp only [List.setIfInBounds_toArray, List.set_cons_zero, List.set_cons_succ]
      refine plan_fin ?_
      gi_wp2_with (fail)
      go_wp2_with (fail)
      go_roundw
      case rel => exact ⟨_, cnt', _, R9.out, HB9.out, by rw [List.length_append, List.length_singleton]; omega⟩
      case measure => omega
end Go.Proofs.YtngdmpkoedpgdaaGreatDoor
