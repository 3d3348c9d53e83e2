import Derived.Maps.OwnIn
import Derived.RangeFuncWrites
import Derived.Test.YtjmebijckcimoaaGreatDoorGo24
import Derived.Test.YtjmebijckcimoaaGreatDoorPlM24
import Derived.Test.YtjmebijckcimoaaGreatDoorSp
import Derived.Test.YtjmebijckcimoaaGreatDoorPp24
import Derived.Test.YtjmebijckcimoaaGreatDoorCn24
namespace Go.Ap
theorem BlkK.coll {W : Go.World} {b : Nat} {sec : Str} {a1 : Option Go.Addr} {n1 c1 : Nat} {a2 : Option Go.Addr} {n2 c2 : Nat} {a3 : Option Go.Addr} {n3 c3 : Nat}
    (h : BlkK W b #[.string (bs sec), .slice a1 n1 c1, .slice a2 n2 c2, .slice a3 n3 c3] 26) : Go.Proofs.YtjmebijckcimoaaGreatDoor.BoxC W b sec a1 n1 c1 a2 n2 c2 a3 n3 c3 :=
  ⟨h.cell rfl, h.cell rfl, h.cell rfl, h.cell rfl⟩
end Go.Ap
namespace Go.Ap
open Go Go.RowKit
section
variable {F : Fence} {P : Program} {ops : Array Oper} {md : Region.Mode} {S : World → Prop} {n : Nat} {Q : Exit → Act → World → Prop}
/-- whatever one of S waits for, directly and through others: those below k are looked at -/
def needL (md : Region.Mode) (ops : Array Oper) : List Nat → Nat → List Nat
  | S, 0 => S
  | S, k + 1 => needL md ops (if S.any (fun s => Region.waitsFor md ops s k) then k :: S else S) k
theorem needL_listed {m t : Nat} {listed : Array Bool} (inv : HeadInv md ops m listed) (ht : t ∈ Region.ready md ops listed) : ∀ (k : Nat) (L : List Nat), (∀ s ∈ L, s = t ∨ listed.getD s false = true) → ∀ s ∈ needL md ops L k, s = t ∨ listed.getD s false = true
  | 0, _, h => h
  | k + 1, L, h => by
    rw [needL]
    refine needL_listed inv ht k _ ?_
    split
    · rename_i hw
      intro s hs
      rcases List.mem_cons.1 hs with rfl | hs
      · obtain ⟨r, hr, hrw⟩ := List.any_eq_true.1 hw
        obtain ⟨o, ho, e, he, hb, hon⟩ := Region.waitsFor_spec hrw
        obtain ⟨_, ot, hot, hall⟩ := mem_ready.1 ht
        rcases h r hr with rfl | hl
        · rw [ho] at hot
          cases hot
          have := hall e he hb
          rw [hon] at this
          exact .inr this
        · have := inv.closed r o ho hl e he hb
          rw [hon] at this
          exact .inr this
      · exact h s hs
    · exact h
def gateRB2 (md : Region.Mode) (ops : Array Oper) (m : Nat) : Bool :=
  (List.range ops.size).all fun t => decide (t < m) || (List.range m).all fun i => (needL md ops [t] t).contains i
theorem gateR_of2 {m : Nat} (h : gateRB2 md ops m = true) : GateR md ops m := by
  intro listed inv i hi hun t ht hr
  obtain ⟨_, ot, hot, _⟩ := mem_ready.1 hr
  have h1 := List.all_eq_true.1 h t (List.mem_range.2 (Array.getElem?_eq_some_iff.1 hot).1)
  simp only [Bool.or_eq_true, decide_eq_true_eq] at h1
  rcases h1 with h1 | h1
  · omega
  · have h2 := List.all_eq_true.1 h1 i (List.mem_range.2 hi)
    rcases needL_listed inv hr t [t] (fun s hs => .inl (by simpa using hs)) i (by simpa using h2) with h3 | h3
    · omega
    · rw [getD_both hun] at h3; cases h3
/-- the look at the region -/
def heldB2 (ops : Array Oper) (m : Nat) (is : List Nat) : Bool :=
  Region.noSelect ops && noDefer ops && gateRB2 .any ops m && takesB .any ops m is (Array.replicate ops.size false)
/-- some operations first, whatever comes then -/
theorem wpIn_region_heldA {id : Nat} {a : Act} {w : World} (S : World → Prop) (m k : Nat) (is : List Nat) (listed : Array Bool) (hF : ∀ f, F.fn f) (hm : P.follows .mixedOrders = true) (hB : heldB2 ops m is = true)
    (hk : k + is.length = ops.size) (hl : listL is (Array.replicate ops.size false) = listed) (hS : S w.drew)
    (h : wpTakes P ops S (fun a' => wpAnyR F n P .any ops (NoPanic Q) S m k listed a' w.drew) is a) : (Code.region id ops true).wpIn F n P Q a w := by
  refine wpIn_mono (Q := NoPanic Q) ?_ NoPanic.imp
  simp only [heldB2, Bool.and_eq_true] at hB
  obtain ⟨⟨⟨h1, h2⟩, h4⟩, h5⟩ := hB
  refine wpIn_region_any hm (anyIn_of_R (S := S) (m := m) _ _ _ _ ?_)
  subst hl
  suffices H : wpAnyR F n P .any ops (NoPanic Q) S m (k + is.length) (Array.replicate ops.size false) a { w with drawn := w.drawn + 1 } by rwa [hk] at H
  exact wpAnyR_takes hF h1 h2 (gateR_of2 h4) (fun _ _ _ _ _ h => h.elim) (by exact hS) is _ a inv_start h5 h
/-- what is listed is closed -/
def headB (md : Region.Mode) (ops : Array Oper) (m : Nat) (listed : Array Bool) : Bool :=
  decide (listed.size = ops.size) &&
  ((List.range ops.size).all fun j => !(listed.getD j false) || match ops[j]? with
    | some oj => oj.after.toList.all fun e => !(Region.binds md e) || listed.getD e.on false
    | none => true) &&
  ((List.range ops.size).all fun t => decide (t < m) || !(listed.getD t true))
theorem head_of_B {m : Nat} {listed : Array Bool} (h : headB md ops m listed = true) : HeadInv md ops m listed := by
  simp only [headB, Bool.and_eq_true, decide_eq_true_eq] at h
  obtain ⟨⟨h1, h2⟩, h3⟩ := h
  refine ⟨h1, fun j oj hj hl e he hb => ?_, fun t ht hts => ?_⟩
  · have h4 := List.all_eq_true.1 h2 j (List.mem_range.2 (Array.getElem?_eq_some_iff.1 hj).1)
    simp only [hj, hl, Bool.not_true, Bool.false_or] at h4
    have h5 := List.all_eq_true.1 h4 e (by simpa using he)
    rwa [hb, Bool.not_true, Bool.false_or] at h5
  · have h4 := List.all_eq_true.1 h3 t (List.mem_range.2 hts)
    simp only [Bool.or_eq_true, decide_eq_true_eq] at h4
    rcases h4 with h4 | h4
    · omega
    · simpa using h4
def earlyB (md : Region.Mode) (ops : Array Oper) (m i : Nat) (listed : Array Bool) : Bool :=
  Region.noSelect ops && noDefer ops && gateRB2 md ops m && headB md ops m listed && Nat.blt i m && (Region.ready md ops listed).contains i && Region.free md ops listed i
/-- an operation that reads only, as soon as it may come -/
theorem wpAnyR_early {m i d k : Nat} {oi : Oper} {v : Value} {listed : Array Bool} {a : Act} {w : World} (ho : ops[i]? = some oi) (hd : oi.dst = some d) (hF : ∀ f, F.fn f) (hB : earlyB md ops m i listed = true) (hw : Region.wanted oi (yielded ops a.tmps) = true)
    (hy : ∀ w, S w → (execOp a.eval oi).run P w = .ok (.value v) w) (hS : S w)
    (h : wpAnyR F n P md ops (NoPanic Q) S m k (listed.setIfInBounds i true) { a with tmps := a.tmps.setIfInBounds d v } w) : wpAnyR F n P md ops (NoPanic Q) S m (k + 1) listed a w := by
  simp only [earlyB, Bool.and_eq_true] at hB
  obtain ⟨⟨⟨⟨⟨⟨h1, h2⟩, h3⟩, h4⟩, h5⟩, h6⟩, h7⟩ := hB
  exact wpAnyR_first hF ho (Region.noSelect_spec h1) (fun j o c hj => noDefer_spec h2 hj c) (gateR_of2 h3) (Nat.le_of_ble_eq_true h5) (fun _ _ _ h => h.elim) k listed a w (head_of_B h4) (Region.free_spec ho h7) (by simpa using h6) (.inl ⟨hw, hy⟩) hS (by rw [put_some hd]; exact h)
/-- the one operation that may come -/
theorem wpAnyR_one {m i k : Nat} {o : Oper} {listed : Array Bool} {a : Act} {w : World} (ho : ops[i]? = some o) (hr : Region.ready md ops listed = [i])
    (h : wpListIn F n P ops (Exit.then (fun a' w' => (i < m → S w') ∧ wpAnyR F n P md ops Q S m k (listed.setIfInBounds i true) a' w') Q) [o] a w) : wpAnyR F n P md ops Q S m (k + 1) listed a w := by
  refine ⟨fun h0 => (by rw [hr] at h0; cases h0), fun j hj => ?_⟩
  rw [hr] at hj
  obtain rfl : j = i := by simpa using hj
  unfold wpOpIn
  simp only [ho]
  exact h
/-- one of two -/
theorem wpAnyR_two {m i j k : Nat} {oi oj : Oper} {listed : Array Bool} {a : Act} {w : World} (hoi : ops[i]? = some oi) (hoj : ops[j]? = some oj) (hr : Region.ready md ops listed = [i, j])
    (hi : wpListIn F n P ops (Exit.then (fun a' w' => (i < m → S w') ∧ wpAnyR F n P md ops Q S m k (listed.setIfInBounds i true) a' w') Q) [oi] a w)
    (hj : wpListIn F n P ops (Exit.then (fun a' w' => (j < m → S w') ∧ wpAnyR F n P md ops Q S m k (listed.setIfInBounds j true) a' w') Q) [oj] a w) : wpAnyR F n P md ops Q S m (k + 1) listed a w := by
  refine ⟨fun h0 => (by rw [hr] at h0; cases h0), fun t ht => ?_⟩
  rw [hr] at ht
  rcases List.mem_cons.1 ht with rfl | ht
  · unfold wpOpIn
    simp only [hoi]
    exact hi
  · obtain rfl : t = j := by simpa using ht
    unfold wpOpIn
    simp only [hoj]
    exact hj
end
end Go.Ap

namespace Go.Ap
open Go Go.RowKit
section
variable {α : Type} {F : Fence} {n : Nat} {P : Program}
/-- what is asked of the function: Fa holds of each item in the world in which it is yielded -/
def SeqTells (F : Fence) (n : Nat) (P : Program) (g : Nat) (lb : Array Value) (encs : α → Array Value) (Kp : World → World → Prop) (Fa : α → World → Prop) (S : List α → Prop) (N : Nat) (w : World) : Prop :=
  ∀ (l : Nat) (J : List α → World → Prop) (W : World), Below w.heap.size w W → AbidesFrom W.heap.size J →
    (∀ pre x W1, J pre W1 → pre.length < N → Fa x W1 → YieldAt F (n - 1) P l (encs x) W1 fun e W' => e = .returned (.bool true) ∧ J (pre ++ [x]) W' ∧ Kp W1 W') →
    J [] W →
    CallsIn F n P g (#[.func (.yield l) #[] #[]] ++ lb) W fun e W' => (∃ v, e = .returned v) ∧ ∃ xs, S xs ∧ J xs W'
/-- the body's end: the next round -/
def goesOn (B : Nat) (Kp : World → World → Prop) (I : List α → World → Prop) (xs : List α) (W : World) : Exit → Act → World → Prop
  | .normal, _, W' => KeepsFrom B W W' ∧ Kp W W' ∧ I xs W'
  | .ret, _, _ => False
  | .exit _, _, _ => False
  | .goto _, _, _ => False
  | .panic _, _, _ => False
  | .outgrown, _, _ => False
theorem wpIn_rangeFunc_tells {g : Operand} {ps : Array Tmp} {assign body : Code} {Q : Exit → Act → World → Prop} {a : Act} {w : World}
    (hro : F.round = none) (h1 : 1 ≤ n) {gf : Nat} {lb : Array Value} (hg : a.eval g = .func (.func gf) #[] lb) (hFg : F.fn gf) (eg : ∀ args w, (callFunc gf args).run P w = .ok (.enter gf args) w)
    {encs : α → Array Value} {Kp : World → World → Prop} {Fa : α → World → Prop} {S : List α → Prop} {N : Nat} {w0 : World} (hseq : SeqTells F (n - 1) P gf lb encs Kp Fa S N w0)
    (hKt : ∀ {A B C : World}, Kp A B → Kp B C → Kp A C) (hKb : ∀ (W : World) (l : Nat) (o o' : Obj), w.heap.size ≤ l → W.heap[l]? = some o → o.isCells = false → o.isWalk = false → Kp W (W.putObj l o')) (hb0 : Below w0.heap.size w0 w) (hps : ∀ x, (encs x).size = ps.size)
    (hFa : ∀ x, OwnFrom w.heap.size (fun (_ : Unit) W => Fa x W))
    (I : List α → World → Prop) (hI : OwnFrom w.heap.size I) (h0 : I [] w) (a₁ : α → Act)
    (hassign : ∀ (l : Nat) (x : α) (W : World) (K : Act → World → Prop), K (a₁ x) W →
      assign.wpIn (F.inRound l) (n - 1 - 1) P (Exit.then K (fun _ _ _ => False)) { tmps := (ps.zip (encs x)).foldl (fun t (p, v) => t.setIfInBounds p v) a.tmps, defers := [] } W)
    (hbody : ∀ (l : Nat) (pre : List α) (x : α) (W : World), I pre W → pre.length < N → Fa x W → body.wpIn (F.inRound l) (n - 1 - 1) P (goesOn w.heap.size Kp I (pre ++ [x]) W) (a₁ x) W)
    (hdone : ∀ (D : Nat) (xs : List α) (W : World), w.heap.size ≤ D → S xs → I xs W → W.heap[D]? = some (.deferred (some [])) → Q .normal { a with defers := { target := .collected D, args := #[] } :: a.defers } W) :
    (Code.rangeFunc g ps assign body).wpIn F n P Q a w := by
  refine wpIn_rangeFunc fun fn hfn => ?_
  rw [hro]
  obtain ⟨D, hD⟩ : ∃ D, D = w.heap.size := ⟨_, rfl⟩
  obtain ⟨rec, hrec⟩ : ∃ rec : LoopState → Loop, rec = fun st => { state := st, pending := none, fn, tmps := a.tmps, params := ps, assign, body, defers := w.heap.size } := ⟨_, rfl⟩
  obtain ⟨V, hV⟩ : ∃ V, (w.alloc (.deferred (some []))).alloc (.loop (rec .ready)) = V := ⟨_, rfl⟩
  have hVl : V.heap[D + 1]? = some (.loop (rec .ready)) := by
    rw [← hV]
    have := World.alloc_heap_new (w.alloc (.deferred (some []))) (.loop (rec .ready))
    rw [World.size_alloc] at this
    rwa [hD]
  have hVd : V.heap[D]? = some (.deferred (some [])) := by
    rw [← hV, hD]
    exact (Below.heap_alloc _ _ _ (by simp)).trans (World.alloc_heap_new w _)
  have hVs : V.heap.size = D + 2 := by rw [← hV, World.size_alloc, World.size_alloc, hD]
  have hVI : I [] V := by rw [← hV]; exact hI.alloc _ (hI.alloc _ h0)
  have hVb : Below w0.heap.size w0 V := by
    rw [← hV]
    exact hb0.trans ((((Below.refl _ w).alloc (Nat.le_refl _) _).alloc (by simp) _).mono hb0.size)
  have cells : ∀ {A : World} {row : Option Nat}, (∀ r, row = some r → V.heap.size ≤ r ∧ ∃ o : Obj, A.heap[r]? = some o ∧ o.isWalk = true) → ∀ r, row = some r → w.heap.size ≤ r ∧ ∃ o : Obj, A.heap[r]? = some o ∧ o.isCells = false := fun hr r e => by
    obtain ⟨g1, o, g2, g3⟩ := hr r e
    exact ⟨by omega, o, g2, Obj.not_cells_of_walk g3⟩
  have HC := hseq (D + 1) (fun pre W => I pre W ∧ W.heap[D + 1]? = some (.loop (rec .ready)) ∧ W.heap[D]? = some (.deferred (some []))) V hVb
    (fun s A B row hs hgr hr => ⟨hI s A B row hs.1 hgr (cells hr), (grownBy_keeps hgr (fun r e => (hr r e).2) hs.2.1 rfl).trans hs.2.1, (grownBy_keeps hgr (fun r e => (hr r e).2) hs.2.2 rfl).trans hs.2.2⟩)
    (fun pre x W ⟨hi, hl, hd⟩ hlen hfa => by
      have hlt : D + 1 < W.heap.size := (Array.getElem?_eq_some_iff.1 hl).1
      have hy := run_yield (P := P) (args := encs x) hl (by rw [hrec]; exact hps x)
      rw [hrec] at hy
      refine ⟨fn, _, assign, body, hy, roundIn_of_wpIn hfn (hassign _ x W _ ⟨_, run_beginRound hl (by rw [hrec]), ?_⟩)⟩
      obtain ⟨U, hU⟩ : ∃ U, W.putObj (D + 1) (.loop { rec .ready with state := .busy }) = U := ⟨_, rfl⟩
      have hUl : U.heap[D + 1]? = some (.loop { rec .ready with state := .busy }) := by rw [← hU]; exact World.putObj_heap_same hlt
      have hUd : U.heap[D]? = some (.deferred (some [])) := by rw [← hU]; exact (World.putObj_heap_other (by omega)).trans hd
      have hUk : Kp W U := by rw [← hU]; exact hKb _ _ _ _ (by omega) hl rfl rfl
      have hUI : I pre U := by rw [← hU]; exact hI.putObj _ hi (by omega) hl rfl
      have hUf : Fa x U := by rw [← hU]; exact (hFa x).putObj (s := ()) _ hfa (by omega) hl rfl
      show body.wpIn _ _ P _ _ (W.putObj (D + 1) (.loop { rec .ready with state := .busy }))
      rw [hU]
      refine wpIn_mono (hbody _ pre x U hUI hlen hUf) ?_
      rintro e a3 W3 hp
      cases e with
      | normal =>
        obtain ⟨hk3, hkp3, hi3⟩ := hp
        have hl3 := hk3.same _ _ (by omega) hUl rfl
        have hd3 := hk3.same _ _ (Nat.le_of_eq hD.symm) hUd rfl
        have hr := run_endRound (P := P) none hl3
        have hs3 := (Array.getElem?_eq_some_iff.1 hl3).1
        have hst : ({ ({ rec .ready with state := .busy } : Loop) with state := .ready, pending := none } : Loop) = rec .ready := by rw [hrec]
        refine ⟨_, _, hr, rfl, ⟨hI.putObj _ hi3 (by omega) hl3 rfl, ?_, (World.putObj_heap_other (by omega)).trans hd3⟩, hKt (hKt hUk hkp3) (hKb _ _ _ _ (by omega) hl3 rfl rfl)⟩
        rw [World.putObj_heap_same hs3]
        exact congrArg (fun z => some (Obj.loop z)) hst
      | ret => exact hp.elim
      | exit id => exact hp.elim
      | goto t => exact hp.elim
      | panic c => exact hp.elim
      | outgrown => exact hp.elim)
    ⟨hVI, hVl, hVd⟩
  refine ⟨D + 1, [{ target := .collected D, args := #[] }], V, { target := .fn (.func gf) lb, args := #[.func (.yield (D + 1)) #[] #[]] }, V, gf, #[.func (.yield (D + 1)) #[] #[]] ++ lb, V, ?_, ?_, ?_, ?_, fun _ => h1, ?_⟩
  · rw [← hV, hrec, hD]; exact run_enterLoop_outer _ _ _ _ _
  · simp only [resolve, hg]
    simp [go_sem]
  · intro f' hf'
    simp [Target.leads] at hf'
    subst hf'
    exact hFg
  · simp [invoke, go_sem, eg]
  · refine HC.mono ?_
    rintro e W2 ⟨⟨v, rfl⟩, xs, hS, hi, hl, hd⟩
    have hend := run_endLoop (P := P) hl (by rw [hrec]; simp)
    rw [hrec] at hend
    exact ⟨none, _, hend, hdone _ xs _ (Nat.le_of_eq hD.symm) hS (hI.putObj _ hi (by omega) hl rfl) ((World.putObj_heap_other (by omega)).trans hd)⟩
end
end Go.Ap

namespace Go.Ap
open Go Go.RowKit
def ordL (f : Nat → Nat) (n : Nat) : List Int := (List.range n).map fun k => ((f k : Nat) : Int)
theorem ordL_nth {f : Nat → Nat} {n k : Nat} (h : k < n) : nth (ordL f n) k = ((f k : Nat) : Int) := by simp [ordL, nth, h]
theorem ordL_len (f : Nat → Nat) (n : Nat) : (ordL f n).length = n := by simp [ordL]
/-- one of the first j has a token -/
def anyN (f : Nat → Nat) (c : List Int) (j : Nat) : Bool := (List.range j).any fun k => decide (nth c (f k) ≥ 0)
theorem anyN_zero (f : Nat → Nat) (c : List Int) : anyN f c 0 = false := rfl
theorem anyN_succ (f : Nat → Nat) (c : List Int) (j : Nat) : anyN f c (j + 1) = (anyN f c j || decide (nth c (f j) ≥ 0)) := by
  unfold anyN
  rw [List.range_succ, List.any_append]
  simp
theorem anyN_all {x : Coll} {f : Nat → Nat} (hv : Val x) (hf : Inv x.sigla.length f) {i : Nat} {c : List Int} (hc : x.columns[i]? = some c) : anyN f c x.sigla.length = true := by
  obtain ⟨_, k, hk, hne⟩ := hv.somes hc
  refine List.any_eq_true.2 ⟨f k, List.mem_range.2 (hf.lt k hk), decide_eq_true ?_⟩
  rw [hf.inv]
  have hr := hv.cols c (List.mem_of_getElem? hc)
  rcases hr.2 k (by rw [lensT_len, hv.toks]; exact hk) with h | h
  · exact absurd h hne
  · exact h.1
end Go.Ap
namespace Go.Proofs.YtjmebijckcimoaaGreatDoor
open Go.RowKit Go.Ap Go.Shelf Go.Proofs

attribute [local go_sem] Oper.semAt_some bs_toList empty_toList bs_size bs_extract
set_option maxRecDepth 100000 in
set_option maxHeartbeats 8000000 in
theorem cols_tells (m : Nat) (hm : 1 ≤ m) (x : Coll) (a1 : Option Addr) (n1 c1 : Nat) (a2 : Option Addr) (n2 c2 : Nat) (a3 : Option Addr) (n3 c3 : Nat) (ao : Option Addr) (co : Nat) (f : Nat → Nat) (w w0 : World) (hx : CollM w0 a1 a2 a3 n1 n2 n3 x) (hv : Val x) (hf : Inv x.sigla.length f) (ho : Ints w0 ao n1 (ordL f n1))
    (Bx By : Nat) (hb0 : Below w0.heap.size w0 w) (hBx : Bx < w.heap.size) (hBy : By < w.heap.size)
    (hbx : BoxC w Bx x.sec a1 n1 c1 a2 n2 c2 a3 n3 c3) (hby : w.cell? ⟨By, 0, none⟩ = some (.slice ao n1 co)) :
    SeqTells Fence.wide m Tryz.prog 110 #[.pointer (some ⟨Bx, 0, none⟩), .pointer (some ⟨By, 0, none⟩)] (fun r : Nat × Value => #[Value.int .i64 (r.1 : Int), r.2]) (KeepR w0.heap.size Bx By)
      (fun r W => ∃ c, x.columns[r.1]? = some c ∧ OwnI 3 W w.heap.size r.2 (perL f c n1)) (fun ys => ys.map (·.1) = List.range n3) n3 w := by
  intro l J W hW hJ hY h0
  obtain ⟨i9, hi9, hy0, hy1, hy2⟩ := info_parts infoInt
  have hl1 := hx.sigla.len
  have hl3 := hx.columns.len
  have hs3 := hx.columns.small
  have hle := hv.le
  have hpos := hv.pos
  rw [hl1] at hf hle hpos
  obtain ⟨bo, oo, rfl, HOC0⟩ := Ints.at ho hpos
  have HJ := Lib.hid hJ
  have HBX := Lib.hid (hbx.below hW)
  have HBY := Lib.hid ((cell_keep hW hby))
  have HY := Lib.hid (show ∀ pre (r : Nat × Value) W1, J pre W1 → pre.length < n3 → (∃ c, x.columns[r.1]? = some c ∧ OwnI 3 W1 w.heap.size r.2 (perL f c n1)) → YieldAt Fence.wide (m - 1) Tryz.prog l #[.int .i64 (r.1 : Int), r.2] W1 fun en W' => ∃ b, en = .returned (.bool b) ∧ (b = true ∧ J (pre ++ [r]) W' ∧ KeepR w0.heap.size Bx By W1 W') from fun pre x W1 h1 h2 h3 => (hY pre x W1 h1 h2 h3).mono fun en W' h => ⟨true, h.1, rfl, h.2⟩)
  have HCF := Lib.hid (show ∀ i, i < n3 → ∃ c b o bc oc cc, x.columns[i]? = some c ∧ a3 = some ⟨b, o, none⟩ ∧ w0.cell? ⟨b, o + i, none⟩ = some (.slice (some ⟨bc, oc, none⟩) n1 cc) ∧ (∀ s, s < n1 → w0.cell? ⟨bc, oc + s, none⟩ = some (.int .i64 (nth c s))) ∧ c.length = n1 ∧ (∀ s, s < n1 → I64 (nth c s)) ∧ anyN f c n1 = true from fun i hi => by
    obtain ⟨c, b, off, v, hc, hab, hcv, a', n', c', rfl, hI⟩ := hx.columns.at hi
    have hcl := (hv.somes hc).1
    have hln := hI.len
    obtain ⟨bc, oc, rfl, hcc⟩ := Ints.at hI (by omega)
    obtain rfl : n' = n1 := by omega
    refine ⟨c, b, off, bc, oc, c', hc, hab, hcv, hcc, by omega, fun s hs => hI.i64 (by omega), ?_⟩
    have := anyN_all hv (by rw [hl1]; exact hf) hc
    rwa [hl1] at this)
  have HWW := Lib.hid (hb0.trans (hW.mono hb0.size))
  have HBS := Lib.hid (show w0.heap.size ≤ W.heap.size ∧ Bx < W.heap.size ∧ By < W.heap.size from ⟨Nat.le_trans hb0.size hW.size, Nat.lt_of_lt_of_le hBx hW.size, Nat.lt_of_lt_of_le hBy hW.size⟩)
  have HWS := Lib.hid hW.size
  have HFL := Lib.hid hf.lt
  have HOC := Lib.hid HOC0
  clear hY hx hJ hbx hby hv ho hf hb0 hW hBx hBy HOC0
  refine callsIn_of_wp Tryz.func110 rfl trivial ?_ rfl
  simp only [Tryz.ntmps110, List.size_toArray, List.length_cons, List.length_nil, Nat.reduceAdd, Nat.reduceSub, Array.replicate_succ, Array.replicate_zero, List.push_toArray, List.append_toArray, List.nil_append, List.cons_append]
  obtain ⟨g0, g1, g2, g3⟩ := HBX.out
  gi_wp2
  clear g0 g1 g2 g3
  gi_loopw [13] (fun fv wr => ∃ (k : Nat) (pre : List (Nat × Value)), k ≤ n3 ∧ fv = .int .i64 k ∧ pre.map (·.1) = List.range k ∧ J pre wr ∧ KeepR w0.heap.size Bx By W wr)
    (fun fv _ => n3 - (intOf fv).toNat)
  case atStart => exact ⟨0, [], Nat.zero_le _, rfl, rfl, h0, KeepR.refl _ _ _ _⟩
  case round =>
    obtain ⟨wo, rfl⟩ : ∃ wo : World, wo = wr := ⟨_, rfl⟩
    obtain ⟨k, pre, hk, rfl, hpre, hJp, hkr⟩ := hrel
    have HPRE := Lib.hid hpre
    have HJP := Lib.hid hJp
    have HKR := Lib.hid hkr
    have hszk := hkr.size
    have y0 := (hkr.cell (.inr (.inr rfl))).trans HBY.out
    clear hpre hJp hkr
    by_cases hkn : k < n3
    · obtain ⟨c, b, o, bc, oc, cc, hc, rfl, hcv, hcs, hcl, hci, hca⟩ := HCF.out k hkn
      have HC := Lib.hid hc
      have HCS := Lib.hid hcs
      have HCI := Lib.hid hci
      have HCA := Lib.hid hca
      have HCL := Lib.hid hcl
      have v0 := cell_keep (HWW.out.trans HKR.out.below) hcv
      clear hc hcs hci hca hcl hcv
      gi_wp2_with (fail)
      clear v0
      gi_loopw [20, 6, 7] (fun jv vv bv wk => ∃ j : Nat, j ≤ n1 ∧ jv = .int .i64 j ∧ OwnI 3 wk wo.heap.size vv (perL f c j) ∧ bv = .bool (anyN f c j) ∧ Below wo.heap.size wo wk)
        (fun jv _ _ _ => n1 - (intOf jv).toNat)
      case atStart => exact ⟨0, Nat.zero_le _, rfl, ⟨World.ownsRow_nil _ _ _ _, fun x hx => by cases hx⟩, by rw [anyN_zero], Below.refl _ _⟩
      case round =>
        obtain ⟨j, hj, rfl, hO, rfl, hbk⟩ := hrel
        have HO := Lib.hid hO
        have HBK := Lib.hid hbk
        have hszb := hbk.size
        clear hO hbk
        by_cases hjn : j < n1
        · have hfj := HFL.out j hjn
          have HBW := Lib.hid (HWW.out.trans (HKR.out.below.trans (HBK.out.mono (Nat.le_trans HBS.out.1 hszk))))
          have v1 := cell_keep HBW.out (HOC.out j hjn)
          rw [ordL_nth hjn] at v1
          have v2 := cell_keep HBW.out (HCS.out (f j) hfj)
          have v3 := (cell_keep HBK.out y0)
          have hiy := HCI.out (f j) hfj
          have hcy := HCS.out (f j) hfj
          have HPS := Lib.hid (perL_succ (f := f) (l := c) (n := j) (show c[f j]? = some (nth c (f j)) by rw [nth_eq (by rw [HCL.out]; exact hfj)]; exact List.getElem?_eq_getElem _))
          have HAS := Lib.hid (anyN_succ f c j)
          obtain ⟨y, hy⟩ : ∃ y, nth c (f j) = y := ⟨_, rfl⟩
          obtain ⟨fj, hfj2⟩ : ∃ k, f j = k := ⟨_, rfl⟩
          rw [hy] at v2 hiy HPS HAS hcy
          rw [hfj2] at v1 v2 hfj hcy
          have HCY := Lib.hid hcy
          obtain ⟨p, hp⟩ : ∃ p, perL f c j = p := ⟨_, rfl⟩
          rw [hp] at HO HPS
          have hpl : p.length = j := by rw [← hp]; exact perL_len fun t ht => by rw [HCL.out]; exact HFL.out t (by omega)
          have i1 : (j : Int) < (n1 : Int) := by omega
          have i2 : (fj : Int) < (n1 : Int) := by omega
          have HZ := Lib.hid (show wr.ownsRow wo.heap.size 3 1 _ j (p.map (Value.int .i64)) by have := HO.out.1; rwa [hpl] at this)
          have HPL := Lib.hid hpl
          have HIY := Lib.hid hiy
          have HWO := Lib.hid (show wo.heap.size ≤ wr.heap.size from hszb)
          have HLE := Lib.hid (show w0.heap.size ≤ wo.heap.size from Nat.le_trans HBS.out.1 hszk)
          clear hy hfj2 hp hpl hcy hiy
          cases ha : anyN f c j
          · have HA := Lib.hid ha
            rw [ha] at HAS
            clear ha
            cases hg : decide (y ≥ 0)
            all_goals
              rw [hg] at HAS
              gi_wp2_with (gi_at_builtin; refine wpListIn_append_own _ rfl _ _ 44 rfl wo.heap.size 3 i9 (.int .i64 0) 1 8 Tryz.underlying44 hi9 hy0 hy1 hy2 rfl (by decide) _ _ _ rfl (HZ.out.alloc _) ⟨wr.heap.size, 0, none⟩ 1 1 [.int .i64 y] rfl rfl (cell_one_new _ _ _) (by simp [Value.oneCell']) (by unfold maxLen; omega) (by omega) (by simp; omega) ?_; intro v9 w4 hown1 hgrow1 _; have HJJ := Lib.hid (OwnI.pushed (x := y) HO.out HIY.out HWO.out (by rw [HPL.out]; exact hown1) hgrow1); have v4 := cell_keep (HBW.out.trans (HJJ.out.2.mono HLE.out)) HCY.out; clear hown1 hgrow1)
              exact ⟨⟨j + 1, by omega, by simp, by rw [HPS.out]; exact HJJ.out.1, by rw [HAS.out]; rfl, HBK.out.trans HJJ.out.2⟩, by simp [intOf]; omega⟩
          · have HA := Lib.hid ha
            rw [ha] at HAS
            clear ha
            gi_wp2_with (gi_at_builtin; refine wpListIn_append_own _ rfl _ _ 44 rfl wo.heap.size 3 i9 (.int .i64 0) 1 8 Tryz.underlying44 hi9 hy0 hy1 hy2 rfl (by decide) _ _ _ rfl (HZ.out.alloc _) ⟨wr.heap.size, 0, none⟩ 1 1 [.int .i64 y] rfl rfl (cell_one_new _ _ _) (by simp [Value.oneCell']) (by unfold maxLen; omega) (by omega) (by simp; omega) ?_; intro v9 w4 hown1 hgrow1 _; have HJJ := Lib.hid (OwnI.pushed (x := y) HO.out HIY.out HWO.out (by rw [HPL.out]; exact hown1) hgrow1); clear hown1 hgrow1)
            exact ⟨⟨j + 1, by omega, by simp, by rw [HPS.out]; exact HJJ.out.1, by rw [HAS.out]; rfl, HBK.out.trans HJJ.out.2⟩, by simp [intOf]; omega⟩
        · obtain rfl : j = n1 := by omega
          have hb := HCA.out
          rw [hb]
          have HJ1 := Lib.hid (HJ.out _ _ _ none HJP.out (grown_of_below HBK.out) (by simp))
          have HK1 := Lib.hid (show KeepR w0.heap.size Bx By W wr from HKR.out.trans (KeepR.of_below HBK.out (Nat.le_trans HBS.out.1 hszk) (Nat.lt_of_lt_of_le HBS.out.2.1 hszk) (Nat.lt_of_lt_of_le HBS.out.2.2 hszk)))
          obtain ⟨fn, tmps, assign, body, hy, hR⟩ := HY.out pre (k, _) _ HJ1.out (by rw [← List.length_map (·.1), HPRE.out, List.length_range]; exact hkn) ⟨c, HC.out, HO.out.mono (Nat.le_trans HWS.out hszk)⟩
          gi_wp2_with (refine hR.mono ?_; rintro en W5 ⟨ans, rfl, rfl, hJ3, hK3⟩)
          exact ⟨⟨k + 1, _, by omega, by simp, by rw [List.map_append, HPRE.out, List.range_succ]; rfl, hJ3, HK1.out.trans hK3⟩, by simp [intOf]; omega⟩
    · have HZ := Lib.hid (show List.range n3 = pre.map (·.1) by rw [HPRE.out]; congr 1; omega)
      gi_wp2_with (fail)
      go_end0
      exact ⟨⟨_, rfl⟩, pre, HZ.out.symm, HJP.out⟩
end Go.Proofs.YtjmebijckcimoaaGreatDoor

namespace Go.Ap
open Go Go.RowKit
section
variable {α : Type} {e : TypeId} {P P' : Value → α → Prop} {w w' : World} {base : Nat} {v : Value} {xs : List α}
end
end Go.Ap
namespace Go.Proofs.YtjmebijckcimoaaGreatDoor
open Go.RowKit Go.Ap Go.Shelf Go.Proofs

attribute [local go_sem] Oper.semAt_some bs_toList empty_toList bs_size bs_extract
theorem columnsP (x : Coll) (a1 : Option Addr) (n1 c1 : Nat) (a2 : Option Addr) (n2 c2 : Nat) (a3 : Option Addr) (n3 c3 : Nat) (ao : Option Addr) (no co : Nat) (w : World) :
    Calls Tryz.prog 90 #[collV x.sec a1 n1 c1 a2 n2 c2 a3 n3 c3, .slice ao no co] w fun e w' => e = .returned (.func (.func 110) #[] #[.pointer (some ⟨w.heap.size, 0, none⟩), .pointer (some ⟨w.heap.size + 1, 0, none⟩)]) ∧
      BlkK w' w.heap.size #[.string (bs x.sec), .slice a1 n1 c1, .slice a2 n2 c2, .slice a3 n3 c3] 26 ∧ BlkK w' (w.heap.size + 1) #[.slice ao no co] 44 ∧ Below w.heap.size w w' := by
  unfold collV
  go_enter Tryz.func90, Tryz.ntmps90
  go_wp2_with (fail)
  go_ret
  have h1 := balloc w (.cells #[.string (bs x.sec), .slice a1 n1 c1, .slice a2 n2 c2, .slice a3 n3 c3] 26)
  have h2 := balloc (w.alloc (.cells #[.string (bs x.sec), .slice a1 n1 c1, .slice a2 n2 c2, .slice a3 n3 c3] 26)) (.cells #[.slice ao no co] 44)
  refine ⟨by simp, (BlkK.new w _ _).below h2, ?_, bstep h1 h2⟩
  have := BlkK.new (w.alloc (.cells #[.string (bs x.sec), .slice a1 n1 c1, .slice a2 n2 c2, .slice a3 n3 c3] 26)) #[.slice ao no co] 44
  rwa [World.size_alloc] at this
end Go.Proofs.YtjmebijckcimoaaGreatDoor

namespace Go.Ap
open Go Go.RowKit
/-- rows of ints of the call's own, in one world -/
def ColV (w W : World) (v : Value) (xss : List (List Int)) : Prop := OwnV 44 (fun u xs => OwnI 3 W w.heap.size u xs) W w.heap.size v xss
section
variable {w W W' : World} {v v' u : Value} {xss : List (List Int)} {xs : List Int}
theorem ColV.nil : ColV w W (.slice none 0 0) [] := OwnV.nil _ _
theorem ColV.below (h : ColV w W v xss) (hb : Below W.heap.size W W') : ColV w W' v xss := (OwnV.below h hb).imp fun _ _ hu => hu.below hb
theorem ColV.keptN {row : Option Nat} (h : ColV w W v xss) (hg : W.grownBy W' row) (hr : NoCells W row) : ColV w W' v xss := by
  obtain ⟨vs, h1, h2⟩ := h
  exact ⟨vs, h1.kept hg (owns_none h1 hr), fun k x hk => by obtain ⟨u, hu, ho⟩ := h2 k x hk; exact ⟨u, hu, ho.kept hg (owns_none ho.1 hr)⟩⟩
/-- a block of other cells is written -/
theorem ColV.keptE {b : Nat} {cs : Array Value} {t : TypeId} (h : ColV w W v xss) (hb : BlkK W b cs t) (h1 : t ≠ 44) (h2 : t ≠ 3) (hg : W.grownBy W' (some b)) : ColV w W' v xss := by
  obtain ⟨vs, g1, g2⟩ := h
  exact ⟨vs, g1.kept hg (.inr fun e => BlkK.apart hb g1 h1 e.symm), fun k x hk => by obtain ⟨u, hu, ho⟩ := g2 k x hk; exact ⟨u, hu, ho.kept hg (.inr fun e => BlkK.apart hb ho.1 h2 e.symm)⟩⟩
/-- one row more -/
theorem ColV.push (h : ColV w W v xss) : ∃ vs, W.ownsRow w.heap.size 44 1 v xss.length vs ∧ ∀ (tmp : Obj) (W' : World) (v' u : Value) (xs : List Int), W'.ownsRow w.heap.size 44 1 v' (xss.length + 1) (vs ++ [u]) → (W.alloc tmp).grownBy W' v.ownBlock → OwnI 3 W w.heap.size u xs → ColV w W' v' (xss ++ [xs]) := by
  obtain ⟨vs, h1, hn⟩ := OwnV.ready h
  refine ⟨vs, h1, fun tmp W' v' u xs hown hg hu => ?_⟩
  exact (hn W' v' u xs hown hu).imp fun _ _ ho => (ho.below (balloc W tmp)).kept hg (owns_apart (ho.below (balloc W tmp)).1 (owns_below h1 (balloc W tmp)) (by decide))
theorem ColV.rows (h : ColV w W v xss) (hn : xss.length ≤ 4611686018427387903) (hm : ∀ xs ∈ xss, xs.length ≤ 4611686018427387903) : ∃ a c, v = .slice a xss.length c ∧ Rows2 W a xss.length xss := by
  obtain ⟨vs, h1, h2⟩ := h
  refine OwnV.sl (P := fun u xs => xs ∈ xss ∧ OwnI 3 W w.heap.size u xs) ⟨vs, h1, fun k x hk => by obtain ⟨u, hu, ho⟩ := h2 k x hk; exact ⟨u, hu, List.mem_of_getElem? hk, ho⟩⟩ hn fun u xs hu => ?_
  obtain ⟨a, c, rfl, hI⟩ := hu.2.ints (hm xs hu.1)
  exact ⟨a, _, c, rfl, hI⟩
end
/-- a collation of the call's own: its tokens are the old ones -/
structure OwnC (w0 w W : World) (v1 v2 v3 : Value) (x : Coll) : Prop where
  sig : OwnS W w.heap.size v1 x.sigla
  tok : OwnV 67 (ToksV w0) W w.heap.size v2 x.tokens
  col : ColV w W v3 x.columns
section
variable {w0 w W W' : World} {v1 v2 v3 : Value} {x : Coll}
theorem OwnC.below (h : OwnC w0 w W v1 v2 v3 x) (hb : Below W.heap.size W W') : OwnC w0 w W' v1 v2 v3 x := ⟨h.sig.below hb, h.tok.below hb, h.col.below hb⟩
theorem OwnC.keptN {row : Option Nat} (h : OwnC w0 w W v1 v2 v3 x) (hg : W.grownBy W' row) (hr : NoCells W row) : OwnC w0 w W' v1 v2 v3 x := by
  obtain ⟨ts, ht, _⟩ := h.tok.ready
  exact ⟨World.ownsRow.kept h.sig hg (owns_none h.sig hr), h.tok.kept hg (owns_none ht hr), h.col.keptN hg hr⟩
theorem OwnC.keptE {b : Nat} {cs : Array Value} (h : OwnC w0 w W v1 v2 v3 x) (hb : BlkK W b cs 26) (hg : W.grownBy W' (some b)) : OwnC w0 w W' v1 v2 v3 x := by
  obtain ⟨ts, ht, _⟩ := h.tok.ready
  exact ⟨World.ownsRow.kept h.sig hg (.inr fun e => BlkK.apart hb h.sig (by decide) e.symm), h.tok.kept hg (.inr fun e => BlkK.apart hb ht (by decide) e.symm), h.col.keptE hb (by decide) (by decide) hg⟩
theorem OwnC.coll (h : OwnC w0 w W v1 v2 v3 x) (hb : Below w0.heap.size w0 W) (h0 : x.sec.length ≤ 4611686018427387903) (h1 : x.sigla.length ≤ 4611686018427387903) (h2 : x.tokens.length ≤ 4611686018427387903) (h3 : x.columns.length ≤ 4611686018427387903) (h4 : ∀ c ∈ x.columns, c.length ≤ 4611686018427387903) (h5 : ∀ s ∈ x.sigla, s.length ≤ 4611686018427387903) :
    ∃ d1 k1 d2 k2 d3 k3, v1 = .slice d1 x.sigla.length k1 ∧ v2 = .slice d2 x.tokens.length k2 ∧ v3 = .slice d3 x.columns.length k3 ∧ x.sigla.length ≤ k1 ∧ CollM W d1 d2 d3 x.sigla.length x.tokens.length x.columns.length x := by
  obtain ⟨d1, k1, e1, s1, hk⟩ := h.sig.cap h1
  obtain ⟨d2, k2, e2, s2⟩ := OwnV.sl (R := ToksV) h.tok h2 fun u l hu => hu.mono (Nat.le_refl _) hb
  obtain ⟨d3, k3, e3, s3⟩ := h.col.rows h3 h4
  exact ⟨d1, k1, d2, k2, d3, k3, e1, e2, e3, hk, h0, s1, h5, s2, s3⟩
end
/-- what the rounds over the columns know -/
structure ChC (w0 w : World) (xs zs : Array Value) (sec : Str) (v1 : Value) (l1 : List Str) (v2 : Value) (l2 : List (List Tok)) (Bx : Nat) (os : Value) (cs : List (List Int)) (W : World) : Prop where
  out : ∃ v3, BlkK W (w.heap.size + 2) #[.string (bs sec), v1, v2, v3] 26 ∧ ColV w W v3 cs ∧ v3.ownBlock ≠ some (Bx + 1)
  res : BlkK W (w.heap.size + 1) zs 26
  sig : OwnS W w.heap.size v1 l1
  tok : OwnV 67 (ToksV w0) W w.heap.size v2 l2
  bx : BlkK W Bx xs 26
  bo : BlkK W (Bx + 1) #[os] 44
  bel : Below w.heap.size w W
section
variable {w0 w W W' : World} {xs zs : Array Value} {sec : Str} {v1 v2 os : Value} {l1 : List Str} {l2 : List (List Tok)} {Bx : Nat} {cs : List (List Int)}
theorem ChC.below (h : ChC w0 w xs zs sec v1 l1 v2 l2 Bx os cs W) (hb : Below W.heap.size W W') : ChC w0 w xs zs sec v1 l1 v2 l2 Bx os cs W' := by
  obtain ⟨v3, g1, g2, g3⟩ := h.out
  exact ⟨⟨v3, g1.below hb, g2.below hb, g3⟩, h.res.below hb, h.sig.below hb, h.tok.below hb, h.bx.below hb, h.bo.below hb, bstep h.bel hb⟩
theorem ChC.keptN {row : Option Nat} (h : ChC w0 w xs zs sec v1 l1 v2 l2 Bx os cs W) (hg : W.grownBy W' row) (hr : NoCells W row) (hr2 : ∀ r, row = some r → w.heap.size ≤ r) : ChC w0 w xs zs sec v1 l1 v2 l2 Bx os cs W' := by
  obtain ⟨v3, g1, g2, g3⟩ := h.out
  obtain ⟨ts, ht, _⟩ := h.tok.ready
  exact ⟨⟨v3, g1.keptN hg hr, g2.keptN hg hr, g3⟩, h.res.keptN hg hr, World.ownsRow.kept h.sig hg (owns_none h.sig hr), h.tok.kept hg (owns_none ht hr), h.bx.keptN hg hr, h.bo.keptN hg hr, h.bel.grown hg h.bel.size fun r he => hr2 r he⟩
/-- one column more: the row grows, the field is stored -/
theorem ChC.push (h : ChC w0 w xs zs sec v1 l1 v2 l2 Bx os cs W) (hB : w.heap.size + 3 ≤ Bx) : ∃ v3 vs, BlkK W (w.heap.size + 2) #[.string (bs sec), v1, v2, v3] 26 ∧ W.ownsRow w.heap.size 44 1 v3 cs.length vs ∧
    ∀ (tmp : Obj) (W' : World) (v' u : Value) (c : List Int), W'.ownsRow w.heap.size 44 1 v' (cs.length + 1) (vs ++ [u]) → (W.alloc tmp).grownBy W' v3.ownBlock → (v'.ownBlock = v3.ownBlock ∨ v'.ownBlock = some (W.alloc tmp).heap.size) → OwnI 3 W w.heap.size u c →
      BlkK W' (w.heap.size + 2) #[.string (bs sec), v1, v2, v3] 26 ∧ ChC w0 w xs zs sec v1 l1 v2 l2 Bx os (cs ++ [c]) (W'.setCell ⟨w.heap.size + 2, 3, none⟩ v') ∧ Go.Proofs.YtjmebijckcimoaaGreatDoor.KeepR w.heap.size Bx (Bx + 1) W (W'.setCell ⟨w.heap.size + 2, 3, none⟩ v') ∧ KeepsOthers W (W'.setCell ⟨w.heap.size + 2, 3, none⟩ v') := by
  obtain ⟨v3, g1, g2, g3⟩ := h.out
  obtain ⟨vs, hr, hn⟩ := g2.push
  obtain ⟨ts, ht, _⟩ := h.tok.ready
  refine ⟨v3, vs, g1, hr, fun tmp W' v' u c hown hg hb hu => ?_⟩
  have A := balloc W tmp
  have hrA := owns_below hr A
  have k1 := (g1.below A).keptE hg (BlkK.apart (g1.below A) hrA (by decide))
  have gp := grown_put W' (w.heap.size + 2) 3 v'
  have hx : ∀ {b : Nat} {q : Array Value} {t : TypeId}, BlkK W b q t → t ≠ 44 → b ≠ w.heap.size + 2 → BlkK (W'.setCell ⟨w.heap.size + 2, 3, none⟩ v') b q t := fun hq h1 h2 => ((hq.below A).keptE hg (BlkK.apart (hq.below A) hrA h1)).keptE gp (by simpa using h2)
  have kb : Below w.heap.size W (W'.setCell ⟨w.heap.size + 2, 3, none⟩ v') := (((Below.refl _ W).alloc h.bel.size tmp).grown hg (by simp; have := h.bel.size; omega) fun k hk => (hr.lt k hk).1).trans (by
    exact (Below.refl _ W').grown gp (by have := h.bel.size; have := hg.size; simp at this; omega) fun k hk => by cases hk; omega)
  have hbo : BlkK (W'.setCell ⟨w.heap.size + 2, 3, none⟩ v') (Bx + 1) #[os] 44 := ((h.bo.below A).keptE hg fun e => g3 e.symm).keptE gp (by simp; omega)
  have hbx := hx h.bx (by decide) (by omega)
  refine ⟨k1, ⟨⟨v', ?_, ?_, ?_⟩, hx h.res (by decide) (by omega), ?_, ?_, hbx, hbo, h.bel.trans kb⟩, ⟨kb.os, kb.tape, kb.output, kb.size, fun k hk => ?_⟩, ?_⟩
  · have := BlkK.put (i := 3) (v := v') k1
    exact this
  · exact (hn tmp W' v' u c hown hg hu).keptE k1 (by decide) (by decide) gp
  · rcases hb with e | e
    · rw [e]; exact g3
    · rw [e]
      have := h.bo.lt
      simp
      omega
  · exact World.ownsRow.kept (World.ownsRow.kept (h.sig.below A) hg (owns_apart (h.sig.below A) hrA (by decide))) gp (.inr fun e => BlkK.apart k1 (World.ownsRow.kept (h.sig.below A) hg (owns_apart (h.sig.below A) hrA (by decide))) (by decide) e.symm)
  · have t1 := (h.tok.below A).kept hg (owns_apart (owns_below ht A) hrA (by decide))
    obtain ⟨us, hu2, _⟩ := t1.ready
    exact t1.kept gp (.inr fun e => BlkK.apart k1 hu2 (by decide) e.symm)
  · rcases hk with hk | rfl | rfl
    · exact kb.block k hk
    · exact Eq.trans hbx h.bx.symm
    · exact Eq.trans hbo h.bo.symm
  · refine (KeepsOthers.alloc W tmp).trans ((KeepsOthers.of_grownBy hg fun j o hj ho => ?_).trans (KeepsOthers.setCell _ _ _))
    rcases hrA.2 with ⟨rfl, _⟩ | ⟨g, cap, cur, rfl, _, hgg, _⟩
    · cases hj
    · obtain rfl : g = j := by simpa [Value.ownBlock] using hj
      rw [hgg] at ho
      cases ho
      rfl
/-- the shapes of the three slices -/
theorem ChC.shape (h : ChC w0 w xs zs sec v1 l1 v2 l2 Bx os cs W) (h1 : l1.length ≤ 4611686018427387903) (h2 : l2.length ≤ 4611686018427387903) (h3 : cs.length ≤ 4611686018427387903) (h4 : ∀ c ∈ cs, c.length ≤ 4611686018427387903) :
    ∃ d1 k1 d2 k2 d3 k3, v1 = .slice d1 l1.length k1 ∧ v2 = .slice d2 l2.length k2 ∧ l1.length ≤ k1 ∧ BlkK W (w.heap.size + 2) #[.string (bs sec), v1, v2, .slice d3 cs.length k3] 26 ∧ OwnC w0 w W v1 v2 (.slice d3 cs.length k3) ⟨sec, l1, l2, cs⟩ := by
  obtain ⟨v3, g1, g2, g3⟩ := h.out
  obtain ⟨d1, k1, e1, s1, hk⟩ := h.sig.cap h1
  obtain ⟨d2, k2, e2, s2⟩ := OwnV.sl (R := fun _ _ _ => True) h.tok h2 fun u l hu => trivial
  obtain ⟨d3, k3, e3, s3⟩ := g2.rows h3 h4
  subst e3
  exact ⟨d1, k1, d2, k2, d3, k3, e1, e2, hk, g1, h.sig, h.tok, g2⟩
end
end Go.Ap

namespace Go.Proofs.YtjmebijckcimoaaGreatDoor
open Go.RowKit Go.Ap Go.Shelf Go.Proofs

attribute [local go_sem] Oper.semAt_some bs_toList empty_toList bs_size bs_extract
theorem infoSt : (Tryz.prog.info? 9).map (fun i => (i.zero, i.size, i.bytes)) = some (some (.string ⟨#[]⟩), 1, 16) := by kernel_rfl
theorem infoTk : (Tryz.prog.info? 67).map (fun i => (i.zero, i.size, i.bytes)) = some (some (.slice none 0 0), 1, 24) := by kernel_rfl
theorem infoRw : (Tryz.prog.info? 44).map (fun i => (i.zero, i.size, i.bytes)) = some (some (.slice none 0 0), 1, 24) := by kernel_rfl
/-- what the loop over the order knows: what the new collation holds in memory, the two rows -/
structure ChG (w0 w : World) (xs zs : Array Value) (sec : Str) (u1 u2 v1 : Value) (l1 : List Str) (v2 : Value) (l2 : List (List Tok)) (W : World) : Prop where
  out : BlkK W (w.heap.size + 2) #[.string (bs sec), u1, u2, .slice none 0 0] 26
  src : BlkK W w.heap.size xs 26
  res : BlkK W (w.heap.size + 1) zs 26
  sig : OwnS W w.heap.size v1 l1
  tok : OwnV 67 (ToksV w0) W w.heap.size v2 l2
  bel : Below w.heap.size w W
section
variable {w0 w W W' : World} {xs zs : Array Value} {sec : Str} {u1 u2 v1 v2 v' : Value} {l1 : List Str} {l2 : List (List Tok)} {s : Str} {l : List Tok} {tmp : Obj}
theorem ChG.below (h : ChG w0 w xs zs sec u1 u2 v1 l1 v2 l2 W) (hb : Below W.heap.size W W') : ChG w0 w xs zs sec u1 u2 v1 l1 v2 l2 W' :=
  ⟨h.out.below hb, h.src.below hb, h.res.below hb, h.sig.below hb, h.tok.below hb, bstep h.bel hb⟩
theorem ChG.pushS (h : ChG w0 w xs zs sec u1 u2 v1 l1 v2 l2 W) (hown : W'.ownsRow w.heap.size 9 1 v' (l1.length + 1) (l1.map sv ++ [.string (bs s)])) (hg : W.grownBy W' v1.ownBlock) : ChG w0 w xs zs sec u1 u2 v' (l1 ++ [s]) v2 l2 W' := by
  obtain ⟨vs, hr, _⟩ := h.tok.ready
  refine ⟨h.out.keptE hg (BlkK.apart h.out h.sig (by decide)), h.src.keptE hg (BlkK.apart h.src h.sig (by decide)), h.res.keptE hg (BlkK.apart h.res h.sig (by decide)), ?_, h.tok.kept hg (owns_apart hr h.sig (by decide)), ?_⟩
  · unfold OwnS; simpa [sv] using hown
  · exact h.bel.grown hg h.bel.size fun k hk => (h.sig.lt k hk).1
theorem ChG.pushT (h : ChG w0 w xs zs sec u1 u2 v1 l1 v2 l2 W) : ∃ vs, W.ownsRow w.heap.size 67 1 v2 l2.length vs ∧ ∀ (W' : World) (v' u : Value) (l : List Tok), W'.ownsRow w.heap.size 67 1 v' (l2.length + 1) (vs ++ [u]) → W.grownBy W' v2.ownBlock → ToksV w0 u l → ChG w0 w xs zs sec u1 u2 v1 l1 v' (l2 ++ [l]) W' := by
  obtain ⟨vs, hr, hn⟩ := h.tok.ready
  refine ⟨vs, hr, fun W' v' u l hown hg hl => ⟨h.out.keptE hg (BlkK.apart h.out hr (by decide)), h.src.keptE hg (BlkK.apart h.src hr (by decide)), h.res.keptE hg (BlkK.apart h.res hr (by decide)), ?_, hn W' v' u l hown hl, ?_⟩⟩
  · exact World.ownsRow.kept h.sig hg (owns_apart h.sig hr (by decide))
  · exact h.bel.grown hg h.bel.size fun k hk => (hr.lt k hk).1
theorem BlkK.stored {b : Nat} {cs : Array Value} {t : TypeId} {i : Nat} {v : Value} (h : BlkK W b cs t) : BlkK (W.setCell ⟨b, i, none⟩ v) b (cs.setIfInBounds i v) t := by
  obtain ⟨hl, he⟩ := Array.getElem?_eq_some_iff.1 (show W.heap[b]? = _ from h)
  refine Array.getElem?_eq_some_iff.2 ⟨by simpa [World.setCell] using hl, ?_⟩
  simp [World.setCell, Array.getElem_modify, he]
theorem BlkK.frozen {b : Nat} {cs : Array Value} {t : TypeId} {i : Nat} (h : BlkK W b cs t) : W.frozen? ⟨b, i, none⟩ = false := by simp [World.frozen?, show W.heap[b]? = _ from h]
theorem ChG.store (h : ChG w0 w xs zs sec u1 u2 v1 l1 v2 l2 W) (i : Nat) (v : Value) {a b : Value} (he : #[.string (bs sec), u1, u2, .slice none 0 0].setIfInBounds i v = #[.string (bs sec), a, b, .slice none 0 0]) : ChG w0 w xs zs sec a b v1 l1 v2 l2 (W.setCell ⟨w.heap.size + 2, i, none⟩ v) := by
  obtain ⟨vs, hr, _⟩ := h.tok.ready
  have hg : W.grownBy (W.setCell ⟨w.heap.size + 2, i, none⟩ v) (some (w.heap.size + 2)) := ⟨rfl, rfl, rfl, by simp [World.setCell], fun k _ hk => Below.heap_setCell _ _ _ k fun e => hk (by rw [e])⟩
  refine ⟨by have := BlkK.stored (i := i) (v := v) h.out; rwa [he] at this, h.src.keptE hg (by simp), h.res.keptE hg (by simp), World.ownsRow.kept h.sig hg (.inr fun e => BlkK.apart h.out h.sig (by decide) e.symm), h.tok.kept hg (.inr fun e => BlkK.apart h.out hr (by decide) e.symm), ?_⟩
  exact h.bel.grown hg h.bel.size fun k hk => by cases hk; omega
end
theorem store4 {W : World} {b : Nat} {c0 c1 c2 c3 : Value} {t : TypeId} (h : BlkK W b #[c0, c1, c2, c3] t) (a0 a1 a2 a3 : Value) :
    ∃ W', W' = (((W.setCell ⟨b, 0, none⟩ a0).setCell ⟨b, 1, none⟩ a1).setCell ⟨b, 2, none⟩ a2).setCell ⟨b, 3, none⟩ a3 ∧ BlkK W' b #[a0, a1, a2, a3] t ∧ W.grownBy W' (some b) := by
  refine ⟨_, rfl, BlkK.put (BlkK.put (BlkK.put (BlkK.put h))), rfl, rfl, rfl, by simp [World.setCell], fun k _ hk => ?_⟩
  have hne : b ≠ k := fun e => hk (by rw [e])
  rw [Below.heap_setCell _ _ _ _ hne.symm, Below.heap_setCell _ _ _ _ hne.symm, Below.heap_setCell _ _ _ _ hne.symm, Below.heap_setCell _ _ _ _ hne.symm]
theorem range_getD {α β : Type} (l : List α) (d : α) (g : α → β) : (List.range l.length).map (fun i => g (l.getD i d)) = l.map g := by
  apply List.ext_getElem
  · simp
  · intro i h1 h2
    have : i < l.length := by simpa using h1
    simp [this]
set_option maxRecDepth 100000 in
set_option maxHeartbeats 8000000 in
theorem chooseP (x : Coll) (a1 : Option Addr) (n1 c1 : Nat) (a2 : Option Addr) (n2 c2 : Nat) (a3 : Option Addr) (n3 c3 : Nat) (ao : Option Addr) (co : Nat) (f : Nat → Nat) (w0 w : World) (h0 : CollM w0 a1 a2 a3 n1 n2 n3 x) (hb0 : Below w0.heap.size w0 w) (hv : Val x) (hf : Inv x.sigla.length f) (ho : Ints w ao n1 (ordL f n1)) (h32 : x.columns.length ≤ 1048576) :
    CallsIn Fence.wide 10 Tryz.prog 64 #[collV x.sec a1 n1 c1 a2 n2 c2 a3 n3 c3, .slice ao n1 co] w fun e w' => ∃ b1 k1 b2 k2 b3 k3, e = .returned (collV x.sec b1 n1 k1 b2 n1 k2 b3 n3 k3) ∧ OwnC w0 w w' (.slice b1 n1 k1) (.slice b2 n1 k2) (.slice b3 n3 k3) (reoC x f) ∧ n1 ≤ k1 ∧ Below w.heap.size w w' := by
  have h := h0.mono (Nat.le_refl _) hb0
  obtain ⟨i9, hi9, hy0, hy1, hy2⟩ := info_parts infoInt
  obtain ⟨is, his, hs0, hs1, hs2⟩ := info_parts infoSt
  obtain ⟨it, hit, ht0, ht1, ht2⟩ := info_parts infoTk
  obtain ⟨ir, hir, hr0, hr1, hr2⟩ := info_parts infoRw
  have hl1 := h.sigla.len
  have hl2 := h.tokens.len
  have hl3 := h.columns.len
  have hn3 : n3 ≤ 1048576 := by rw [← hl3]; exact h32
  have hle := hv.le
  have hpos := hv.pos
  have htk := hv.toks
  have hf0 := hf
  rw [hl1] at hf hle hpos
  have hno := ho.at hpos
  obtain ⟨bo, oo, rfl, HOC0⟩ := hno
  have HOC := Lib.hid HOC0
  have HFL := Lib.hid hf.lt
  have HCP := Lib.hid (fun W => columnsP x a1 n1 c1 a2 n2 c2 a3 n3 c3 (some ⟨bo, oo, none⟩) n1 co W)
  have HSG := Lib.hid (fun k (hk : k < n1) => Sl.at h.sigla hk)
  have HTG := Lib.hid (fun k (hk : k < n2) => Sl.at h0.tokens hk)
  have HB0 := Lib.hid hb0
  have HH := Lib.hid h
  have HV := Lib.hid hv
  have HF0 := Lib.hid hf0
  have HO := Lib.hid ho
  have eg := enters_of Tryz.func110 (by kernel_rfl) rfl
  have hF93 : Fence.wide.fn 90 := trivial
  clear h h0 hb0 hv hf hf0 ho HOC0
  unfold collV at HCP ⊢
  refine callsIn_of_wp_marks Tryz.func64 rfl trivial ?_ rfl
  simp only [Tryz.ntmps64, List.size_toArray, List.length_cons, List.length_nil, Nat.reduceAdd, Nat.reduceSub, Array.replicate_succ, Array.replicate_zero, List.push_toArray, List.append_toArray, List.nil_append, List.cons_append]
  have HK1 := Lib.hid (BlkK.new w #[.string (bs x.sec), .slice a1 n1 c1, .slice a2 n2 c2, .slice a3 n3 c3] 26)
  gi_wp2_with (fail)
  have b1 := balloc w (.cells #[.string (bs x.sec), .slice a1 n1 c1, .slice a2 n2 c2, .slice a3 n3 c3] 26)
  have b2 := balloc (w.alloc (.cells #[.string (bs x.sec), .slice a1 n1 c1, .slice a2 n2 c2, .slice a3 n3 c3] 26)) (.cells #[.string ⟨#[]⟩, .slice none 0 0, .slice none 0 0, .slice none 0 0] 26)
  have b3 := balloc ((w.alloc (.cells #[.string (bs x.sec), .slice a1 n1 c1, .slice a2 n2 c2, .slice a3 n3 c3] 26)).alloc (.cells #[.string ⟨#[]⟩, .slice none 0 0, .slice none 0 0, .slice none 0 0] 26)) (.cells #[.string (bs x.sec), .slice none 0 0, .slice none 0 0, .slice none 0 0] 26)
  have k1 := BlkK.new w #[.string (bs x.sec), .slice a1 n1 c1, .slice a2 n2 c2, .slice a3 n3 c3] 26
  have k2 := BlkK.new (w.alloc (.cells #[.string (bs x.sec), .slice a1 n1 c1, .slice a2 n2 c2, .slice a3 n3 c3] 26)) #[.string ⟨#[]⟩, .slice none 0 0, .slice none 0 0, .slice none 0 0] 26
  have k3 := BlkK.new ((w.alloc (.cells #[.string (bs x.sec), .slice a1 n1 c1, .slice a2 n2 c2, .slice a3 n3 c3] 26)).alloc (.cells #[.string ⟨#[]⟩, .slice none 0 0, .slice none 0 0, .slice none 0 0] 26)) #[.string (bs x.sec), .slice none 0 0, .slice none 0 0, .slice none 0 0] 26
  have HI := Lib.hid (show ChG w0 w #[.string (bs x.sec), .slice a1 n1 c1, .slice a2 n2 c2, .slice a3 n3 c3] #[.string ⟨#[]⟩, .slice none 0 0, .slice none 0 0, .slice none 0 0] x.sec (.slice none 0 0) (.slice none 0 0) (.slice none 0 0) (perL f x.sigla 0) (.slice none 0 0) (perL f x.tokens 0) (((w.alloc (.cells #[.string (bs x.sec), .slice a1 n1 c1, .slice a2 n2 c2, .slice a3 n3 c3] 26)).alloc (.cells #[.string ⟨#[]⟩, .slice none 0 0, .slice none 0 0, .slice none 0 0] 26)).alloc (.cells #[.string (bs x.sec), .slice none 0 0, .slice none 0 0, .slice none 0 0] 26)) from
    ⟨by simpa [World.size_alloc] using k3, (k1.below b2).below b3, by simpa [World.size_alloc] using k2.below b3, OwnS.nil _ _, OwnV.nil _ _, bstep (bstep b1 b2) b3⟩)
  clear b1 b2 b3 k1 k2 k3 HK1
  gi_loopw [15] (fun fv wr => ∃ (j : Nat) (v1 v2 : Value), j ≤ n1 ∧ fv = .int .i64 j ∧ ChG w0 w #[.string (bs x.sec), .slice a1 n1 c1, .slice a2 n2 c2, .slice a3 n3 c3] #[.string ⟨#[]⟩, .slice none 0 0, .slice none 0 0, .slice none 0 0] x.sec v1 v2 v1 (perL f x.sigla j) v2 (perL f x.tokens j) wr) (fun fv _ => n1 - (intOf fv).toNat)
  case atStart => exact ⟨0, _, _, Nat.zero_le _, rfl, HI.out⟩
  case round =>
    obtain ⟨j, v1, v2, hj, rfl, hI⟩ := hrel
    have HI := Lib.hid hI
    clear hI
    by_cases hjn : j < n1
    · have hfj := HFL.out j hjn
      obtain ⟨sg, b1, o1, y1, hsg, rfl, hc1, rfl⟩ := HSG.out (f j) hfj
      obtain ⟨tk, b2, o2, y2, htk2, rfl, hc2, at2, nt2, ct2, rfl, hT⟩ := HTG.out (f j) (by omega)
      have HB := Lib.hid HI.out.bel
      have HP1 := Lib.hid (perL_succ (n := j) hsg)
      have HP2 := Lib.hid (perL_succ (n := j) htk2)
      have HT := Lib.hid hT
      have v0 := cell_keep HB.out (HOC.out j hjn)
      rw [ordL_nth hjn] at v0
      have v1' := cell_keep HB.out hc1
      have v2' := cell_keep (bstep HB0.out HB.out) hc2
      obtain ⟨fj, hfj2⟩ : ∃ k, f j = k := ⟨_, rfl⟩
      rw [hfj2] at v0 v1' v2' hfj
      obtain ⟨wa, hwa⟩ : ∃ wa, wr = wa := ⟨_, rfl⟩
      rw [hfj2] at hc1 hc2
      have HC1 := Lib.hid hc1
      have HC2 := Lib.hid (cell_keep HB0.out hc2)
      clear hsg hc1 htk2 hc2 hT hfj2 hwa
      have i1 : (fj : Int) < (n1 : Int) := by omega
      have i2 : (fj : Int) < (n2 : Int) := by omega
      have i3 : (j : Int) < (n1 : Int) := by omega
      gi_wp2_with (fail)
      clear v0
      refine wpIn_region_heldA (fun W' => BlkK W' (w.heap.size + 2) #[.string (bs x.sec), v1, v2, .slice none 0 0] 26 ∧ BlkK W' w.heap.size #[.string (bs x.sec), .slice (some ⟨b1, o1, none⟩) n1 c1, .slice (some ⟨b2, o2, none⟩) n2 c2, .slice a3 n3 c3] 26 ∧ W'.cell? ⟨b1, o1 + fj, none⟩ = some (.string (bs sg)) ∧ W'.cell? ⟨b2, o2 + fj, none⟩ = some (.slice at2 nt2 ct2)) 19 8 [0, 1, 2, 3, 4, 5, 6, 9, 10, 11, 12, 13, 14, 15] _ (fun _ => trivial) (by kernel_rfl) (by decide +kernel) rfl rfl ⟨HI.out.out, HI.out.src, v1', v2'⟩ ?_
      apply wpTakes_consD rfl rfl (by rfl)
      case hy =>
        rintro W' ⟨e1, e2, e3, e4⟩
        have q0 := e1.cell (i := 1) rfl
        have q1 := e1.cell (i := 2) rfl
        obtain ⟨d0, d1, d2, d3⟩ := e2.coll
        go_simp
        first | done | with_reducible rfl
      simp only [List.setIfInBounds_toArray, List.set_cons_zero, List.set_cons_succ]
      apply wpTakes_consD rfl rfl (by rfl)
      case hy =>
        rintro W' ⟨e1, e2, e3, e4⟩
        have q0 := e1.cell (i := 1) rfl
        have q1 := e1.cell (i := 2) rfl
        obtain ⟨d0, d1, d2, d3⟩ := e2.coll
        go_simp
        first | done | with_reducible rfl
      simp only [List.setIfInBounds_toArray, List.set_cons_zero, List.set_cons_succ]
      apply wpTakes_consD rfl rfl (by rfl)
      case hy =>
        rintro W' ⟨e1, e2, e3, e4⟩
        have q0 := e1.cell (i := 1) rfl
        have q1 := e1.cell (i := 2) rfl
        obtain ⟨d0, d1, d2, d3⟩ := e2.coll
        go_simp
        first | done | with_reducible rfl
      simp only [List.setIfInBounds_toArray, List.set_cons_zero, List.set_cons_succ]
      apply wpTakes_consD rfl rfl (by rfl)
      case hy =>
        rintro W' ⟨e1, e2, e3, e4⟩
        have q0 := e1.cell (i := 1) rfl
        have q1 := e1.cell (i := 2) rfl
        obtain ⟨d0, d1, d2, d3⟩ := e2.coll
        go_simp
        first | done | with_reducible rfl
      simp only [List.setIfInBounds_toArray, List.set_cons_zero, List.set_cons_succ]
      apply wpTakes_consD rfl rfl (by rfl)
      case hy =>
        rintro W' ⟨e1, e2, e3, e4⟩
        have q0 := e1.cell (i := 1) rfl
        have q1 := e1.cell (i := 2) rfl
        obtain ⟨d0, d1, d2, d3⟩ := e2.coll
        go_simp
        first | done | with_reducible rfl
      simp only [List.setIfInBounds_toArray, List.set_cons_zero, List.set_cons_succ]
      apply wpTakes_consD rfl rfl (by rfl)
      case hy =>
        rintro W' ⟨e1, e2, e3, e4⟩
        have q0 := e1.cell (i := 1) rfl
        have q1 := e1.cell (i := 2) rfl
        obtain ⟨d0, d1, d2, d3⟩ := e2.coll
        go_simp
        first | done | with_reducible rfl
      simp only [List.setIfInBounds_toArray, List.set_cons_zero, List.set_cons_succ]
      apply wpTakes_consD rfl rfl (by rfl)
      case hy =>
        rintro W' ⟨e1, e2, e3, e4⟩
        have q0 := e1.cell (i := 1) rfl
        have q1 := e1.cell (i := 2) rfl
        obtain ⟨d0, d1, d2, d3⟩ := e2.coll
        go_simp
        first | done | with_reducible rfl
      simp only [List.setIfInBounds_toArray, List.set_cons_zero, List.set_cons_succ]
      apply wpTakes_consD rfl rfl (by rfl)
      case hy =>
        rintro W' ⟨e1, e2, e3, e4⟩
        have q0 := e1.cell (i := 1) rfl
        have q1 := e1.cell (i := 2) rfl
        obtain ⟨d0, d1, d2, d3⟩ := e2.coll
        go_simp
        first | done | with_reducible rfl
      simp only [List.setIfInBounds_toArray, List.set_cons_zero, List.set_cons_succ]
      apply wpTakes_consD rfl rfl (by rfl)
      case hy =>
        rintro W' ⟨e1, e2, e3, e4⟩
        have q0 := e1.cell (i := 1) rfl
        have q1 := e1.cell (i := 2) rfl
        obtain ⟨d0, d1, d2, d3⟩ := e2.coll
        go_simp
        first | done | with_reducible rfl
      simp only [List.setIfInBounds_toArray, List.set_cons_zero, List.set_cons_succ]
      apply wpTakes_consD rfl rfl (by rfl)
      case hy =>
        rintro W' ⟨e1, e2, e3, e4⟩
        have q0 := e1.cell (i := 1) rfl
        have q1 := e1.cell (i := 2) rfl
        obtain ⟨d0, d1, d2, d3⟩ := e2.coll
        go_simp
        first | done | with_reducible rfl
      simp only [List.setIfInBounds_toArray, List.set_cons_zero, List.set_cons_succ]
      apply wpTakes_consD rfl rfl (by rfl)
      case hy =>
        rintro W' ⟨e1, e2, e3, e4⟩
        have q0 := e1.cell (i := 1) rfl
        have q1 := e1.cell (i := 2) rfl
        obtain ⟨d0, d1, d2, d3⟩ := e2.coll
        go_simp
        first | done | with_reducible rfl
      simp only [List.setIfInBounds_toArray, List.set_cons_zero, List.set_cons_succ]
      apply wpTakes_consD rfl rfl (by rfl)
      case hy =>
        rintro W' ⟨e1, e2, e3, e4⟩
        have q0 := e1.cell (i := 1) rfl
        have q1 := e1.cell (i := 2) rfl
        obtain ⟨d0, d1, d2, d3⟩ := e2.coll
        go_simp
        first | done | with_reducible rfl
      simp only [List.setIfInBounds_toArray, List.set_cons_zero, List.set_cons_succ]
      apply wpTakes_consD rfl rfl (by rfl)
      case hy =>
        rintro W' ⟨e1, e2, e3, e4⟩
        have q0 := e1.cell (i := 1) rfl
        have q1 := e1.cell (i := 2) rfl
        obtain ⟨d0, d1, d2, d3⟩ := e2.coll
        go_simp
        first | done | with_reducible rfl
      simp only [List.setIfInBounds_toArray, List.set_cons_zero, List.set_cons_succ]
      apply wpTakes_consD rfl rfl (by rfl)
      case hy =>
        rintro W' ⟨e1, e2, e3, e4⟩
        have q0 := e1.cell (i := 1) rfl
        have q1 := e1.cell (i := 2) rfl
        obtain ⟨d0, d1, d2, d3⟩ := e2.coll
        go_simp
        first | done | with_reducible rfl
      simp only [List.setIfInBounds_toArray, List.set_cons_zero, List.set_cons_succ]
      apply wpTakes_nil
      have HD := Lib.hid (HI.out.below (Below.refl _ _).drew)
      have HS := Lib.hid (show ∀ (a : Value) (l : List Str) (b : Value) (m : List (List Tok)) W', ChG w0 w #[.string (bs x.sec), .slice (some ⟨b1, o1, none⟩) n1 c1, .slice (some ⟨b2, o2, none⟩) n2 c2, .slice a3 n3 c3] #[.string ⟨#[]⟩, .slice none 0 0, .slice none 0 0, .slice none 0 0] x.sec v1 v2 a l b m W' → BlkK W' (w.heap.size + 2) #[.string (bs x.sec), v1, v2, .slice none 0 0] 26 ∧ BlkK W' w.heap.size #[.string (bs x.sec), .slice (some ⟨b1, o1, none⟩) n1 c1, .slice (some ⟨b2, o2, none⟩) n2 c2, .slice a3 n3 c3] 26 ∧ W'.cell? ⟨b1, o1 + fj, none⟩ = some (.string (bs sg)) ∧ W'.cell? ⟨b2, o2 + fj, none⟩ = some (.slice at2 nt2 ct2) from fun a l b m W' G => ⟨G.out, G.src, cell_keep G.bel HC1.out, cell_keep G.bel HC2.out⟩)
      obtain ⟨wd, hwd⟩ : ∃ wd, wr.drew = wd := ⟨_, rfl⟩
      obtain ⟨p, hp⟩ : ∃ p, perL f x.sigla j = p := ⟨_, rfl⟩
      obtain ⟨r, hr⟩ : ∃ r, perL f x.tokens j = r := ⟨_, rfl⟩
      have hpl : p.length = j := by rw [← hp]; exact perL_len fun t ht => by rw [hl1]; exact HFL.out t (by omega)
      have hrl : r.length = j := by rw [← hr]; exact perL_len fun t ht => by rw [htk, hl1]; exact HFL.out t (by omega)
      rw [hp, hr, hwd] at HD
      rw [hp] at HP1
      rw [hr] at HP2
      rw [hwd]
      have HPL := Lib.hid hpl
      have HRL := Lib.hid hrl
      have hszd : w.heap.size ≤ wd.heap.size := HD.out.bel.size
      clear hwd hp hr hpl hrl v1' v2'
      refine wpAnyR_two (i := 7) (j := 16) rfl rfl (by decide +kernel) ?_ ?_
      · skip
        gi_wp2_with (fail)
        have G1 := Lib.hid (HD.out.below (balloc wd (.cells #[.string (bs sg)] 9)))
        first | refine ⟨fun _ => HS.out _ _ _ _ _ G1.out, ?_⟩ | refine ⟨HS.out _ _ _ _ _ G1.out, ?_⟩
        refine wpAnyR_two (i := 8) (j := 16) rfl rfl (by decide +kernel) ?_ ?_
        · skip
          have SRG2 := Lib.hid (show World.ownsRow _ w.heap.size 9 1 v1 j (p.map sv) from by have := G1.out.sig; unfold OwnS at this; rwa [HPL.out] at this)
          refine wpListIn_append_own _ rfl _ _ 22 rfl w.heap.size 9 is (.string ⟨#[]⟩) 1 16 Tryz.underlying22 his hs0 hs1 hs2 rfl (by decide) _ _ _ rfl SRG2.out ⟨wd.heap.size, 0, none⟩ 1 1 [.string (bs sg)] rfl rfl (cell_one_new _ _ _) (by simp [Value.oneCell']) (by unfold maxLen; omega) (by first | omega | (simp; omega)) (by first | omega | (simp; omega)) ?_
          intro v9 w4 hown hgrow _
          obtain ⟨g9, k9, rfl⟩ := ownsRow_succ hown
          have G2 := Lib.hid (ChG.pushS (s := sg) G1.out (by rw [HPL.out]; exact hown) hgrow)
          clear hown hgrow
          gi_wp2_with (fail)
          first | refine ⟨fun _ => HS.out _ _ _ _ _ G2.out, ?_⟩ | refine ⟨HS.out _ _ _ _ _ G2.out, ?_⟩
          try simp only [Act.put, List.getElem_toArray, List.getElem_cons_succ, List.getElem_cons_zero, List.setIfInBounds_toArray, List.set_cons_succ, List.set_cons_zero]
          apply wpAnyR_early (i := 18) (d := 37) rfl rfl (fun _ => trivial) (by decide +kernel) (by rfl)
          case hS => exact HS.out _ _ _ _ _ G2.out
          case hy =>
            rintro W' ⟨e1, e2, e3, e4⟩
            go_simp
            first | done | with_reducible rfl
          try simp only [List.setIfInBounds_toArray, List.set_cons_zero, List.set_cons_succ]
          refine wpAnyR_one (i := 16) rfl (by decide +kernel) ?_
          gi_wp2_with (fail)
          have G3 := Lib.hid (G2.out.below (balloc w4 (.cells #[.slice at2 nt2 ct2] 67)))
          first | refine ⟨fun _ => HS.out _ _ _ _ _ G3.out, ?_⟩ | refine ⟨HS.out _ _ _ _ _ G3.out, ?_⟩
          refine wpAnyR_one (i := 17) rfl (by decide +kernel) ?_
          have hsz4 := G3.out.bel.size
          try simp only [World.size_alloc] at hsz4
          obtain ⟨vs, hrow, hnx⟩ := G3.out.pushT
          rw [HRL.out] at hrow hnx
          have HROW := Lib.hid hrow
          have HNX := Lib.hid hnx
          clear hrow hnx
          refine wpListIn_append_own _ rfl _ _ 23 rfl w.heap.size 67 it (.slice none 0 0) 1 24 Tryz.underlying23 hit ht0 ht1 ht2 rfl (by decide) _ _ _ rfl HROW.out ⟨w4.heap.size, 0, none⟩ 1 1 [.slice at2 nt2 ct2] rfl rfl (cell_one_new _ _ _) (by simp [Value.oneCell']) (by unfold maxLen; omega) (by first | omega | (simp; omega)) (by first | omega | (simp; omega)) ?_
          intro v10 w6 hown hgrow _
          obtain ⟨g10, k10, rfl⟩ := ownsRow_succ hown
          have G4 := Lib.hid (HNX.out _ _ _ tk hown hgrow ⟨at2, nt2, ct2, rfl, HT.out⟩)
          clear hown hgrow
          gi_wp2_with (fail)
          first | refine ⟨fun _ => HS.out _ _ _ _ _ G4.out, ?_⟩ | refine ⟨HS.out _ _ _ _ _ G4.out, ?_⟩
          try simp only [Act.put, List.getElem_toArray, List.getElem_cons_succ, List.getElem_cons_zero, List.setIfInBounds_toArray, List.set_cons_succ, List.set_cons_zero]
          refine wpAnyR_one (i := 19) rfl (by decide +kernel) ?_
          have c1 := G4.out.out.cell (i := 1) rfl
          have f1 := BlkK.frozen (i := 1) G4.out.out
          gi_wp2_with (fail)
          have GS := Lib.hid (ChG.store G4.out 1 (.slice (some ⟨g9, 0, none⟩) (j + 1) k9) rfl)
          refine ⟨fun h => absurd h (by omega), ?_⟩
          refine wpAnyR_one (i := 20) rfl (by decide +kernel) ?_
          clear c1 f1
          gi_wp2_with (fail)
          refine ⟨fun h => absurd h (by omega), ?_⟩
          refine wpAnyR_one (i := 21) rfl (by decide +kernel) ?_
          have c1 := GS.out.out.cell (i := 2) rfl
          have f1 := BlkK.frozen (i := 2) GS.out.out
          gi_wp2_with (fail)
          have GT := Lib.hid (ChG.store GS.out 2 (.slice (some ⟨g10, 0, none⟩) (j + 1) k10) rfl)
          refine ⟨fun h => absurd h (by omega), by decide +kernel, ?_⟩
          gi_wp2_with (fail)
          refine (by assumption : ∀ (a : Act) (w : World), _ → _) _ _ ?_
          gi_wp2_with (fail)
          exact ⟨⟨j + 1, _, _, by omega, by simp, by rw [HP1.out, HP2.out]; exact GT.out⟩, by simp [intOf]; omega⟩
        · skip
          gi_wp2_with (fail)
          have G2 := Lib.hid (G1.out.below (balloc (wd.alloc (.cells #[.string (bs sg)] 9)) (.cells #[.slice at2 nt2 ct2] 67)))
          first | refine ⟨fun _ => HS.out _ _ _ _ _ G2.out, ?_⟩ | refine ⟨HS.out _ _ _ _ _ G2.out, ?_⟩
          refine wpAnyR_one (i := 8) rfl (by decide +kernel) ?_
          have HB16 := Lib.hid (show BlkK (World.alloc (wd.alloc (.cells #[.string (bs sg)] 9)) (.cells #[.slice at2 nt2 ct2] 67)) (wd.heap.size + 1) #[.slice at2 nt2 ct2] 67 from by have := BlkK.new (wd.alloc (.cells #[.string (bs sg)] 9)) #[.slice at2 nt2 ct2] 67; rwa [World.size_alloc] at this)
          have SRG3 := Lib.hid (show World.ownsRow _ w.heap.size 9 1 v1 j (p.map sv) from by have := G2.out.sig; unfold OwnS at this; rwa [HPL.out] at this)
          refine wpListIn_append_own _ rfl _ _ 22 rfl w.heap.size 9 is (.string ⟨#[]⟩) 1 16 Tryz.underlying22 his hs0 hs1 hs2 rfl (by decide) _ _ _ rfl SRG3.out ⟨wd.heap.size, 0, none⟩ 1 1 [.string (bs sg)] rfl rfl (fun j u hu => cell_keep (balloc _ _) (cell_one_new _ _ _ j u hu)) (by simp [Value.oneCell']) (by unfold maxLen; omega) (by first | omega | (simp; omega)) (by first | omega | (simp; omega)) ?_
          intro v9 w4 hown hgrow _
          obtain ⟨g9, k9, rfl⟩ := ownsRow_succ hown
          have G3 := Lib.hid (ChG.pushS (s := sg) G2.out (by rw [HPL.out]; exact hown) hgrow)
          have HX2 := Lib.hid (World.news_of_block (HB16.out.keptE hgrow (fun e => by have := (HD.out.sig.lt _ e.symm).2; omega)))
          clear hown hgrow
          gi_wp2_with (fail)
          first | refine ⟨fun _ => HS.out _ _ _ _ _ G3.out, ?_⟩ | refine ⟨HS.out _ _ _ _ _ G3.out, ?_⟩
          try simp only [Act.put, List.getElem_toArray, List.getElem_cons_succ, List.getElem_cons_zero, List.setIfInBounds_toArray, List.set_cons_succ, List.set_cons_zero]
          apply wpAnyR_early (i := 18) (d := 37) rfl rfl (fun _ => trivial) (by decide +kernel) (by rfl)
          case hS => exact HS.out _ _ _ _ _ G3.out
          case hy =>
            rintro W' ⟨e1, e2, e3, e4⟩
            go_simp
            first | done | with_reducible rfl
          try simp only [List.setIfInBounds_toArray, List.set_cons_zero, List.set_cons_succ]
          refine wpAnyR_one (i := 17) rfl (by decide +kernel) ?_
          have hsz4 := G3.out.bel.size
          try simp only [World.size_alloc] at hsz4
          obtain ⟨vs, hrow, hnx⟩ := G3.out.pushT
          rw [HRL.out] at hrow hnx
          have HROW := Lib.hid hrow
          have HNX := Lib.hid hnx
          clear hrow hnx
          refine wpListIn_append_own _ rfl _ _ 23 rfl w.heap.size 67 it (.slice none 0 0) 1 24 Tryz.underlying23 hit ht0 ht1 ht2 rfl (by decide) _ _ _ rfl HROW.out ⟨wd.heap.size + 1, 0, none⟩ 1 1 [.slice at2 nt2 ct2] rfl rfl HX2.out (by simp [Value.oneCell']) (by unfold maxLen; omega) (by first | omega | (simp; omega)) (by first | omega | (simp; omega)) ?_
          intro v10 w6 hown hgrow _
          obtain ⟨g10, k10, rfl⟩ := ownsRow_succ hown
          have G4 := Lib.hid (HNX.out _ _ _ tk hown hgrow ⟨at2, nt2, ct2, rfl, HT.out⟩)
          clear hown hgrow
          gi_wp2_with (fail)
          first | refine ⟨fun _ => HS.out _ _ _ _ _ G4.out, ?_⟩ | refine ⟨HS.out _ _ _ _ _ G4.out, ?_⟩
          try simp only [Act.put, List.getElem_toArray, List.getElem_cons_succ, List.getElem_cons_zero, List.setIfInBounds_toArray, List.set_cons_succ, List.set_cons_zero]
          refine wpAnyR_one (i := 19) rfl (by decide +kernel) ?_
          have c1 := G4.out.out.cell (i := 1) rfl
          have f1 := BlkK.frozen (i := 1) G4.out.out
          gi_wp2_with (fail)
          have GS := Lib.hid (ChG.store G4.out 1 (.slice (some ⟨g9, 0, none⟩) (j + 1) k9) rfl)
          refine ⟨fun h => absurd h (by omega), ?_⟩
          refine wpAnyR_one (i := 20) rfl (by decide +kernel) ?_
          clear c1 f1
          gi_wp2_with (fail)
          refine ⟨fun h => absurd h (by omega), ?_⟩
          refine wpAnyR_one (i := 21) rfl (by decide +kernel) ?_
          have c1 := GS.out.out.cell (i := 2) rfl
          have f1 := BlkK.frozen (i := 2) GS.out.out
          gi_wp2_with (fail)
          have GT := Lib.hid (ChG.store GS.out 2 (.slice (some ⟨g10, 0, none⟩) (j + 1) k10) rfl)
          refine ⟨fun h => absurd h (by omega), by decide +kernel, ?_⟩
          gi_wp2_with (fail)
          refine (by assumption : ∀ (a : Act) (w : World), _ → _) _ _ ?_
          gi_wp2_with (fail)
          exact ⟨⟨j + 1, _, _, by omega, by simp, by rw [HP1.out, HP2.out]; exact GT.out⟩, by simp [intOf]; omega⟩
      · skip
        gi_wp2_with (fail)
        have G1 := Lib.hid (HD.out.below (balloc wd (.cells #[.slice at2 nt2 ct2] 67)))
        first | refine ⟨fun _ => HS.out _ _ _ _ _ G1.out, ?_⟩ | refine ⟨HS.out _ _ _ _ _ G1.out, ?_⟩
        refine wpAnyR_one (i := 7) rfl (by decide +kernel) ?_
        gi_wp2_with (fail)
        have G2 := Lib.hid (G1.out.below (balloc (wd.alloc (.cells #[.slice at2 nt2 ct2] 67)) (.cells #[.string (bs sg)] 9)))
        first | refine ⟨fun _ => HS.out _ _ _ _ _ G2.out, ?_⟩ | refine ⟨HS.out _ _ _ _ _ G2.out, ?_⟩
        refine wpAnyR_one (i := 8) rfl (by decide +kernel) ?_
        have HB7 := Lib.hid (show BlkK (World.alloc (wd.alloc (.cells #[.slice at2 nt2 ct2] 67)) (.cells #[.string (bs sg)] 9)) (wd.heap.size + 1) #[.string (bs sg)] 9 from by have := BlkK.new (wd.alloc (.cells #[.slice at2 nt2 ct2] 67)) #[.string (bs sg)] 9; rwa [World.size_alloc] at this)
        have HB16 := Lib.hid ((BlkK.new wd #[.slice at2 nt2 ct2] 67).below (balloc (wd.alloc (.cells #[.slice at2 nt2 ct2] 67)) (.cells #[.string (bs sg)] 9)))
        have SRG3 := Lib.hid (show World.ownsRow _ w.heap.size 9 1 v1 j (p.map sv) from by have := G2.out.sig; unfold OwnS at this; rwa [HPL.out] at this)
        refine wpListIn_append_own _ rfl _ _ 22 rfl w.heap.size 9 is (.string ⟨#[]⟩) 1 16 Tryz.underlying22 his hs0 hs1 hs2 rfl (by decide) _ _ _ rfl SRG3.out ⟨wd.heap.size + 1, 0, none⟩ 1 1 [.string (bs sg)] rfl rfl (World.news_of_block HB7.out) (by simp [Value.oneCell']) (by unfold maxLen; omega) (by first | omega | (simp; omega)) (by first | omega | (simp; omega)) ?_
        intro v9 w4 hown hgrow _
        obtain ⟨g9, k9, rfl⟩ := ownsRow_succ hown
        have G3 := Lib.hid (ChG.pushS (s := sg) G2.out (by rw [HPL.out]; exact hown) hgrow)
        have HX2 := Lib.hid (World.news_of_block (HB16.out.keptE hgrow (fun e => by have := (HD.out.sig.lt _ e.symm).2; omega)))
        clear hown hgrow
        gi_wp2_with (fail)
        first | refine ⟨fun _ => HS.out _ _ _ _ _ G3.out, ?_⟩ | refine ⟨HS.out _ _ _ _ _ G3.out, ?_⟩
        try simp only [Act.put, List.getElem_toArray, List.getElem_cons_succ, List.getElem_cons_zero, List.setIfInBounds_toArray, List.set_cons_succ, List.set_cons_zero]
        apply wpAnyR_early (i := 18) (d := 37) rfl rfl (fun _ => trivial) (by decide +kernel) (by rfl)
        case hS => exact HS.out _ _ _ _ _ G3.out
        case hy =>
          rintro W' ⟨e1, e2, e3, e4⟩
          go_simp
          first | done | with_reducible rfl
        try simp only [List.setIfInBounds_toArray, List.set_cons_zero, List.set_cons_succ]
        refine wpAnyR_one (i := 17) rfl (by decide +kernel) ?_
        have hsz4 := G3.out.bel.size
        try simp only [World.size_alloc] at hsz4
        obtain ⟨vs, hrow, hnx⟩ := G3.out.pushT
        rw [HRL.out] at hrow hnx
        have HROW := Lib.hid hrow
        have HNX := Lib.hid hnx
        clear hrow hnx
        refine wpListIn_append_own _ rfl _ _ 23 rfl w.heap.size 67 it (.slice none 0 0) 1 24 Tryz.underlying23 hit ht0 ht1 ht2 rfl (by decide) _ _ _ rfl HROW.out ⟨wd.heap.size, 0, none⟩ 1 1 [.slice at2 nt2 ct2] rfl rfl HX2.out (by simp [Value.oneCell']) (by unfold maxLen; omega) (by first | omega | (simp; omega)) (by first | omega | (simp; omega)) ?_
        intro v10 w6 hown hgrow _
        obtain ⟨g10, k10, rfl⟩ := ownsRow_succ hown
        have G4 := Lib.hid (HNX.out _ _ _ tk hown hgrow ⟨at2, nt2, ct2, rfl, HT.out⟩)
        clear hown hgrow
        gi_wp2_with (fail)
        first | refine ⟨fun _ => HS.out _ _ _ _ _ G4.out, ?_⟩ | refine ⟨HS.out _ _ _ _ _ G4.out, ?_⟩
        try simp only [Act.put, List.getElem_toArray, List.getElem_cons_succ, List.getElem_cons_zero, List.setIfInBounds_toArray, List.set_cons_succ, List.set_cons_zero]
        refine wpAnyR_one (i := 19) rfl (by decide +kernel) ?_
        have c1 := G4.out.out.cell (i := 1) rfl
        have f1 := BlkK.frozen (i := 1) G4.out.out
        gi_wp2_with (fail)
        have GS := Lib.hid (ChG.store G4.out 1 (.slice (some ⟨g9, 0, none⟩) (j + 1) k9) rfl)
        refine ⟨fun h => absurd h (by omega), ?_⟩
        refine wpAnyR_one (i := 20) rfl (by decide +kernel) ?_
        clear c1 f1
        gi_wp2_with (fail)
        refine ⟨fun h => absurd h (by omega), ?_⟩
        refine wpAnyR_one (i := 21) rfl (by decide +kernel) ?_
        have c1 := GS.out.out.cell (i := 2) rfl
        have f1 := BlkK.frozen (i := 2) GS.out.out
        gi_wp2_with (fail)
        have GT := Lib.hid (ChG.store GS.out 2 (.slice (some ⟨g10, 0, none⟩) (j + 1) k10) rfl)
        refine ⟨fun h => absurd h (by omega), by decide +kernel, ?_⟩
        gi_wp2_with (fail)
        refine (by assumption : ∀ (a : Act) (w : World), _ → _) _ _ ?_
        gi_wp2_with (fail)
        exact ⟨⟨j + 1, _, _, by omega, by simp, by rw [HP1.out, HP2.out]; exact GT.out⟩, by simp [intOf]; omega⟩
    · obtain rfl : n1 = j := by omega
      obtain ⟨g0, g1, g2, g3⟩ := HI.out.src.coll
      have hsz := HI.out.bel.size
      have hlt := HI.out.out.lt
      gi_wp2_with (fail)
      refine (callsIn_wide.2 (HCP.out _)).mono ?_
      rintro e w2 ⟨rfl, hbx, hby, hb2⟩
      have HG := Lib.hid (HI.out.below hb2)
      obtain ⟨Bx, hBx⟩ : ∃ Bx, wr.heap.size = Bx := ⟨_, rfl⟩
      rw [hBx] at hbx hby ⊢
      have hB3 : w.heap.size + 3 ≤ Bx := by omega
      have HC0 := Lib.hid (show ChC w0 w #[.string (bs x.sec), .slice a1 n1 c1, .slice a2 n2 c2, .slice a3 n3 c3] #[.string ⟨#[]⟩, .slice none 0 0, .slice none 0 0, .slice none 0 0] x.sec v1 (perL f x.sigla n1) v2 (perL f x.tokens n1) Bx (.slice (some ⟨bo, oo, none⟩) n1 co) [] w2 from
        ⟨⟨_, HG.out.out, ColV.nil, by simp [Value.ownBlock]⟩, HG.out.res, HG.out.sig, HG.out.tok, hbx, hby, HG.out.bel⟩)
      have hl1' := hbx.lt
      have hl2' := hby.lt
      have HT := Lib.hid (cols_tells 9 (by omega) x a1 n1 c1 a2 n2 c2 a3 n3 c3 (some ⟨bo, oo, none⟩) co f w2 w HH.out HV.out HF0.out HO.out Bx (Bx + 1) HG.out.bel hl1' hl2' hbx.coll (hby.cell rfl))
      have HBD := Lib.hid HG.out.bel
      have hszB := HG.out.bel.size
      clear hbx hby hb2 g0 g1 g2 g3 hBx
      gi_wp2_with (fail)
      refine wpIn_rangeFunc_tells (F := Fence.wide) rfl (by omega) (gf := 110) rfl trivial eg HT.out KeepR.trans (keepR_b (w := w2) (by omega) (by omega) (by omega)) (Below.refl _ _) (fun _ => rfl)
        (fun r _ A B row ⟨c, hc, ho⟩ hg hr => ⟨c, hc, ho.kept hg (owns_none ho.1 fun t ht => (hr t ht).2)⟩)
        (fun (pre : List (Nat × Value)) W => ChC w0 w #[.string (bs x.sec), .slice a1 n1 c1, .slice a2 n2 c2, .slice a3 n3 c3] #[.string ⟨#[]⟩, .slice none 0 0, .slice none 0 0, .slice none 0 0] x.sec v1 (perL f x.sigla n1) v2 (perL f x.tokens n1) Bx (.slice (some ⟨bo, oo, none⟩) n1 co) (pre.map fun r : Nat × Value => perL f (x.columns.getD r.1 []) n1) W)
        (fun _ A B row hI hg hr => ChC.keptN hI hg (fun r he => (hr r he).2) (fun r he => by have := (hr r he).1; omega))
        HC0.out
        (fun r => { tmps := #[.agg #[.string (bs x.sec), .slice a1 n1 c1, .slice a2 n2 c2, .slice a3 n3 c3], .slice (some ⟨bo, oo, none⟩) n1 co, .pointer (some ⟨w.heap.size, 0, none⟩), undef, .pointer (some ⟨w.heap.size + 1, 0, none⟩), .pointer (some ⟨w.heap.size + 1 + 1, 0, none⟩), undef, u7, undef, r.2, .pointer (some ⟨w.heap.size, 0, none⟩), .string (bs x.sec), .agg #[.string (bs x.sec), .slice none 0 0, .slice none 0 0, .slice none 0 0], .slice (some ⟨bo, oo, none⟩) n1 co, .int .i64 n1, .int .i64 n1, .bool false, u17, u18, u19, u20, u21, u22, u23, u24, u25, u26, u27, u28, u29, u30, u31, u32, u33, u34, u35, u36, u37, u38, u39, .agg #[.string (bs x.sec), .slice a1 n1 c1, .slice a2 n2 c2, .slice a3 n3 c3], .slice (some ⟨bo, oo, none⟩) n1 co, .func (.func 110) #[] #[.pointer (some ⟨Bx, 0, none⟩), .pointer (some ⟨Bx + 1, 0, none⟩)], .int .i64 (r.1 : Int), r.2, undef, undef, undef, undef, undef, undef, undef], defers := [] }) ?assign ?body ?done
      case assign =>
        intro l r W K hK
        gi_wp2
        exact hK
      case body =>
        rintro l pre ⟨i, v⟩ W hI hlen ⟨c, hc, ho⟩
        have hcl := (HV.out.somes hc).1
        have hpl : (perL f c n1).length = n1 := perL_len fun t ht => by rw [hcl, hl1]; exact HFL.out t ht
        have hsm := HH.out.columns.small
        have hcg : x.columns.getD i [] = c := by rw [List.getD_eq_getElem?_getD, show x.columns[i]? = some c from hc]; rfl
        obtain ⟨av, kv, hve, _⟩ := OwnI.ints ho (by omega)
        rw [hpl] at hve
        simp only at hve
        subst hve
        have hszW := (ChC.bel hI).size
        obtain ⟨v3, vs, h1, h2, hn⟩ := ChC.push hI hB3
        obtain ⟨m, hm⟩ : ∃ m, (pre.map fun r : Nat × Value => perL f (x.columns.getD r.1 []) n1).length = m := ⟨_, rfl⟩
        have hm' : m = pre.length := by rw [← hm, List.length_map]
        rw [hm] at h2 hn
        clear hm
        subst hm'
        have HN := Lib.hid hn
        have HR := Lib.hid h2
        have HO1 := Lib.hid (OwnI.mono ho hszB)
        have HCG := Lib.hid hcg
        have c0 := h1.cell (i := 3) rfl
        clear h1 h2 hn ho hcl hpl hI hc hcg
        gi_wp2_with (gi_at_builtin; refine wpListIn_append_own_at _ rfl _ _ 24 rfl w.heap.size 44 ir (.slice none 0 0) 1 24 Tryz.underlying24 hir hr0 hr1 hr2 rfl (by decide) _ _ _ rfl (HR.out.alloc _) ⟨W.heap.size, 0, none⟩ 1 1 [.slice av n1 kv] rfl rfl (cell_one_new _ _ _) (by simp [Value.oneCell']) (by unfold maxLen; omega) (by first | omega | (simp; omega)) (by first | omega | (simp; omega)) ?_; intro v9 w4 hown hgrow _ hblk; obtain ⟨g9, k9, rfl⟩ := ownsRow_succ hown; have HZ := Lib.hid (HN.out _ _ _ _ (perL f c n1) hown hgrow hblk HO1.out); have c1 := HZ.out.1.cell (i := 3) rfl; have f1 := BlkK.hard (i := 3) HZ.out.1; clear hown hgrow hblk)
        refine ⟨HZ.out.2.2.2.from _, HZ.out.2.2.1, ?_⟩
        simp only [List.map_append, List.map_cons, List.map_nil, ← List.getD_eq_getElem?_getD, HCG.out]
        exact HZ.out.2.1
      case done =>
        rintro D ys W hD hS hI hK
        have hcs : (ys.map fun r : Nat × Value => perL f (x.columns.getD r.1 []) n1) = (reoC x f).columns := by
          have e1 : (ys.map fun r : Nat × Value => perL f (x.columns.getD r.1 []) n1) = (ys.map (·.1)).map fun i => perL f (x.columns.getD i []) n1 := by rw [List.map_map]; rfl
          rw [e1, show ys.map (·.1) = List.range n3 from hS, ← hl3, range_getD x.columns [] fun c => perL f c n1]
          show _ = x.columns.map fun c => perL f c x.sigla.length
          rw [hl1]
        have hI := hI
        rw [hcs] at hI
        have hp1 : (perL f x.sigla n1).length = n1 := perL_len fun k hk => by rw [hl1]; exact HFL.out k hk
        have hp2 : (perL f x.tokens n1).length = n1 := perL_len fun k hk => by rw [htk, hl1]; exact HFL.out k hk
        have hp3 : (reoC x f).columns.length = n3 := by show (x.columns.map _).length = _; rw [List.length_map, hl3]
        have hsm := HH.out.sigla.small
        obtain ⟨d1, k1, d2, k2, d3, k3, rfl, rfl, hk1, hout, hown⟩ := ChC.shape hI (by omega) (by omega) (by omega) (fun c hc => by
          obtain ⟨c', _, rfl⟩ := List.mem_map.1 hc
          have := List.length_filterMap_le (fun k => c'[f k]?) (List.range x.sigla.length)
          rw [List.length_range] at this
          exact Nat.le_trans this (by omega))
        rw [hp1] at hk1
        rw [hp1, hp2, hp3] at hout hown
        have HOWN := Lib.hid hown
        have HRES := Lib.hid hI.res
        have HBEL := Lib.hid hI.bel
        have c0 := hout.cell (i := 0) rfl
        have c1 := hout.cell (i := 1) rfl
        have c2 := hout.cell (i := 2) rfl
        have c3 := hout.cell (i := 3) rfl
        have f0 := BlkK.hard (i := 0) HRES.out
        have g0 := HRES.out.cell (i := 0) rfl
        have f1 := BlkK.hard (i := 1) HRES.out
        have g1 := HRES.out.cell (i := 1) rfl
        have f2 := BlkK.hard (i := 2) HRES.out
        have g2 := HRES.out.cell (i := 2) rfl
        have f3 := BlkK.hard (i := 3) HRES.out
        have g3 := HRES.out.cell (i := 3) rfl
        clear hI hout hown hcs hS
        gi_wp2_with (fail)
        clear c0 c1 c2 c3 f0 f1 f2 f3 g0 g1 g2 g3
        obtain ⟨WS, hWS, hbs, hgs⟩ := store4 HRES.out (.string (bs x.sec)) (.slice d1 n1 k1) (.slice d2 n1 k2) (.slice d3 n3 k3)
        rw [← hWS]
        have hDne : w.heap.size + 1 ≠ D := by
          rintro e
          have h1 : W.heap[w.heap.size + 1]? = some (.cells _ _ (0, 0)) := HRES.out
          rw [e, hK] at h1
          cases h1
        have hK2 : WS.heap[D]? = some (.deferred (some [])) := by rw [hgs.block D (Array.getElem?_eq_some_iff.1 hK).1 (by simpa using fun e => hDne e.symm)]; exact hK
        have hbs2 := hbs.keptN (grownBy_putObj' WS D (.deferred none)) (fun r hr => by cases hr; exact ⟨_, hK2, rfl⟩)
        have r0 := hbs2.cell (i := 0) rfl
        have r1 := hbs2.cell (i := 1) rfl
        have r2 := hbs2.cell (i := 2) rfl
        have r3 := hbs2.cell (i := 3) rfl
        refine ⟨by simp, .inl ⟨_, _, rfl, run_takeDeferred hK2, ?_⟩⟩
        refine ⟨.agg #[.string (bs x.sec), .slice d1 n1 k1, .slice d2 n1 k2, .slice d3 n3 k3], by simp [results, Tryz.f64, go_sem, r0, r1, r2, r3], d1, k1, d2, k2, d3, k3, rfl, ?_, hk1, ?_⟩
        · have := (HOWN.out.keptE HRES.out hgs).keptN (grownBy_putObj' WS D (.deferred none)) (fun r hr => by cases hr; exact ⟨_, hK2, rfl⟩)
          rw [show reoC x f = ⟨x.sec, perL f x.sigla n1, perL f x.tokens n1, (reoC x f).columns⟩ by rw [← hl1]; rfl]
          exact this
        · exact (HBEL.out.grown hgs HBEL.out.size fun r he => by cases he; omega).trans (belowK_b (w := w) (Nat.le_refl _) WS D _ _ (by omega) hK2 rfl rfl)
end Go.Proofs.YtjmebijckcimoaaGreatDoor

namespace Go.Proofs.YtjmebijckcimoaaGreatDoor
open Go.RowKit Go.Ap Go.Shelf Go.Proofs

attribute [local go_sem] Oper.semAt_some bs_toList empty_toList bs_size bs_extract
theorem ints_take {w : World} {a : Option Addr} {n i : Nat} {xs : List Int} (h : Ints w a n xs) (hi : i ≤ n) : Ints w a i (xs.take i) :=
  ⟨by rw [List.length_take, h.len]; omega, by have := h.small; omega, fun k x hk => h.cells k x (by
    rw [List.getElem?_take] at hk
    split at hk
    · exact hk
    · cases hk)⟩
theorem take_not {f : Nat → Nat} {n i : Nat} (hf : Inv n f) (hi : i < n) : ((ordL f n).take i).contains ((f i : Nat) : Int) = false := by
  rw [Bool.eq_false_iff]
  intro h
  have h : ((f i : Nat) : Int) ∈ (ordL f n).take i := by simpa using h
  unfold ordL at h
  rw [← List.map_take, List.mem_map] at h
  obtain ⟨k, hk, e⟩ := h
  rw [List.take_range, List.mem_range] at hk
  have e' : f k = f i := by omega
  have := congrArg f e'
  rw [hf.inv, hf.inv] at this
  omega
set_option maxRecDepth 100000 in
set_option maxHeartbeats 8000000 in
theorem reorderP (x : Coll) (a1 : Option Addr) (n1 c1 : Nat) (a2 : Option Addr) (n2 c2 : Nat) (a3 : Option Addr) (n3 c3 : Nat) (ao : Option Addr) (co : Nat) (f : Nat → Nat) (w : World) (h : CollM w a1 a2 a3 n1 n2 n3 x) (hc1 : n1 ≤ c1) (hev : EV w) (hok : collC x = 0) (hf : Inv x.sigla.length f) (hco : n1 ≤ co) (ho : Ints w ao n1 (ordL f n1)) (h32 : x.columns.length ≤ 1048576) :
    Calls Tryz.prog 35 #[collV x.sec a1 n1 c1 a2 n2 c2 a3 n3 c3, .slice ao n1 co] w fun e w' => ∃ b1 k1 b2 k2 b3 k3, e = .returned (.tuple #[collV x.sec b1 n1 k1 b2 n1 k2 b3 n3 k3, .int .i64 0]) ∧ CollM w' b1 b2 b3 n1 n1 n3 (reoC x f) ∧ n1 ≤ k1 ∧ Below w.heap.size w w' := by
  have hl1 := h.sigla.len
  have hl2 := h.tokens.len
  have hl3 := h.columns.len
  have hv := val_of hok
  have hpos := hv.pos
  have htk := hv.toks
  have hsm := h.sigla.small
  have hs3 := h.columns.small
  have hf1 := hf
  rw [hl1] at hpos hf1
  obtain ⟨bo, oo, rfl, HOC0⟩ := ho.at hpos
  have HOC := Lib.hid HOC0
  have HFL := Lib.hid hf1
  have HH := Lib.hid h
  have HV := Lib.hid hv
  have HCK := Lib.hid (fun W (hb : Below w.heap.size w W) => collP x a1 n1 c1 a2 n2 c2 a3 n3 c3 W (h.mono (Nat.le_refl _) hb) hc1 (hev.mono (Nat.le_refl _) hb))
  rw [hok] at HCK
  have HCH := Lib.hid (fun W (hb : Below w.heap.size w W) => callsIn_wide.1 (chooseP x a1 n1 c1 a2 n2 c2 a3 n3 c3 (some ⟨bo, oo, none⟩) co f w W h hb hv hf (Ints.mono ho (Nat.le_refl _) hb) h32))
  have HCT := Lib.hid (fun i (hi : i < n1) W (hb : Below w.heap.size w W) => contI (some ⟨bo, oo, none⟩) i co ((ordL f n1).take i) ((f i : Nat) : Int) W (ints_take (Ints.mono ho (Nat.le_refl _) hb) (by omega)))
  have HB1 := balloc w (.cells #[.string (bs x.sec), .slice a1 n1 c1, .slice a2 n2 c2, .slice a3 n3 c3] 26)
  have HB2 := balloc (w.alloc (.cells #[.string (bs x.sec), .slice a1 n1 c1, .slice a2 n2 c2, .slice a3 n3 c3] 26)) (.cells #[.string ⟨#[]⟩, .slice none 0 0, .slice none 0 0, .slice none 0 0] 26)
  have HBX := Lib.hid ((BoxC.new w x.sec a1 n1 c1 a2 n2 c2 a3 n3 c3).below HB2)
  have hbr := BlkK.new (w.alloc (.cells #[.string (bs x.sec), .slice a1 n1 c1, .slice a2 n2 c2, .slice a3 n3 c3] 26)) #[.string ⟨#[]⟩, .slice none 0 0, .slice none 0 0, .slice none 0 0] 26
  have HBR := Lib.hid (show BlkK _ (w.heap.size + 1) _ _ by simpa [World.size_alloc] using hbr)
  have HB := Lib.hid (bstep HB1 HB2)
  unfold collV at HCK HCH ⊢
  clear h hv hok hev hf hf1 ho HOC0 HB1 HB2 hbr
  go_enter Tryz.func35, Tryz.ntmps35
  obtain ⟨k0, k1, k2, k3⟩ := HBX.out
  go_wp2_with (fail)
  refine (HCK.out _ HB.out).mono ?_
  rintro e wa ⟨rfl, hba⟩
  have HBA := Lib.hid (bstep HB.out hba)
  have HBXa := Lib.hid (HBX.out.below hba)
  have HBRa := Lib.hid (HBR.out.below hba)
  clear hba k0 k1 k2 k3
  obtain ⟨k0, k1, k2, k3⟩ := HBXa.out
  go_wp2_with (fail)
  go_loopw [21] (fun iv wr => ∃ i : Nat, i ≤ n1 ∧ iv = .int .i64 i ∧ wr = wa) (fun iv _ => n1 - (intOf iv).toNat)
  case atStart => exact ⟨0, Nat.zero_le _, rfl, rfl⟩
  case round =>
    obtain ⟨i, hi, rfl, rfl⟩ := hrel
    by_cases hin : i < n1
    · have v0 := cell_keep HBA.out (HOC.out i hin)
      rw [ordL_nth hin] at v0
      have hfl := HFL.out.lt i hin
      have HTN := Lib.hid (take_not HFL.out hin)
      have HCI := Lib.hid (HCT.out i hin)
      obtain ⟨fi, hfi⟩ : ∃ fi, f i = fi := ⟨_, rfl⟩
      rw [hfi] at v0 hfl HTN HCI
      clear hfi
      have d0 : decide ((fi : Int) < 0) = false := by simp
      have d1 : decide ((n1 : Int) ≤ (fi : Int)) = false := by simp; omega
      have d1' : decide (n1 ≤ fi) = false := by simp; omega
      go_wp2_with (fail)
      refine (HCI.out _ HBA.out).mono ?_
      rintro e w5 ⟨rfl, rfl⟩
      rw [HTN.out]
      go_wp2_with (fail)
      exact ⟨⟨i + 1, by omega, by simp, by simp⟩, by simp [intOf]; omega⟩
    · obtain rfl : i = n1 := by omega
      go_wp2_with (fail)
      refine (HCH.out _ HBA.out).mono ?_
      rintro e w6 ⟨b1, q1, b2, q2, b3, q3, rfl, hown, hk, hb6⟩
      have HOWN := Lib.hid hown
      have HRES := Lib.hid (HBRa.out.below hb6)
      have HB6 := Lib.hid (bstep HBA.out hb6)
      have hszA := HBA.out.size
      have f0 := BlkK.hard (i := 0) HRES.out
      have g0 := HRES.out.cell (i := 0) rfl
      have f1 := BlkK.hard (i := 1) HRES.out
      have g1 := HRES.out.cell (i := 1) rfl
      have f2 := BlkK.hard (i := 2) HRES.out
      have g2 := HRES.out.cell (i := 2) rfl
      have f3 := BlkK.hard (i := 3) HRES.out
      have g3 := HRES.out.cell (i := 3) rfl
      clear hown hb6 k0 k1 k2 k3
      go_wp2_with (fail)
      clear f0 f1 f2 f3 g0 g1 g2 g3
      obtain ⟨WS, hWS, hbs, hgs⟩ := store4 HRES.out (.string (bs x.sec)) (.slice b1 i q1) (.slice b2 i q2) (.slice b3 n3 q3)
      rw [← hWS]
      have r0 := hbs.cell (i := 0) rfl
      have r1 := hbs.cell (i := 1) rfl
      have r2 := hbs.cell (i := 2) rfl
      have r3 := hbs.cell (i := 3) rfl
      refine bodyPost_ret (v := .tuple #[.agg #[.string (bs x.sec), .slice b1 i q1, .slice b2 i q2, .slice b3 n3 q3], .int .i64 0]) ?hres rfl ?_
      case hres => simp [results, Tryz.f35, go_sem, r0, r1, r2, r3]
      have hbw : Below w.heap.size w WS := HB6.out.grown hgs HB6.out.size fun r he => by cases he; omega
      have hoc := HOWN.out.keptE HRES.out hgs
      have e1 : (reoC x f).sigla.length = i := by show (perL f x.sigla _).length = _; rw [perL_len fun k hk => by rw [hl1] at hk ⊢; exact HFL.out.lt k hk, hl1]
      have e2 : (reoC x f).tokens.length = i := by show (perL f x.tokens _).length = _; rw [perL_len fun k hk => by rw [hl1] at hk; rw [htk, hl1]; exact HFL.out.lt k hk, hl1]
      have e3 : (reoC x f).columns.length = n3 := by show (x.columns.map _).length = _; rw [List.length_map, hl3]
      obtain ⟨d1, j1, d2, j2, d3, j3, h1, h2, h3, hj, hm⟩ := hoc.coll hbw HH.out.sec (by omega) (by omega) (by omega) (fun c hc => by
        obtain ⟨c', _, rfl⟩ := List.mem_map.1 hc
        have := List.length_filterMap_le (fun k => c'[f k]?) (List.range x.sigla.length)
        rw [List.length_range] at this
        exact Nat.le_trans this (by omega)) (fun s hs => HH.out.ssig s (perL_mem hs))
      rw [e1] at h1 hm
      rw [e2] at h2 hm
      rw [e3] at h3 hm
      cases h1
      cases h2
      cases h3
      exact ⟨b1, q1, b2, q2, b3, q3, rfl, hm, hk, hbw⟩
end Go.Proofs.YtjmebijckcimoaaGreatDoor

