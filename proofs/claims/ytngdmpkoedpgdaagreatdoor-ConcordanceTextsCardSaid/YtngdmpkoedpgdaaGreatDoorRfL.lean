/-
  A range over a function that also writes a variable of its own (a box that lay ahead of the loop).
-/
import Derived.Test.YtngdmpkoedpgdaaGreatDoorPt5
import Derived.RangeFuncWrites
import Derived.RangeFuncBox
namespace Go.Ap
open Go Go.RowKit
section
variable {α : Type} {F : Fence} {n : Nat} {P : Program}
/-- what is asked of the function: it may do what St says beside its yields -/
def SeqWrites (F : Fence) (n : Nat) (P : Program) (g : Nat) (lb : Array Value) (encs : α → Array Value) (Kp St : World → World → Prop) (S Sp : List α → Prop) (N : Nat) (w : World) : Prop :=
  ∀ (l : Nat) (J Jx : List α → World → Prop) (W : World), Below w.heap.size w W → AbidesFrom W.heap.size J → AbidesFrom W.heap.size Jx → (∀ pre A B, J pre A → St A B → J pre B) → Kp w W →
    (∀ pre x W1, J pre W1 → pre.length < N → YieldAt F (n - 1) P l (encs x) W1 fun e W' =>
      (e = .returned (.bool true) ∧ J (pre ++ [x]) W' ∧ Kp W1 W') ∨ (e = .returned (.bool false) ∧ Jx (pre ++ [x]) W')) →
    J [] W →
    CallsIn F n P g (#[.func (.yield l) #[] #[]] ++ lb) W fun e W' => (∃ v, e = .returned v) ∧ ((∃ xs, S xs ∧ J xs W') ∨ (∃ pre, Sp pre ∧ Jx pre W'))
/-- the body's end: the next round, or the function's return -/
def endsOr (B : Nat) (Kp : World → World → Prop) (I Ix : List α → World → Prop) (xs : List α) (W : World) : Exit → Act → World → Prop
  | .normal, _, W' => KeepsFrom B W W' ∧ Kp W W' ∧ I xs W'
  | .ret, _, W' => KeepsFrom B W W' ∧ Ix xs W'
  | .exit _, _, _ => False
  | .goto _, _, _ => False
  | .panic _, _, _ => False
  | .outgrown, _, _ => False
theorem wpIn_rangeFunc_writes {g : Operand} {ps : Array Tmp} {assign body : Code} {Q : Exit → Act → World → Prop} {a : Act} {w : World}
    (hro : F.round = none) (h1 : 1 ≤ n) {gf : Nat} {lb : Array Value} (hg : a.eval g = .func (.func gf) #[] lb) (hFg : F.fn gf) (eg : ∀ args w, (callFunc gf args).run P w = .ok (.enter gf args) w)
    {encs : α → Array Value} {Kp St : World → World → Prop} {S Sp : List α → Prop} {N : Nat} (hseq : SeqWrites F (n - 1) P gf lb encs Kp St S Sp N w)
    (hKt : ∀ {A B C : World}, Kp A B → Kp B C → Kp A C) (hKb : ∀ (W : World) (l : Nat) (o o' : Obj), w.heap.size ≤ l → W.heap[l]? = some o → o.isCells = false → o.isWalk = false → Kp W (W.putObj l o')) (hKa : ∀ (W : World) (o : Obj), w.heap.size ≤ W.heap.size → Kp W (W.alloc o)) (hps : ∀ x, (encs x).size = ps.size)
    (I Ix : List α → World → Prop) (hI : OwnFrom w.heap.size I) (hIx : OwnFrom w.heap.size Ix) (hSt : ∀ pre A B, I pre A → St A B → I pre B) (hSk : ∀ A B k o, St A B → w.heap.size ≤ k → A.heap[k]? = some o → o.isCells = false → B.heap[k]? = some o) (h0 : I [] w) (a₁ : α → Act)
    (hassign : ∀ (l : Nat) (x : α) (W : World) (K : Act → World → Prop), K (a₁ x) W →
      assign.wpIn (F.inRound l) (n - 1 - 1) P (Exit.then K (fun _ _ _ => False)) { tmps := (ps.zip (encs x)).foldl (fun t (p, v) => t.setIfInBounds p v) a.tmps, defers := [] } W)
    (hbody : ∀ (l : Nat) (pre : List α) (x : α) (W : World), I pre W → pre.length < N → body.wpIn (F.inRound l) (n - 1 - 1) P (endsOr w.heap.size Kp I Ix (pre ++ [x]) W) (a₁ x) W)
    (hdone : ∀ (D : Nat) (xs : List α) (W : World), w.heap.size ≤ D → S xs → I xs W → W.heap[D]? = some (.deferred (some [])) → Q .normal { a with defers := { target := .collected D, args := #[] } :: a.defers } W)
    (hstop : ∀ (D : Nat) (pre : List α) (W : World), w.heap.size ≤ D → Sp pre → Ix pre W → W.heap[D]? = some (.deferred (some [])) → Code.ret.wpIn F n P Q { a with defers := { target := .collected D, args := #[] } :: a.defers } W) :
    (Code.rangeFunc g ps assign body).wpIn F n P Q a w := by
  refine wpIn_rangeFunc fun fn hfn => ?_
  rw [hro]
  obtain ⟨D, hD⟩ : ∃ D, D = w.heap.size := ⟨_, rfl⟩
  obtain ⟨rec, hrec⟩ : ∃ rec : LoopState → Option Code → Loop, rec = fun st pe => { state := st, pending := pe, fn, tmps := a.tmps, params := ps, assign, body, defers := w.heap.size } := ⟨_, rfl⟩
  obtain ⟨V, hV⟩ : ∃ V, (w.alloc (.deferred (some []))).alloc (.loop (rec .ready none)) = V := ⟨_, rfl⟩
  have hVl : V.heap[D + 1]? = some (.loop (rec .ready none)) := by
    rw [← hV]
    have := World.alloc_heap_new (w.alloc (.deferred (some []))) (.loop (rec .ready none))
    rw [World.size_alloc] at this
    rwa [hD]
  have hVd : V.heap[D]? = some (.deferred (some [])) := by
    rw [← hV, hD]
    exact (Below.heap_alloc _ _ _ (by simp)).trans (World.alloc_heap_new w _)
  have hVs : V.heap.size = D + 2 := by rw [← hV, World.size_alloc, World.size_alloc, hD]
  have hVI : I [] V := by rw [← hV]; exact hI.alloc _ (hI.alloc _ h0)
  have hVb : Below w.heap.size w V := by
    rw [← hV]
    exact ((Below.refl _ w).alloc (Nat.le_refl _) _).alloc (by simp) _
  have hVk : Kp w V := by
    rw [← hV]
    exact hKt (hKa w _ (Nat.le_refl _)) (hKa _ _ (by simp))
  have cells : ∀ {A : World} {row : Option Nat}, (∀ r, row = some r → V.heap.size ≤ r ∧ ∃ o : Obj, A.heap[r]? = some o ∧ o.isWalk = true) → ∀ r, row = some r → w.heap.size ≤ r ∧ ∃ o : Obj, A.heap[r]? = some o ∧ o.isCells = false := fun hr r e => by
    obtain ⟨g1, o, g2, g3⟩ := hr r e
    exact ⟨by omega, o, g2, Obj.not_cells_of_walk g3⟩
  have HC := hseq (D + 1) (fun pre W => I pre W ∧ W.heap[D + 1]? = some (.loop (rec .ready none)) ∧ W.heap[D]? = some (.deferred (some [])))
    (fun pre W => Ix pre W ∧ W.heap[D + 1]? = some (.loop (rec .done (some .ret))) ∧ W.heap[D]? = some (.deferred (some []))) V hVb
    (fun s A B row hs hgr hr => ⟨hI s A B row hs.1 hgr (cells hr), (grownBy_keeps hgr (fun r e => (hr r e).2) hs.2.1 rfl).trans hs.2.1, (grownBy_keeps hgr (fun r e => (hr r e).2) hs.2.2 rfl).trans hs.2.2⟩)
    (fun s A B row hs hgr hr => ⟨hIx s A B row hs.1 hgr (cells hr), (grownBy_keeps hgr (fun r e => (hr r e).2) hs.2.1 rfl).trans hs.2.1, (grownBy_keeps hgr (fun r e => (hr r e).2) hs.2.2 rfl).trans hs.2.2⟩)
    (fun pre A B hs hst => ⟨hSt pre A B hs.1 hst, hSk A B _ _ hst (by omega) hs.2.1 rfl, hSk A B _ _ hst (by omega) hs.2.2 rfl⟩) hVk
    (fun pre x W ⟨hi, hl, hd⟩ hlen => by
      have hlt : D + 1 < W.heap.size := (Array.getElem?_eq_some_iff.1 hl).1
      have hy := run_yield (P := P) (args := encs x) hl (by rw [hrec]; exact hps x)
      rw [hrec] at hy
      refine ⟨fn, _, assign, body, hy, roundIn_of_wpIn hfn (hassign _ x W _ ⟨_, run_beginRound hl (by rw [hrec]), ?_⟩)⟩
      obtain ⟨U, hU⟩ : ∃ U, W.putObj (D + 1) (.loop { rec .ready none with state := .busy }) = U := ⟨_, rfl⟩
      have hUl : U.heap[D + 1]? = some (.loop { rec .ready none with state := .busy }) := by rw [← hU]; exact World.putObj_heap_same hlt
      have hUd : U.heap[D]? = some (.deferred (some [])) := by rw [← hU]; exact (World.putObj_heap_other (by omega)).trans hd
      have hUk : Kp W U := by rw [← hU]; exact hKb _ _ _ _ (by omega) hl rfl rfl
      have hUI : I pre U := by rw [← hU]; exact hI.putObj _ hi (by omega) hl rfl
      show body.wpIn _ _ P _ _ (W.putObj (D + 1) (.loop { rec .ready none with state := .busy }))
      rw [hU]
      refine wpIn_mono (hbody _ pre x U hUI hlen) ?_
      rintro e a3 W3 hp
      cases e with
      | normal =>
        obtain ⟨hk3, hkp3, hi3⟩ := hp
        have hl3 := hk3.same _ _ (by omega) hUl rfl
        have hd3 := hk3.same _ _ (Nat.le_of_eq hD.symm) hUd rfl
        have hr := run_endRound (P := P) none hl3
        have hs3 := (Array.getElem?_eq_some_iff.1 hl3).1
        have hst : ({ ({ rec .ready none with state := .busy } : Loop) with state := .ready, pending := none } : Loop) = rec .ready none := by rw [hrec]
        refine ⟨_, _, hr, .inl ⟨rfl, ⟨hI.putObj _ hi3 (by omega) hl3 rfl, ?_, (World.putObj_heap_other (by omega)).trans hd3⟩, hKt (hKt hUk hkp3) (hKb _ _ _ _ (by omega) hl3 rfl rfl)⟩⟩
        rw [World.putObj_heap_same hs3]
        exact congrArg (fun z => some (Obj.loop z)) hst
      | ret =>
        obtain ⟨hk3, hi3⟩ := hp
        have hl3 := hk3.same _ _ (by omega) hUl rfl
        have hd3 := hk3.same _ _ (Nat.le_of_eq hD.symm) hUd rfl
        have hr := run_endRound (P := P) (some .ret) hl3
        have hs3 := (Array.getElem?_eq_some_iff.1 hl3).1
        have hst : ({ ({ rec .ready none with state := .busy } : Loop) with state := .done, pending := some .ret } : Loop) = rec .done (some .ret) := by rw [hrec]
        refine ⟨_, _, hr, .inr ⟨rfl, hIx.putObj _ hi3 (by omega) hl3 rfl, ?_, (World.putObj_heap_other (by omega)).trans hd3⟩⟩
        rw [World.putObj_heap_same hs3]
        exact congrArg (fun z => some (Obj.loop z)) hst
      | exit id => exact hp.elim
      | goto t => exact hp.elim
      | panic c => exact hp.elim
      | outgrown => exact hp.elim)
    ⟨hVI, hVl, hVd⟩
  refine ⟨D + 1, [{ target := .collected D, args := #[] }], V, { target := .fn (.func gf) lb, args := #[.func (.yield (D + 1)) #[] #[]] }, V, gf, #[.func (.yield (D + 1)) #[] #[]] ++ lb, V, ?_, ?_, ?_, ?_, fun _ => h1, ?_⟩
  · rw [← hV, hrec, hD]; exact run_enterLoop_outer _ _ _ _ _
  · simp only [resolve, hg]
    simp [go_sem]
  · intro f' hf'
    simp [Target.leads] at hf'
    subst hf'
    exact hFg
  · simp [invoke, go_sem, eg]
  · refine HC.mono ?_
    rintro e W2 ⟨⟨v, rfl⟩, (⟨xs, hS, hi, hl, hd⟩ | ⟨pre, hS, hi, hl, hd⟩)⟩
    · have hend := run_endLoop (P := P) hl (by rw [hrec]; simp)
      rw [hrec] at hend
      exact ⟨none, _, hend, hdone _ xs _ (Nat.le_of_eq hD.symm) hS (hI.putObj _ hi (by omega) hl rfl) ((World.putObj_heap_other (by omega)).trans hd)⟩
    · have hend := run_endLoop (P := P) hl (by rw [hrec]; simp)
      rw [hrec] at hend
      exact ⟨some .ret, _, hend, hstop _ pre _ (Nat.le_of_eq hD.symm) hS (hIx.putObj _ hi (by omega) hl rfl) ((World.putObj_heap_other (by omega)).trans hd)⟩
end
end Go.Ap
