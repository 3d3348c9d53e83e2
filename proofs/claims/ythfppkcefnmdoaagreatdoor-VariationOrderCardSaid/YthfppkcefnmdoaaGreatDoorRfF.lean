/-
  A range over a function that yields memory of its own: the round is told what holds of what is yielded; the body goes on to the next round, always.
-/
import Derived.Test.YthfppkcefnmdoaaGreatDoorRu
import Derived.RangeFuncWrites
namespace Go.Ap
open Go Go.RowKit
section
variable {α : Type} {F : Fence} {n : Nat} {P : Program}
/-- what is asked of the function: Fa holds of each item in the world in which it is yielded -/
def SeqTells (F : Fence) (n : Nat) (P : Program) (g : Nat) (lb : Array Value) (encs : α → Array Value) (Kp : World → World → Prop) (Fa : α → World → Prop) (S : List α → Prop) (N : Nat) (w : World) : Prop :=
  ∀ (l : Nat) (J : List α → World → Prop) (W : World), Below w.heap.size w W → AbidesFrom W.heap.size J →
    (∀ pre x W1, J pre W1 → pre.length < N → Fa x W1 → YieldAt F (n - 1) P l (encs x) W1 fun e W' => e = .returned (.bool true) ∧ J (pre ++ [x]) W' ∧ Kp W1 W') →
    J [] W →
    CallsIn F n P g (#[.func (.yield l) #[] #[]] ++ lb) W fun e W' => (∃ v, e = .returned v) ∧ ∃ xs, S xs ∧ J xs W'
/-- the body's end: the next round -/
def goesOn (B : Nat) (Kp : World → World → Prop) (I : List α → World → Prop) (xs : List α) (W : World) : Exit → Act → World → Prop
  | .normal, _, W' => KeepsFrom B W W' ∧ Kp W W' ∧ I xs W'
  | .ret, _, _ => False
  | .exit _, _, _ => False
  | .goto _, _, _ => False
  | .panic _, _, _ => False
  | .outgrown, _, _ => False
theorem wpIn_rangeFunc_tells {g : Operand} {ps : Array Tmp} {assign body : Code} {Q : Exit → Act → World → Prop} {a : Act} {w : World}
    (hro : F.round = none) (h1 : 1 ≤ n) {gf : Nat} {lb : Array Value} (hg : a.eval g = .func (.func gf) #[] lb) (hFg : F.fn gf) (eg : ∀ args w, (callFunc gf args).run P w = .ok (.enter gf args) w)
    {encs : α → Array Value} {Kp : World → World → Prop} {Fa : α → World → Prop} {S : List α → Prop} {N : Nat} {w0 : World} (hseq : SeqTells F (n - 1) P gf lb encs Kp Fa S N w0)
    (hKt : ∀ {A B C : World}, Kp A B → Kp B C → Kp A C) (hKb : ∀ (W : World) (l : Nat) (o o' : Obj), w.heap.size ≤ l → W.heap[l]? = some o → o.isCells = false → o.isWalk = false → Kp W (W.putObj l o')) (hb0 : Below w0.heap.size w0 w) (hps : ∀ x, (encs x).size = ps.size)
    (hFa : ∀ x, OwnFrom w.heap.size (fun (_ : Unit) W => Fa x W))
    (I : List α → World → Prop) (hI : OwnFrom w.heap.size I) (h0 : I [] w) (a₁ : α → Act)
    (hassign : ∀ (l : Nat) (x : α) (W : World) (K : Act → World → Prop), K (a₁ x) W →
      assign.wpIn (F.inRound l) (n - 1 - 1) P (Exit.then K (fun _ _ _ => False)) { tmps := (ps.zip (encs x)).foldl (fun t (p, v) => t.setIfInBounds p v) a.tmps, defers := [] } W)
    (hbody : ∀ (l : Nat) (pre : List α) (x : α) (W : World), I pre W → pre.length < N → Fa x W → body.wpIn (F.inRound l) (n - 1 - 1) P (goesOn w.heap.size Kp I (pre ++ [x]) W) (a₁ x) W)
    (hdone : ∀ (D : Nat) (xs : List α) (W : World), w.heap.size ≤ D → S xs → I xs W → W.heap[D]? = some (.deferred (some [])) → Q .normal { a with defers := { target := .collected D, args := #[] } :: a.defers } W) :
    (Code.rangeFunc g ps assign body).wpIn F n P Q a w := by
  refine wpIn_rangeFunc fun fn hfn => ?_
  rw [hro]
  obtain ⟨D, hD⟩ : ∃ D, D = w.heap.size := ⟨_, rfl⟩
  obtain ⟨rec, hrec⟩ : ∃ rec : LoopState → Loop, rec = fun st => { state := st, pending := none, fn, tmps := a.tmps, params := ps, assign, body, defers := w.heap.size } := ⟨_, rfl⟩
  obtain ⟨V, hV⟩ : ∃ V, (w.alloc (.deferred (some []))).alloc (.loop (rec .ready)) = V := ⟨_, rfl⟩
  have hVl : V.heap[D + 1]? = some (.loop (rec .ready)) := by
    rw [← hV]
    have := World.alloc_heap_new (w.alloc (.deferred (some []))) (.loop (rec .ready))
    rw [World.size_alloc] at this
    rwa [hD]
  have hVd : V.heap[D]? = some (.deferred (some [])) := by
    rw [← hV, hD]
    exact (Below.heap_alloc _ _ _ (by simp)).trans (World.alloc_heap_new w _)
  have hVs : V.heap.size = D + 2 := by rw [← hV, World.size_alloc, World.size_alloc, hD]
  have hVI : I [] V := by rw [← hV]; exact hI.alloc _ (hI.alloc _ h0)
  have hVb : Below w0.heap.size w0 V := by
    rw [← hV]
    exact hb0.trans ((((Below.refl _ w).alloc (Nat.le_refl _) _).alloc (by simp) _).mono hb0.size)
  have cells : ∀ {A : World} {row : Option Nat}, (∀ r, row = some r → V.heap.size ≤ r ∧ ∃ o : Obj, A.heap[r]? = some o ∧ o.isWalk = true) → ∀ r, row = some r → w.heap.size ≤ r ∧ ∃ o : Obj, A.heap[r]? = some o ∧ o.isCells = false := fun hr r e => by
    obtain ⟨g1, o, g2, g3⟩ := hr r e
    exact ⟨by omega, o, g2, Obj.not_cells_of_walk g3⟩
  have HC := hseq (D + 1) (fun pre W => I pre W ∧ W.heap[D + 1]? = some (.loop (rec .ready)) ∧ W.heap[D]? = some (.deferred (some []))) V hVb
    (fun s A B row hs hgr hr => ⟨hI s A B row hs.1 hgr (cells hr), (grownBy_keeps hgr (fun r e => (hr r e).2) hs.2.1 rfl).trans hs.2.1, (grownBy_keeps hgr (fun r e => (hr r e).2) hs.2.2 rfl).trans hs.2.2⟩)
    (fun pre x W ⟨hi, hl, hd⟩ hlen hfa => by
      have hlt : D + 1 < W.heap.size := (Array.getElem?_eq_some_iff.1 hl).1
      have hy := run_yield (P := P) (args := encs x) hl (by rw [hrec]; exact hps x)
      rw [hrec] at hy
      refine ⟨fn, _, assign, body, hy, roundIn_of_wpIn hfn (hassign _ x W _ ⟨_, run_beginRound hl (by rw [hrec]), ?_⟩)⟩
      obtain ⟨U, hU⟩ : ∃ U, W.putObj (D + 1) (.loop { rec .ready with state := .busy }) = U := ⟨_, rfl⟩
      have hUl : U.heap[D + 1]? = some (.loop { rec .ready with state := .busy }) := by rw [← hU]; exact World.putObj_heap_same hlt
      have hUd : U.heap[D]? = some (.deferred (some [])) := by rw [← hU]; exact (World.putObj_heap_other (by omega)).trans hd
      have hUk : Kp W U := by rw [← hU]; exact hKb _ _ _ _ (by omega) hl rfl rfl
      have hUI : I pre U := by rw [← hU]; exact hI.putObj _ hi (by omega) hl rfl
      have hUf : Fa x U := by rw [← hU]; exact (hFa x).putObj (s := ()) _ hfa (by omega) hl rfl
      show body.wpIn _ _ P _ _ (W.putObj (D + 1) (.loop { rec .ready with state := .busy }))
      rw [hU]
      refine wpIn_mono (hbody _ pre x U hUI hlen hUf) ?_
      rintro e a3 W3 hp
      cases e with
      | normal =>
        obtain ⟨hk3, hkp3, hi3⟩ := hp
        have hl3 := hk3.same _ _ (by omega) hUl rfl
        have hd3 := hk3.same _ _ (Nat.le_of_eq hD.symm) hUd rfl
        have hr := run_endRound (P := P) none hl3
        have hs3 := (Array.getElem?_eq_some_iff.1 hl3).1
        have hst : ({ ({ rec .ready with state := .busy } : Loop) with state := .ready, pending := none } : Loop) = rec .ready := by rw [hrec]
        refine ⟨_, _, hr, rfl, ⟨hI.putObj _ hi3 (by omega) hl3 rfl, ?_, (World.putObj_heap_other (by omega)).trans hd3⟩, hKt (hKt hUk hkp3) (hKb _ _ _ _ (by omega) hl3 rfl rfl)⟩
        rw [World.putObj_heap_same hs3]
        exact congrArg (fun z => some (Obj.loop z)) hst
      | ret => exact hp.elim
      | exit id => exact hp.elim
      | goto t => exact hp.elim
      | panic c => exact hp.elim
      | outgrown => exact hp.elim)
    ⟨hVI, hVl, hVd⟩
  refine ⟨D + 1, [{ target := .collected D, args := #[] }], V, { target := .fn (.func gf) lb, args := #[.func (.yield (D + 1)) #[] #[]] }, V, gf, #[.func (.yield (D + 1)) #[] #[]] ++ lb, V, ?_, ?_, ?_, ?_, fun _ => h1, ?_⟩
  · rw [← hV, hrec, hD]; exact run_enterLoop_outer _ _ _ _ _
  · simp only [resolve, hg]
    simp [go_sem]
  · intro f' hf'
    simp [Target.leads] at hf'
    subst hf'
    exact hFg
  · simp [invoke, go_sem, eg]
  · refine HC.mono ?_
    rintro e W2 ⟨⟨v, rfl⟩, xs, hS, hi, hl, hd⟩
    have hend := run_endLoop (P := P) hl (by rw [hrec]; simp)
    rw [hrec] at hend
    exact ⟨none, _, hend, hdone _ xs _ (Nat.le_of_eq hD.symm) hS (hI.putObj _ hi (by omega) hl rfl) ((World.putObj_heap_other (by omega)).trans hd)⟩
end
end Go.Ap
