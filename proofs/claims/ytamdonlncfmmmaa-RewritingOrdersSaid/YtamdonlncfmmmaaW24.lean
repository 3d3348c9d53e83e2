/-
  awake: the examples of the chapter hold.
-/
import Derived.Test.YtamdonlncfmmmaaAwk
import Derived.Test.YtamdonlncfmmmaaW22
namespace Go.Proofs.Ytamdonlncfmmmaa
open Go.RowKit Go.Ap Go.Shelf Go.Proofs

attribute [local go_sem] Oper.semAt_some bs_toList empty_toList bs_size ext_drop ext_take bs_append

theorem max_if (x y : Int) : (if y > x then y else x) = max x y := by
  by_cases h : y > x
  · rw [if_pos h]; omega
  · rw [if_neg h]; omega
theorem run_max3 {P : Program} (w : World) (ts : Array TypeId) (t : TypeId) (k k' k'' : IntKind) (x y z : Int) :
    (Builtin.max_ ts t #[.int k x, .int k' y, .int k'' z]).run P w = .ok (.int k (max (max x y) z)) w := by
  simp [Builtin.max_, Builtin.max2, max_if]
theorem run_max4 {P : Program} (w : World) (ts : Array TypeId) (t : TypeId) (k k' k'' k3 : IntKind) (x y z u : Int) :
    (Builtin.max_ ts t #[.int k x, .int k' y, .int k'' z, .int k3 u]).run P w = .ok (.int k (max (max (max x y) z) u)) w := by
  simp [Builtin.max_, Builtin.max2, max_if]
attribute [local go_sem high] run_max3 run_max4

theorem Rls.two (W : World) (x y : Rule) (hx : x.1.length ≤ 64) (hx2 : x.2.length ≤ 64) (hy : y.1.length ≤ 64) (hy2 : y.2.length ≤ 64) :
    Rls (W.alloc (.cells #[.string (bs x.1), .string (bs x.2), .string (bs y.1), .string (bs y.2)] 46)) (some ⟨W.heap.size, 0, none⟩) 2 [x, y] := by
  have hb := World.alloc_heap_new W (.cells #[.string (bs x.1), .string (bs x.2), .string (bs y.1), .string (bs y.2)] 46)
  refine ⟨rfl, by omega, fun k z hz => ?_⟩
  match k, hz with
  | 0, hz =>
    simp only [List.getElem?_cons_zero, Option.some.injEq] at hz
    subst hz
    exact ⟨_, _, rfl, by simp only [World.cell?, hb]; rfl, by simp only [World.cell?, hb]; rfl, by omega, by omega⟩
  | 1, hz =>
    simp only [List.getElem?_cons_succ, List.getElem?_cons_zero, Option.some.injEq] at hz
    subst hz
    exact ⟨_, _, rfl, by simp only [World.cell?, hb]; rfl, by simp only [World.cell?, hb]; rfl, by omega, by omega⟩
  | k + 2, hz => simp at hz
theorem StrsLL.mono_all {w w' : World} {B : Nat} {a : Option Addr} {n : Nat} {xs : List (List Str)} (h : StrsLL w a n xs) (hB : w.heap.size ≤ B) (hb : Below B w w') : StrsLL w' a n xs :=
  Sl.mono h hB hb (fun _ _ hr => by obtain ⟨a', c', h3, h4⟩ := hr; exact ⟨a', c', h3, h4.mono hB hb⟩)
theorem OwnSS.strsLL {w : World} {base : Nat} {v : Value} {xss : List (List Str)} (h : OwnSS w base v xss) (hn : xss.length ≤ 4611686018427387903) (hx : ∀ xs ∈ xss, xs.length ≤ 4611686018427387903) :
    ∃ a c, v = .slice a xss.length c ∧ StrsLL w a xss.length xss := by
  obtain ⟨a, c, rfl⟩ := h.shape
  refine ⟨a, c, rfl, rfl, hn, fun k xs hk => ?_⟩
  obtain ⟨b, c', u, he, hc, ho⟩ := h.at hk
  injection he with he _ _
  subst he
  obtain ⟨a', c'', rfl, hs⟩ := ho.strs (hx xs (List.mem_of_getElem? hk))
  exact ⟨b, 0, _, rfl, by rw [Nat.zero_add]; exact hc, _, _, rfl, hs⟩
theorem StrsL.lit2 (W : World) (x y : Str) : StrsL (W.alloc (.cells #[.string (bs x), .string (bs y)] 9)) (some ⟨W.heap.size, 0, none⟩) 2 [x, y] := by
  have hb := World.alloc_heap_new W (.cells #[.string (bs x), .string (bs y)] 9)
  refine ⟨rfl, by omega, fun k z hz => ?_⟩
  match k, hz with
  | 0, hz =>
    simp only [List.getElem?_cons_zero, Option.some.injEq] at hz
    subst hz
    exact ⟨_, _, _, rfl, by simp only [World.cell?, hb]; rfl, rfl⟩
  | 1, hz =>
    simp only [List.getElem?_cons_succ, List.getElem?_cons_zero, Option.some.injEq] at hz
    subst hz
    exact ⟨_, _, _, rfl, by simp only [World.cell?, hb]; rfl, rfl⟩
  | k + 2, hz => simp at hz
theorem StrsL.lit3 (W : World) (x y u : Str) : StrsL (W.alloc (.cells #[.string (bs x), .string (bs y), .string (bs u)] 9)) (some ⟨W.heap.size, 0, none⟩) 3 [x, y, u] := by
  have hb := World.alloc_heap_new W (.cells #[.string (bs x), .string (bs y), .string (bs u)] 9)
  refine ⟨rfl, by omega, fun k z hz => ?_⟩
  match k, hz with
  | 0, hz =>
    simp only [List.getElem?_cons_zero, Option.some.injEq] at hz
    subst hz
    exact ⟨_, _, _, rfl, by simp only [World.cell?, hb]; rfl, rfl⟩
  | 1, hz =>
    simp only [List.getElem?_cons_succ, List.getElem?_cons_zero, Option.some.injEq] at hz
    subst hz
    exact ⟨_, _, _, rfl, by simp only [World.cell?, hb]; rfl, rfl⟩
  | 2, hz =>
    simp only [List.getElem?_cons_succ, List.getElem?_cons_zero, Option.some.injEq] at hz
    subst hz
    exact ⟨_, _, _, rfl, by simp only [World.cell?, hb]; rfl, rfl⟩
  | k + 3, hz => simp at hz
theorem StrsLL.lit (W : World) (x y u : Str) : StrsLL ((W.alloc (.cells #[.string (bs x), .string (bs y), .string (bs u)] 9)).alloc (.cells #[.slice (some ⟨W.heap.size, 0, none⟩) 3 3] 26)) (some ⟨W.heap.size + 1, 0, none⟩) 1 [[x, y, u]] := by
  have hb := World.alloc_heap_new (W.alloc (.cells #[.string (bs x), .string (bs y), .string (bs u)] 9)) (.cells #[.slice (some ⟨W.heap.size, 0, none⟩) 3 3] 26)
  rw [World.size_alloc] at hb
  refine ⟨rfl, by omega, fun k z hz => ?_⟩
  match k, hz with
  | 0, hz =>
    simp only [List.getElem?_cons_zero, Option.some.injEq] at hz
    subst hz
    refine ⟨_, _, _, rfl, by simp only [World.cell?, hb]; rfl, _, _, rfl, ?_⟩
    exact (StrsL.lit3 W x y u).mono (Nat.le_refl _) ((Below.refl _ _).alloc (Nat.le_refl _) _)
  | k + 1, hz => simp at hz
set_option maxRecDepth 100000 in
set_option maxHeartbeats 2000000 in
theorem awake13 (w : World) : Calls Try.prog 13 #[] w fun e w' => e = .returned (.bool true) ∧ Below w.heap.size w w' := by
  have H24 := Lib.hid (fun a n c w h => (by have := normalize24 a n c ruA [99, 97, 101, 108, 117, 109] w h (by decide); rw [aw_nf] at this; exact this :
    Calls Try.prog 24 #[.slice a n c, .string ⟨#[99, 97, 101, 108, 117, 109]⟩] w fun e w' => e = .returned (.tuple #[.string ⟨#[99, 101, 108, 117, 109]⟩, .int .i64 0]) ∧ Below w.heap.size w w'))
  have H18 := Lib.hid (fun a n c w h => aw_co ▸ confluent18 a n c ruB w h)
  have H16 := Lib.hid (fun a n c w h => aw_cr ▸ callsIn_wide.1 (critical16 a n c ruB w h))
  have H14 := Lib.hid (fun a n c w h => aw_all ▸ all14 a n c ruB [97, 98, 99] w h (by decide))
  go_enter Try.func13, Try.ntmps13
  go_wp2_with (fail)
  refine (H24.out _ _ _ _ (Rls.two w ([97, 101], [101]) ([111, 101], [101]) (by decide) (by decide) (by decide) (by decide))).mono ?_
  rintro e w1 ⟨rfl, hb⟩
  have HB := Lib.hid (((Below.refl _ w).alloc (Nat.le_refl _) _).trans (hb.mono (by simp)))
  clear hb
  go_wp2_with (fail)
  refine (H18.out _ _ _ _ (Rls.two w1 ([97, 98], [99]) ([98, 99], [97]) (by decide) (by decide) (by decide) (by decide))).mono ?_
  rintro e w2 ⟨rfl, hb⟩
  have HX := Lib.hid ((Rls.two w1 ([97, 98], [99]) ([98, 99], [97]) (by decide) (by decide) (by decide) (by decide)).mono (Nat.le_refl _) hb)
  have HB2 := Lib.hid (bstep HB.out (((Below.refl _ w1).alloc (Nat.le_refl _) _).trans (hb.mono (by simp))))
  clear hb HB
  go_wp2_with (fail)
  refine (H16.out _ _ _ _ HX.out).mono ?_
  rintro e w3 ⟨v, rfl, ho, hb⟩
  have HX3 := Lib.hid (HX.out.mono (Nat.le_refl _) hb)
  have HB3 := Lib.hid (bstep HB2.out hb)
  obtain ⟨av, cv, rfl, hv⟩ := OwnSS.strsLL ho (by simp) (by simp [tripS])
  have HV := Lib.hid hv
  clear hb HB2 HX ho hv
  go_wp2_with (fail)
  refine (H14.out _ _ _ _ HX3.out).mono ?_
  rintro e w4 ⟨v, rfl, ho, hb⟩
  have HV4 := Lib.hid (show StrsLL w4 av 1 [[[97, 98, 99], [99, 99], [97, 97]]] from StrsLL.mono_all HV.out (Nat.le_refl _) hb)
  have HB4 := Lib.hid (bstep HB3.out hb)
  obtain ⟨au, cu, rfl, hu⟩ := ho.strs (by simp)
  have HU := Lib.hid (show StrsL w4 au 2 [[97, 97], [99, 99]] from hu)
  clear hb HB3 HX3 ho hu HV
  go_wp2_with (fail)
  refine (samelists21 _ _ _ _ _ _ _ _ _ (StrsLL.mono_all HV4.out (Nat.le_refl _) (((Below.refl _ w4).alloc (Nat.le_refl _) _).alloc (by simp) _)) (StrsLL.lit w4 [97, 98, 99] [99, 99] [97, 97])).mono ?_
  rintro e w5 ⟨rfl, q, hq⟩
  have hb5 : Below w4.heap.size w4 w5 := by
    rw [hq]
    exact (((Below.refl _ w4).alloc (Nat.le_refl _) _).alloc (by simp) _).trans ((bdrewN _ q).mono (by simp; omega))
  have HU5 := Lib.hid (HU.out.mono (Nat.le_refl _) hb5)
  have HB5 := Lib.hid (bstep HB4.out hb5)
  clear hq hb5 HU HB4 HV4
  go_wp2_with (fail)
  refine (equal20 _ _ _ _ _ _ _ _ _ (HU5.out.mono (Nat.le_refl _) ((Below.refl _ w5).alloc (Nat.le_refl _) _)) (StrsL.lit2 w5 [97, 97] [99, 99])).mono ?_
  rintro e w6 ⟨rfl, q, hq⟩
  have hb6 : Below w5.heap.size w5 w6 := by
    rw [hq]
    exact ((Below.refl _ w5).alloc (Nat.le_refl _) _).trans ((bdrewN _ q).mono (by simp))
  have HB6 := Lib.hid (bstep HB5.out hb6)
  clear hq hb6
  go_wp2_with (fail)
  go_ret
  exact ⟨rfl, HB6.out⟩
end Go.Proofs.Ytamdonlncfmmmaa
