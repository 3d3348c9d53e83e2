import Derived.Test.YtcmckcmckbdmhaaW6
namespace Go.Proofs.Ytcmckcmckbdmhaa
open Go.RowKit Go.Ap Go.Shelf

/-- a function value of two bools that answers a bool -/
structure Fn2 (g : Nat) (f : Bool → Bool → Bool) : Prop where
  enters : ∀ args w, (callFunc g args).run Try.prog w = .ok (.enter g args) w
  calls : ∀ w x y, Calls Try.prog g #[.bool x, .bool y] w fun e w' => e = .returned (.bool (f x y)) ∧ w' = w

set_option maxHeartbeats 400000 in
theorem comb72 (k : Int) (hk : I64 k) (bc ba bb gc ga gb : Nat) (ca cb : Array Value) (f : Bool → Bool → Bool) (pa pb : Int → Bool) (w w0 : World) (h0 : Below w0.heap.size w0 w)
    (hc : w.cell? ⟨bc, 0, none⟩ = some (.func (.func gc) #[] #[])) (ha : w.cell? ⟨ba, 0, none⟩ = some (.func (.func ga) #[] ca)) (hb : w.cell? ⟨bb, 0, none⟩ = some (.func (.func gb) #[] cb))
    (Fc : Fn2 gc f) (Fa : Fn1 Try.prog ga ca pa w0) (Fb : Fn1 Try.prog gb cb pb w0) :
    Calls Try.prog 72 #[.int .i64 k, .pointer (some ⟨bc, 0, none⟩), .pointer (some ⟨ba, 0, none⟩), .pointer (some ⟨bb, 0, none⟩)] w fun e w' => e = .returned (.bool (f (pa k) (pb k))) ∧ ∃ q, w' = w.drewN q := by
  have ec := Fc.enters
  have ea := Fa.enters
  have eb := Fb.enters
  have HA := Lib.hid (fun n => Calls.quiet_of (Fa.calls (w.drewN n) (h0.trans ⟨rfl, rfl, rfl, Nat.le_refl _, fun _ _ => rfl⟩) k hk))
  have HB := Lib.hid (fun n => Calls.quiet_of (Fb.calls (w.drewN n) (h0.trans ⟨rfl, rfl, rfl, Nat.le_refl _, fun _ _ => rfl⟩) k hk))
  have HC := Lib.hid (fun n => Calls.quiet_of_same (Fc.calls (w.drewN n) (pa k) (pb k)))
  clear Fa Fb Fc
  go_enter Try.func72, Try.ntmps72
  go_wp2_with (fail)
  go_quiet (first | exact HA.out _ | exact HB.out _ | exact HC.out _)
  go_wp2_with (fail)
  go_ret
  exact ⟨rfl, _, rfl⟩

theorem or49 : Fn2 49 (fun x y => x || y) := ⟨enters_of Try.func49 (by kernel_rfl) rfl, fun w x y => by
  cases x <;> cases y <;> (
    go_enter Try.func49, Try.ntmps49
    go_wp2
    go_ret
    exact ⟨rfl, rfl⟩)⟩
theorem and50 : Fn2 50 (fun x y => x && y) := ⟨enters_of Try.func50 (by kernel_rfl) rfl, fun w x y => by
  cases x <;> cases y <;> (
    go_enter Try.func50, Try.ntmps50
    go_wp2
    go_ret
    exact ⟨rfl, rfl⟩)⟩
theorem minus51 : Fn2 51 (fun x y => x && !y) := ⟨enters_of Try.func51 (by kernel_rfl) rfl, fun w x y => by
  cases x <;> cases y <;> (
    go_enter Try.func51, Try.ntmps51
    go_wp2
    go_ret
    exact ⟨rfl, rfl⟩)⟩

theorem collect45 (gf : Nat) (lb : Array Value) (xs : List Int) (w : World) (hlen : xs.length ≤ 1000) (hx : ∀ x ∈ xs, I64 x)
    (eg : ∀ args w, (callFunc gf args).run Try.prog w = .ok (.enter gf args) w) (hseq : Seq1 gf lb xs w) :
    Calls Try.prog 45 #[.func (.func gf) #[] lb] w fun e W' => ∃ a n c, e = .returned (.slice a n c) ∧ Ints W' a n xs ∧ Below w.heap.size w W' := by
  have H := Lib.hid (callsIn_wide.1 (appendSeq70 gf lb xs w (by unfold maxLen; omega) (by omega) eg hseq))
  clear hseq eg
  go_enter Try.func45, Try.ntmps45
  go_wp2_with (fail)
  refine (H.out).mono ?_
  rintro e w' ⟨v, rfl, hrow, hB⟩
  obtain ⟨a, c, rfl, hI⟩ := ints_of_owns hrow hx (by omega)
  go_wp2_with (fail)
  go_ret
  exact ⟨a, _, c, rfl, hI, hB⟩

end Go.Proofs.Ytcmckcmckbdmhaa
