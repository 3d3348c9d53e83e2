/-
  Build (reference): no collation, no graph; the Text of a token.
-/
import Derived.Test.YtjmebijckcimoaaGreatDoorBd24
import Derived.Test.YtjmebijckcimoaaGreatDoorRnc
namespace Go.Proofs.YtjmebijckcimoaaGreatDoor
open Go.RowKit Go.Ap Go.Shelf Go.Proofs

attribute [local go_sem] Oper.semAt_some bs_toList empty_toList bs_size bs_extract
set_option maxRecDepth 100000 in
set_option maxHeartbeats 1000000 in
theorem buildRBad (x : Coll) (a1 : Option Addr) (n1 c1 : Nat) (a2 : Option Addr) (n2 c2 : Nat) (a3 : Option Addr) (n3 c3 : Nat) (w : World) (h : CollM w a1 a2 a3 n1 n2 n3 x) (hbad : collC x ≠ 0) :
 Calls Tryz.prog 14 #[collV x.sec a1 n1 c1 a2 n2 c2 a3 n3 c3] w fun e w' => e = .returned (.tuple #[graphV none 0 0 none 0 0, .int .i64 1]) ∧ Below w.heap.size w w' := by
 have HCK := Lib.hid (fun W (hb : Below w.heap.size w W) => collR x a1 n1 c1 a2 n2 c2 a3 n3 c3 W (h.mono (Nat.le_refl _) hb))
 obtain ⟨q, hq⟩ : ∃ q, collC x = q := ⟨_, rfl⟩
 rw [hq] at HCK hbad
 have d0 : (q != 0) = true := by simpa using hbad
 obtain ⟨W4, hW4⟩ : ∃ W4, (w.alloc (.cells #[.string (bs x.sec), .slice a1 n1 c1, .slice a2 n2 c2, .slice a3 n3 c3] 26)).alloc (.cells #[.slice none 0 0, .slice none 0 0] 31) = W4 := ⟨_, rfl⟩
 have bA := balloc w (.cells #[.string (bs x.sec), .slice a1 n1 c1, .slice a2 n2 c2, .slice a3 n3 c3] 26)
 have bB := balloc (w.alloc (.cells #[.string (bs x.sec), .slice a1 n1 c1, .slice a2 n2 c2, .slice a3 n3 c3] 26)) (.cells #[.slice none 0 0, .slice none 0 0] 31)
 have HB4 := Lib.hid (show Below w.heap.size w W4 by rw [← hW4]; exact bstep bA bB)
 have HBX := Lib.hid (show BoxC W4 w.heap.size x.sec a1 n1 c1 a2 n2 c2 a3 n3 c3 by rw [← hW4]; exact (BoxC.new w _ _ _ _ _ _ _ _ _ _).below bB)
 have HRS := Lib.hid (show BlkK W4 (w.heap.size + 1) #[.slice none 0 0, .slice none 0 0] 31 by
  rw [← hW4]
  have := BlkK.new (w.alloc (.cells #[.string (bs x.sec), .slice a1 n1 c1, .slice a2 n2 c2, .slice a3 n3 c3] 26)) #[.slice none 0 0, .slice none 0 0] 31
  rwa [World.size_alloc] at this)
 have HW4 := Lib.hid hW4
 clear h hq hbad bA bB hW4
 unfold collV at HCK ⊢
 go_enter Tryz.func14, Tryz.ntmps14
 obtain ⟨k0, k1, k2, k3⟩ := HBX.out
 rw [← HW4.out] at k0 k1 k2 k3
 go_wp2_with (fail)
 rw [HW4.out]
 refine (HCK.out _ HB4.out).mono ?_
 rintro e w1 ⟨rfl, hb1⟩
 have HB1 := Lib.hid (bstep HB4.out hb1)
 have HR1 := Lib.hid (HRS.out.below hb1)
 clear k0 k1 k2 k3 hb1
 have f0 := BlkK.hard (i := 0) HR1.out
 have g0 := HR1.out.cell (i := 0) rfl
 have f1 := BlkK.hard (i := 1) HR1.out
 have g1 := HR1.out.cell (i := 1) rfl
 go_wp2_with (fail)
 clear f0 f1 g0 g1
 obtain ⟨WS, hWS, hbs, hgs⟩ := store2 HR1.out (.slice none 0 0) (.slice none 0 0)
 rw [← hWS]
 have r0 := hbs.cell (i := 0) rfl
 have r1 := hbs.cell (i := 1) rfl
 refine bodyPost_ret (v := .tuple #[.agg #[.slice none 0 0, .slice none 0 0], .int .i64 1]) ?hres rfl ?_
 case hres => simp [results, Tryz.f14, go_sem, r0, r1]
 exact ⟨rfl, HB1.out.grown hgs HB1.out.size fun k hk => by cases hk; omega⟩
set_option maxHeartbeats 1000000 in
/-- text (reference): the Text of a token that lies in the collation -/
theorem text44 (sec : Str) (a1 : Option Addr) (n1 c1 : Nat) (b5 o5 n2 c2 : Nat) (a3 : Option Addr) (n3 c3 : Nat) (s m : Nat) (b6 o6 n5 c5 : Nat) (u : Str) (w : World) (hs : s < n2) (h1 : w.cell? ⟨b5, o5 + s, none⟩ = some (.slice (some ⟨b6, o6, none⟩) n5 c5)) (hm : m < n5) (h2 : w.cell? ⟨b6, o6 + m * 6, none⟩ = some (.string (bs u))) :
    Calls Tryz.prog 44 #[.agg #[.string (bs sec), .slice a1 n1 c1, .slice (some ⟨b5, o5, none⟩) n2 c2, .slice a3 n3 c3], .int .i64 s, .int .i64 m] w fun e w' => e = .returned (.string (bs u)) ∧ Below w.heap.size w w' := by
  have kb := balloc w (.cells #[.string (bs sec), .slice a1 n1 c1, .slice (some ⟨b5, o5, none⟩) n2 c2, .slice a3 n3 c3] 26)
  have HB := Lib.hid kb
  have k1 := cell_keep kb h1
  have k2 := cell_keep kb h2
  have i1 : (s : Int) < (n2 : Int) := by omega
  have i2 : (m : Int) < (n5 : Int) := by omega
  clear h1 h2 hs hm kb
  go_enter Tryz.func44, Tryz.ntmps44
  go_wp2_with (fail)
  go_ret
  exact ⟨rfl, HB.out⟩
end Go.Proofs.YtjmebijckcimoaaGreatDoor
