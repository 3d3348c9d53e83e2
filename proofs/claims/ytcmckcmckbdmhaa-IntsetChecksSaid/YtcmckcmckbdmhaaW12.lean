import Derived.Test.YtcmckcmckbdmhaaW11
namespace Go.Proofs.Ytcmckcmckbdmhaa
open Go.RowKit Go.Ap Go.Shelf

theorem compl47 (k : Int) (hk : I64 k) (bi g : Nat) (cap : Array Value) (p : Int → Bool) (w w0 : World) (h0 : Below w0.heap.size w0 w)
    (hc : w.cell? ⟨bi, 0, none⟩ = some (.func (.func g) #[] cap)) (hF : Fn1 Try.prog g cap p w0) :
    Calls Try.prog 47 #[.int .i64 k, .pointer (some ⟨bi, 0, none⟩)] w fun e w' => e = .returned (.bool (!p k)) ∧ ∃ q, w' = w.drewN q := by
  have eg := hF.enters
  have H := Lib.hid (hF.calls w h0 k hk)
  clear hF
  go_enter Try.func47, Try.ntmps47
  go_wp2_with (fail)
  refine (H.out).mono ?_
  rintro e w' ⟨rfl, q, rfl⟩
  go_wp2_with (fail)
  go_ret
  exact ⟨rfl, _, rfl⟩

/-- what Complement gives -/
def complE (n : Int) (xs : List Int) : Int := if n < 0 ∨ 64 < n then 2 else if chk xs ≠ 0 then 1 else if 0 < xs.length ∧ n ≤ nth xs (xs.length - 1) then 2 else 0
def complP (xs : List Int) (k : Int) : Bool := !xs.contains k
def complR (n : Int) (xs : List Int) : List Int := if complE n xs = 0 then memb (complP xs) n.toNat else []

set_option maxHeartbeats 1000000 in
theorem compl13 (a : Option Addr) (n c : Nat) (m : Int) (xs : List Int) (w : World) (hm : I64 m) (hx : Ints w a n xs) :
    Calls Try.prog 13 #[.int .i64 m, .slice a n c] w (GivesE w (complR m xs) (complE m xs)) := by
  have hlen := hx.len
  have hsm := hx.small
  have H1 := Lib.hid (check_any a n c xs w hx)
  have HX := Lib.hid hx
  have HL := Lib.hid hlen
  clear hlen
  by_cases h1 : m < 0 ∨ 64 < m
  · have hE : complE m xs = 2 := by rw [complE, if_pos h1]
    have hR : complR m xs = [] := by rw [complR, hE]; rfl
    rw [hE, hR]
    clear hE hR hx
    by_cases h2 : m < 0
    · have d1 : decide (m < 0) = true := by simpa using h2
      go_enter Try.func13, Try.ntmps13
      go_wp2_with (fail)
      go_ret2
      exact ⟨none, 0, 0, rfl, Sl.nil _ _, Below.refl _ _⟩
    · have d1 : decide (m < 0) = false := by simpa using h2
      have d2 : decide (64 < m) = true := by simp; omega
      go_enter Try.func13, Try.ntmps13
      go_wp2_with (fail)
      go_ret2
      exact ⟨none, 0, 0, rfl, Sl.nil _ _, Below.refl _ _⟩
  have d1 : decide (m < 0) = false := by simp; omega
  have d2 : decide (64 < m) = false := by simp; omega
  by_cases h2 : chk xs = 0
  · have h2' : (chk xs != 0) = false := by simpa using h2
    by_cases h3 : 0 < xs.length ∧ m ≤ nth xs (xs.length - 1)
    · have hE : complE m xs = 2 := by rw [complE, if_neg h1, if_neg (by simpa using h2), if_pos h3]
      have hR : complR m xs = [] := by rw [complR, hE]; rfl
      rw [hE, hR]
      rw [HL.out] at h3
      have h30 := h3.1
      have d3 : decide (0 < n) = true := by simpa using h30
      have d4 : decide (m ≤ nth xs (n - 1)) = true := by simpa using h3.2
      obtain ⟨b, off, rfl, hc⟩ := Ints.at HX.out h30
      have hcell := hc (n - 1) (by omega)
      clear hE hR hx h1 h2 h3 hc
      go_enter Try.func13, Try.ntmps13
      go_wp2_with (fail)
      refine (H1.out).mono ?_
      rintro e w' ⟨rfl, rfl⟩
      go_wp2_with (fail)
      go_ret2
      exact ⟨none, 0, 0, rfl, Sl.nil _ _, Below.refl _ _⟩
    · have hE : complE m xs = 0 := by rw [complE, if_neg h1, if_neg (by simpa using h2), if_neg h3]
      have hR : complR m xs = memb (complP xs) m.toNat := by rw [complR, if_pos hE]
      rw [hE, hR]
      rw [HL.out] at h3
      have S1 := Lib.hid ((chk_iff xs).1 h2)
      obtain ⟨N, rfl⟩ : ∃ N : Nat, m = N := ⟨m.toNat, by omega⟩
      rw [Int.toNat_natCast]
      have HN := Lib.hid (show N ≤ 64 by omega)
      clear hE hR h2
      by_cases h30 : 0 < n
      · have d3 : decide (0 < n) = true := by simpa using h30
        have d4 : decide ((N : Int) ≤ nth xs (n - 1)) = false := by simp; omega
        obtain ⟨b, off, rfl, hc⟩ := Ints.at HX.out h30
        have hcell := hc (n - 1) (by omega)
        clear hx h1 h3 hc
        go_enter Try.func13, Try.ntmps13
        go_wp2_with (fail)
        refine (H1.out).mono ?_
        rintro e w' ⟨rfl, rfl⟩
        go_wp2_with (fail)
        refine (has44 _ n c xs _ HX.out S1.out).mono ?_
        rintro e w1 ⟨ca, rfl, F1, hb1⟩
        have HF1 := Lib.hid F1
        clear F1
        go_wp2_with (fail)
        obtain ⟨W3, hW3⟩ : ∃ W3, w1.alloc (Obj.cells #[Value.func (Fn.func 68) #[] ca] 46) = W3 := ⟨_, rfl⟩
        rw [hW3]
        have s1 := hb1.size
        have hb3 : Below w1.heap.size w1 W3 := by rw [← hW3]; exact (Below.refl _ w1).alloc (Nat.le_refl _) _
        have c8 : W3.cell? ⟨w1.heap.size, 0, none⟩ = some (.func (.func 68) #[] ca) := by rw [← hW3]; exact cell_fresh rfl rfl
        clear hW3
        have F3 : Fn1 Try.prog 47 #[.pointer (some ⟨w1.heap.size, 0, none⟩)] (complP xs) W3 :=
          ⟨enters_of Try.func47 (by kernel_rfl) rfl, fun w' hw' k hk => compl47 k hk _ 68 ca _ w' W3 hw' ((hw'.cell (p := ⟨w1.heap.size, 0, none⟩) (World.block_lt_of_cell? _ _ c8)).trans c8) (HF1.out.later hb3)⟩
        have HF3 := Lib.hid F3
        clear F3 c8
        refine (members46 _ _ _ _).mono ?_
        rintro e w' ⟨rfl, rfl⟩
        have hb4 : Below W3.heap.size W3 ((W3.alloc (.cells #[.int .i64 N] 3)).alloc (.cells #[.func (.func 47) #[] #[.pointer (some ⟨w1.heap.size, 0, none⟩)]] 46)) :=
          ((Below.refl _ W3).alloc (Nat.le_refl _) _).alloc (by simp) _
        have HS := Lib.hid (members_stops N 47 _ (complP xs) _ (by have := HN.out; omega) (HF3.out.later hb4) W3.heap.size (W3.heap.size + 1) (by rw [World.cell?_alloc_lt _ _ _ (by simp)]; exact cell_fresh rfl rfl)
          (cell_fresh (by simp) rfl))
        go_wp2_with (fail)
        refine (collect45 _ _ _ _ (Nat.le_trans (memb_len _ _) (by have := HN.out; omega)) (memb_i64 _ _ (by have := HN.out; omega)) (enters_of Try.func71 (by kernel_rfl) rfl) HS.out).mono ?_
        rintro e w5 ⟨a5, n5, c5, rfl, h5, hb5⟩
        go_wp2_with (fail)
        go_ret2
        exact ⟨a5, n5, c5, rfl, h5, bstep hb1 (bstep hb3 (bstep hb4 hb5))⟩
      · have d3 : decide (0 < n) = false := by simpa using h30
        clear hx h1 h3
        go_enter Try.func13, Try.ntmps13
        go_wp2_with (fail)
        refine (H1.out).mono ?_
        rintro e w' ⟨rfl, rfl⟩
        go_wp2_with (fail)
        refine (has44 _ n c xs _ HX.out S1.out).mono ?_
        rintro e w1 ⟨ca, rfl, F1, hb1⟩
        have HF1 := Lib.hid F1
        clear F1
        go_wp2_with (fail)
        obtain ⟨W3, hW3⟩ : ∃ W3, w1.alloc (Obj.cells #[Value.func (Fn.func 68) #[] ca] 46) = W3 := ⟨_, rfl⟩
        rw [hW3]
        have s1 := hb1.size
        have hb3 : Below w1.heap.size w1 W3 := by rw [← hW3]; exact (Below.refl _ w1).alloc (Nat.le_refl _) _
        have c8 : W3.cell? ⟨w1.heap.size, 0, none⟩ = some (.func (.func 68) #[] ca) := by rw [← hW3]; exact cell_fresh rfl rfl
        clear hW3
        have F3 : Fn1 Try.prog 47 #[.pointer (some ⟨w1.heap.size, 0, none⟩)] (complP xs) W3 :=
          ⟨enters_of Try.func47 (by kernel_rfl) rfl, fun w' hw' k hk => compl47 k hk _ 68 ca _ w' W3 hw' ((hw'.cell (p := ⟨w1.heap.size, 0, none⟩) (World.block_lt_of_cell? _ _ c8)).trans c8) (HF1.out.later hb3)⟩
        have HF3 := Lib.hid F3
        clear F3 c8
        refine (members46 _ _ _ _).mono ?_
        rintro e w' ⟨rfl, rfl⟩
        have hb4 : Below W3.heap.size W3 ((W3.alloc (.cells #[.int .i64 N] 3)).alloc (.cells #[.func (.func 47) #[] #[.pointer (some ⟨w1.heap.size, 0, none⟩)]] 46)) :=
          ((Below.refl _ W3).alloc (Nat.le_refl _) _).alloc (by simp) _
        have HS := Lib.hid (members_stops N 47 _ (complP xs) _ (by have := HN.out; omega) (HF3.out.later hb4) W3.heap.size (W3.heap.size + 1) (by rw [World.cell?_alloc_lt _ _ _ (by simp)]; exact cell_fresh rfl rfl)
          (cell_fresh (by simp) rfl))
        go_wp2_with (fail)
        refine (collect45 _ _ _ _ (Nat.le_trans (memb_len _ _) (by have := HN.out; omega)) (memb_i64 _ _ (by have := HN.out; omega)) (enters_of Try.func71 (by kernel_rfl) rfl) HS.out).mono ?_
        rintro e w5 ⟨a5, n5, c5, rfl, h5, hb5⟩
        go_wp2_with (fail)
        go_ret2
        exact ⟨a5, n5, c5, rfl, h5, bstep hb1 (bstep hb3 (bstep hb4 hb5))⟩
  · have h2' : (chk xs != 0) = true := by simpa using h2
    have hE : complE m xs = 1 := by rw [complE, if_neg h1, if_pos h2]
    have hR : complR m xs = [] := by rw [complR, hE]; rfl
    rw [hE, hR]
    clear hE hR hx h1 h2
    go_enter Try.func13, Try.ntmps13
    go_wp2_with (fail)
    refine (H1.out).mono ?_
    rintro e w' ⟨rfl, rfl⟩
    go_wp2_with (fail)
    go_ret2
    exact ⟨none, 0, 0, rfl, Sl.nil _ _, Below.refl _ _⟩

end Go.Proofs.Ytcmckcmckbdmhaa
