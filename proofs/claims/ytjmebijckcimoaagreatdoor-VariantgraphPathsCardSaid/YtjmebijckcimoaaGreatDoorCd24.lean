/-
  A column, and where it lies.
-/
import Derived.Test.YtjmebijckcimoaaGreatDoorEq
import Derived.Maps.AppendAt
namespace Go.Proofs.YtjmebijckcimoaaGreatDoor
open Go.RowKit Go.Ap Go.Shelf Go.Proofs

attribute [local go_sem] Oper.semAt_some bs_toList empty_toList bs_size bs_extract
theorem push_str_at {u : Str} {ops : Array Oper} {rest : List Oper} {o : Oper} {a : Act} {Q : Exit → Act → World → Prop} {w0 : World} (hgd : o.guard = none) (s x : Operand)
    (ho : o.op = .call { callee := .builtin .append, args := #[s, x], argTypes := #[22, 22] })
    (base : Nat) (v : Value) (us : List Str) (hs : a.eval s = v) (hown : OwnS w0 base v us) (hx : a.eval x = .slice (some ⟨w0.heap.size, 0, none⟩) 1 1) (hl : us.length ≤ 1000000) (hbase : base ≤ w0.heap.size)
    (h : ∀ v' w', OwnS w' base v' (us ++ [u]) → Below base w0 w' → (w0.alloc (.cells #[.string (bs u)] 9)).grownBy w' v.ownBlock → (v'.ownBlock = v.ownBlock ∨ v'.ownBlock = some (w0.heap.size + 1)) → wpList Tryz.prog ops Q rest (a.put o.dst v') w') :
    wpList Tryz.prog ops Q (o :: rest) a (w0.alloc (.cells #[.string (bs u)] 9)) := by
  obtain ⟨i0, hi0, hz0, hz1, hz2⟩ := info_parts infoStr24
  refine wpList_append_own_at _ hgd s x 22 ho base 9 i0 (.string { data := #[] }) 1 16 Tryz.underlying22 hi0 hz0 hz1 hz2 rfl (by decide) v us.length (us.map sv) hs (World.ownsRow.alloc hown _) ⟨w0.heap.size, 0, none⟩ 1 1 [.string (bs u)] hx rfl (cell_one_new _ _ _) (by simp [Value.oneCell']) (by unfold maxLen; omega) (by omega) (by simp; omega) ?_
  intro v' w' h1 h2 _ h5
  obtain ⟨h3, h4⟩ := OwnS.pushed hown hbase h1 h2
  exact h v' w' h3 h4 h2 (by rwa [World.size_alloc] at h5)
theorem contS24 (a : Option Addr) (n c : Nat) (xs : List Str) (x : Str) (w : World) (h : StrsL w a n xs) :
    Calls Tryz.prog 29 #[.slice a n c, .string (bs x)] w fun e w' => e = .returned (.bool (decide (x ∈ xs))) ∧ w = w' := by
  have hl := h.len
  have hs := h.small
  have key : ∀ zs : List Str, Lib.containsS (zs.map bs) (bs x) = decide (x ∈ zs) := fun zs => by
    rw [Bool.eq_iff_iff, Lib.containsS_iff, decide_eq_true_iff, List.mem_map]
    constructor
    · rintro ⟨y, hy, he⟩
      have : y = x := by first | exact bs_inj he | exact bs_inj.1 he
      exact this ▸ hy
    · exact fun hx => ⟨x, hx, rfl⟩
  rcases Nat.eq_zero_or_pos n with h0 | h0
  · subst h0
    have e1 : xs = [] := List.eq_nil_of_length_eq_zero hl
    subst e1
    exact (Tryz.slices_Contains_string_empty a c (bs x) w).mono fun e w' ⟨he, hw⟩ => ⟨by rw [he]; rfl, hw.symm⟩
  · obtain ⟨b, off, rfl, hc⟩ := h.at h0
    refine (Tryz.slices_Contains_string b off n c (xs.map bs) (bs x) w (by simp [hl]) (by omega) (fun j hj => ?_)).mono fun e w' ⟨he, hw⟩ => ⟨by rw [he, List.take_of_length_le (by simp [hl]), key], hw.symm⟩
    have hj' : j < xs.length := by simpa using hj
    have := hc j xs[j] (List.getElem?_eq_getElem hj')
    rw [this]
    simp [List.getD, hj']
theorem strs_take {w : World} {b n : Nat} {xs : List Str} (h : StrsL w (some ⟨b, 0, none⟩) n xs) {k : Nat} (hk : k ≤ n) : StrsL w (some ⟨b, 0, none⟩) k (xs.take k) := by
  refine ⟨by rw [List.length_take, h.len]; omega, by have := h.small; omega, fun j x hj => ?_⟩
  rw [List.getElem?_take] at hj
  split at hj
  · exact h.cells j x hj
  · cases hj
theorem strs_kept {w w' : World} {b n : Nat} {xs : List Str} {row : Option Nat} (h : StrsL w (some ⟨b, 0, none⟩) n xs) (hg : w.grownBy w' row) (hne : row ≠ some b) : StrsL w' (some ⟨b, 0, none⟩) n xs := by
  refine ⟨h.len, h.small, fun k x hk => ?_⟩
  obtain ⟨b', off, v, ha, hc, hR⟩ := h.cells k x hk
  refine ⟨b', off, v, ha, ?_, hR⟩
  simp only [Option.some.injEq, Addr.mk.injEq, and_true] at ha
  obtain ⟨rfl, rfl⟩ := ha
  have hb := hg.block b (World.block_lt_of_cell? w _ hc) (fun e => hne e.symm)
  unfold World.cell? at hc ⊢
  rw [hb]
  exact hc
set_option maxRecDepth 100000 in
set_option maxHeartbeats 4000000 in
theorem columnP2 (x : Coll) (a1 : Option Addr) (n1 c1 : Nat) (a2 : Option Addr) (n2 c2 : Nat) (a3 : Option Addr) (n3 c3 : Nat) (w : World) (h : CollM w a1 a2 a3 n1 n2 n3 x) (hv : Val x) (k : Nat) (hk : k < x.columns.length) :
    Calls Tryz.prog 55 #[collV x.sec a1 n1 c1 a2 n2 c2 a3 n3 c3, .int .i64 k] w fun e w' => ∃ b, e = .returned (.slice (some ⟨b, 0, none⟩) n1 n1) ∧ w.heap.size ≤ b ∧ StrsL w' (some ⟨b, 0, none⟩) n1 (colL x k) ∧ Below w.heap.size w w' := by
  obtain ⟨i0, hi0, hz0, hz1, hz2⟩ := info_parts infoStr24
  have hl1 := h.sigla.len
  have hl2 := h.tokens.len
  have hl3 := h.columns.len
  have hs1 := h.sigla.small
  have hs2 := h.tokens.small
  have hs3 := h.columns.small
  have h12 := hv.toks
  have hle := hv.le
  have HL := Lib.hid hl1
  have HCO := Lib.hid (fun W (hb : Below w.heap.size w W) => col_lies (h.mono (Nat.le_refl _) hb) hv k hk)
  obtain ⟨W4, hW4⟩ : ∃ W4, w.alloc (.cells #[.string (bs x.sec), .slice a1 n1 c1, .slice a2 n2 c2, .slice a3 n3 c3] 26) = W4 := ⟨_, rfl⟩
  have HB4 := Lib.hid (show Below w.heap.size w W4 by rw [← hW4]; exact balloc _ _)
  obtain ⟨q0, q1, q2, q3⟩ := BoxC.new w x.sec a1 n1 c1 a2 n2 c2 a3 n3 c3
  rw [hW4] at q0 q1 q2 q3
  have Q0 := Lib.hid q0
  have Q1 := Lib.hid q1
  have Q2 := Lib.hid q2
  have Q3 := Lib.hid q3
  obtain ⟨B, hB⟩ : ∃ B, w.heap.size + 1 = B := ⟨_, rfl⟩
  have hBA : W4.heap.size = B := by rw [← hW4, ← hB]; simp
  have hrep : ((List.replicate n1 ([] : Str)).map sv).toArray = Array.replicate n1 (.string { data := #[] }) := by simp [sv, bs]
  have hmk : ∀ w, (Instr.makeSlice 22 (.int .i64 n1) (.int .i64 n1)).run Tryz.prog w = .ok (.slice (some ⟨w.heap.size, 0, none⟩) n1 n1) (w.alloc (.cells (Array.replicate n1 (.string { data := #[] })) 9)) := fun w => by
    have h := run_make_row (P := Tryz.prog) 22 9 i0 (.string { data := #[] }) Tryz.underlying22 hi0 hz0 hz1 rfl .i64 .i64 n1 (by rw [hz2]; omega) (by omega) w
    rw [show madeCells #[Value.string { data := #[] }] n1 = ((List.replicate n1 ([] : Str)).map sv).toArray from made_all (enc := sv) (x := []) rfl n1, hrep] at h
    exact h
  have HAR0 := Lib.hid (show ArrG sv (W4.alloc (.cells (Array.replicate n1 (.string { data := #[] })) 9)) B 9 (colP x k 0) by
    rw [colP_zero, HL.out, ArrG, hrep]
    exact heap_fresh hBA.symm)
  have HBA := Lib.hid hBA
  have HBK0 := Lib.hid (show Below B W4 (W4.alloc (.cells (Array.replicate n1 (.string { data := #[] })) 9)) by rw [← hBA]; exact balloc _ _)
  have HW4 := Lib.hid hW4
  have HMK := Lib.hid hmk
  have HB := Lib.hid hB
  have hB0 : w.heap.size < B := by omega
  obtain ⟨b, o, bc, oc, cc, rfl, g0, hcl⟩ := col_lies (h.mono (Nat.le_refl _) HB4.out) hv k hk
  have HCL := Lib.hid hcl
  have G0 := Lib.hid g0
  have i1 : (k : Int) < (n3 : Int) := by omega
  clear h hv hk hW4 hBA hmk hcl hB HCO hrep
  have hmk := HMK.out
  unfold collV
  have g1 := cell_keep (balloc W4 (.cells (Array.replicate n1 (.string { data := #[] })) 9)) g0
  have q3' := cell_keep (balloc W4 (.cells (Array.replicate n1 (.string { data := #[] })) 9)) q3
  rw [← HW4.out] at g0 g1 q0 q1 q2 q3 q3'
  go_enter Tryz.func55, Tryz.ntmps55
  go_wp2_with (fail)
  rw [HW4.out, HB.out] 
  clear hmk q0 q1 q2 q3 g0 g1 q3'
  go_loopw [18] (fun iv wr => ∃ s : Nat, s ≤ n1 ∧ iv = .int .i64 s ∧ Below B W4 wr ∧ ArrG sv wr B 9 (colP x k s)) (fun iv _ => n1 - (intOf iv).toNat)
  case atStart => exact ⟨0, Nat.zero_le _, rfl, HBK0.out, HAR0.out⟩
  case round =>
    obtain ⟨ws, rfl⟩ : ∃ ws : World, ws = wr := ⟨_, rfl⟩
    obtain ⟨s, hsn, rfl, hb, har⟩ := hrel
    have HBS := Lib.hid hb
    have HAR := Lib.hid har
    have hb' : Below W4.heap.size W4 ws := by rw [HBA.out]; exact hb
    clear hb har
    by_cases hlt : s < n1
    · obtain ⟨y, c0, hor⟩ := HCL.out s (by omega)
      have d0 := cell_keep hb' c0
      have hs2' : (s : Int) < (n2 : Int) := by omega
      have hs1' : (s : Int) < (n1 : Int) := by omega
      rcases hor with ⟨rfl, hn⟩ | ⟨m, b5, o5, n5, c5, b6, o6, u, rfl, rfl, p1, p2, p3, p4, hn⟩
      · have HP := Lib.hid (colP_skip x k s hn)
        clear hn c0
        go_wp2_with (fail)
        go_roundw
        case rel => exact ⟨s + 1, by omega, by simp, HBS.out, by rw [← HP.out]; exact HAR.out⟩
        case measure => simp [intOf]; omega
      · have HP := Lib.hid (show (colP x k s).set s u = colP x k (s + 1) by rw [← colP_set, colW, hn]; rfl)
        have f1 := cell_keep hb' p1
        have f2 := cell_keep hb' p4
        have f3 := cell_keep hb' Q2.out
        have hm5 : (m : Int) < (n5 : Int) := by omega
        have hsl : s < (colP x k s).length := by rw [colP_len]; omega
        have hce := HAR.out.cell (List.getElem?_eq_getElem hsl)
        have hfr := HAR.out.free s
        clear hn c0 p1 p4
        go_wp2_with (fail)
        go_roundw
        case rel => exact ⟨s + 1, by omega, by simp, HBS.out.setCell (by simp) _, by rw [← HP.out]; exact HAR.out.set s u⟩
        case measure => simp [intOf]; omega
    · obtain rfl : s = n1 := by omega
      go_wp2_with (fail)
      go_ret
      refine ⟨B, rfl, by omega, ?_, HB4.out.trans (HBS.out.mono (by omega))⟩
      have := HAR.out
      rw [← HL.out, colP_all] at this
      exact this.sl (fun _ _ => rfl) (by rw [colL_len, HL.out]) hs1
set_option maxHeartbeats 2000000 in
theorem columnC2 (x : Coll) (a1 : Option Addr) (n1 c1 : Nat) (a2 : Option Addr) (n2 c2 : Nat) (a3 : Option Addr) (n3 c3 : Nat) (w : World) (h : CollM w a1 a2 a3 n1 n2 n3 x) (hc1 : n1 ≤ c1) (hev : EV w) (hok : collC x = 0) (k : Nat) (hk : k < x.columns.length) :
    Calls Tryz.prog 28 #[collV x.sec a1 n1 c1 a2 n2 c2 a3 n3 c3, .int .i64 k] w fun e w' => ∃ b, e = .returned (.tuple #[.slice (some ⟨b, 0, none⟩) n1 n1, .int .i64 0]) ∧ w.heap.size ≤ b ∧ StrsL w' (some ⟨b, 0, none⟩) n1 (colL x k) ∧ Below w.heap.size w w' := by
  have hl3 := h.columns.len
  have hv := val_of hok
  have HCK := Lib.hid (fun W (hb : Below w.heap.size w W) => collP x a1 n1 c1 a2 n2 c2 a3 n3 c3 W (h.mono (Nat.le_refl _) hb) hc1 (hev.mono (Nat.le_refl _) hb))
  have HCO := Lib.hid (fun W (hb : Below w.heap.size w W) => columnP2 x a1 n1 c1 a2 n2 c2 a3 n3 c3 W (h.mono (Nat.le_refl _) hb) hv k hk)
  rw [hok] at HCK
  have HB4 := Lib.hid (balloc w (.cells #[.string (bs x.sec), .slice a1 n1 c1, .slice a2 n2 c2, .slice a3 n3 c3] 26))
  have HBX := Lib.hid (BoxC.new w x.sec a1 n1 c1 a2 n2 c2 a3 n3 c3)
  have d0 : decide ((k : Int) < 0) = false := by simp
  have d1 : decide ((n3 : Int) ≤ (k : Int)) = false := by simp; omega
  have d1' : decide (n3 ≤ k) = false := by simp; omega
  clear h hc1 hev hok hv
  unfold collV at HCK HCO ⊢
  go_enter Tryz.func28, Tryz.ntmps28
  obtain ⟨q0, q1, q2, q3⟩ := HBX.out
  go_wp2_with (fail)
  refine (HCK.out _ HB4.out).mono ?_
  rintro e w1 ⟨rfl, hb1⟩
  clear q0 q1 q2 q3
  obtain ⟨q0, q1, q2, q3⟩ := HBX.out.below hb1
  have HB1 := Lib.hid (bstep HB4.out hb1)
  clear hb1
  go_wp2_with (fail)
  refine (HCO.out _ HB1.out).mono ?_
  rintro e w2 ⟨b, rfl, hbl, hs, hb2⟩
  have HBL := Lib.hid (show w.heap.size ≤ b by have := HB1.out.size; omega)
  have HS := Lib.hid hs
  clear hs hbl
  go_wp2_with (fail)
  go_ret2
  exact ⟨b, rfl, HBL.out, HS.out, bstep HB1.out hb2⟩
end Go.Proofs.YtjmebijckcimoaaGreatDoor
