import Derived.Test.YtcmckcmckbdmhaaW7
namespace Go.Proofs.Ytcmckcmckbdmhaa
open Go.RowKit Go.Ap Go.Shelf

theorem chkF_zero (xs : List Int) : ∀ f k, chkF xs f k = 0 → ∀ j, k ≤ j → j < k + f → 0 ≤ nth xs j ∧ nth xs j ≤ 63 ∧ (0 < j → nth xs (j - 1) < nth xs j)
  | 0, k, _, j, h1, h2 => by omega
  | f + 1, k, h, j, h1, h2 => by
    rw [chkF] at h
    split at h
    · omega
    · split at h
      · omega
      · by_cases hj : j = k
        · subst hj; omega
        · exact chkF_zero xs f (k + 1) h j (by omega) (by omega)
theorem chkF_zero' (xs : List Int) : ∀ f k, (∀ j, k ≤ j → j < k + f → 0 ≤ nth xs j ∧ nth xs j ≤ 63 ∧ (0 < j → nth xs (j - 1) < nth xs j)) → chkF xs f k = 0
  | 0, k, _ => rfl
  | f + 1, k, h => by
    have hk := h k (Nat.le_refl _) (by omega)
    rw [chkF, if_neg (by omega), if_neg (by omega)]
    exact chkF_zero' xs f (k + 1) (fun j h1 h2 => h j (by omega) (by omega))

theorem pairwise_of_next (xs : List Int) (h : ∀ j, 0 < j → j < xs.length → nth xs (j - 1) < nth xs j) : xs.Pairwise (· < ·) := by
  have key : ∀ d i, i + 1 + d < xs.length → nth xs i < nth xs (i + 1 + d) := by
    intro d
    induction d with
    | zero => intro i hi; have := h (i + 1) (by omega) hi; simpa using this
    | succ d ih =>
      intro i hi
      have h1 := ih i (by omega)
      have h2 := h (i + 1 + (d + 1)) (by omega) hi
      rw [show i + 1 + (d + 1) - 1 = i + 1 + d by omega] at h2
      omega
  rw [List.pairwise_iff_getElem]
  intro i j hi hj hij
  rw [← nth_eq hi, ← nth_eq hj]
  have := key (j - (i + 1)) i (by omega)
  rwa [show i + 1 + (j - (i + 1)) = j by omega] at this

theorem chk_iff (xs : List Int) : chk xs = 0 ↔ SetL xs := by
  constructor
  · intro h
    have H := chkF_zero xs xs.length 0 h
    refine ⟨pairwise_of_next xs (fun j h0 h1 => (H j (by omega) (by omega)).2.2 h0), fun x hx => ?_⟩
    obtain ⟨k, hk, rfl⟩ := List.getElem_of_mem hx
    have := H k (by omega) (by omega)
    rw [nth_eq hk] at this
    exact ⟨this.1, this.2.1⟩
  · intro ⟨h1, h2⟩
    refine chkF_zero' xs xs.length 0 (fun j _ hj => ?_)
    have hj' : j < xs.length := by omega
    have := h2 _ (nth_mem hj')
    refine ⟨this.1, this.2, fun h0 => ?_⟩
    have hp := List.pairwise_iff_getElem.1 h1 (j - 1) j (by omega) hj' (by omega)
    rwa [← nth_eq, ← nth_eq] at hp

def combP (f : Bool → Bool → Bool) (xs ys : List Int) (k : Int) : Bool := f (xs.contains k) (ys.contains k)
/-- what 'combine' gives -/
def comb (f : Bool → Bool → Bool) (xs ys : List Int) : List Int := memb (combP f xs ys) 64

/-- what a call leaves that hands back a list and an error number -/
def GivesE (w : World) (res : List Int) (err : Int) (e : Ending) (w' : World) : Prop :=
  ∃ a n c, e = .returned (.tuple #[.slice a n c, .int .i64 err]) ∧ Ints w' a n res ∧ Below w.heap.size w w'

set_option maxHeartbeats 400000 in
theorem combine48_no (a b : Option Addr) (n m c d : Nat) (xs ys : List Int) (gc : Nat) (w : World) (hx : Ints w a n xs) (hy : Ints w b m ys) (hn : ¬ (chk xs = 0 ∧ chk ys = 0)) :
    Calls Try.prog 48 #[.slice a n c, .slice b m d, .func (.func gc) #[] #[]] w (GivesE w [] 1) := by
  have hbl : Below w.heap.size w (w.alloc (.cells #[.func (.func gc) #[] #[]] 58)) := (Below.refl _ w).alloc (Nat.le_refl _) _
  have H1 := Lib.hid (check_any a n c xs _ (hx.mono (Nat.le_refl _) hbl))
  have H2 := Lib.hid (check_any b m d ys _ (hy.mono (Nat.le_refl _) hbl))
  go_enter Try.func48, Try.ntmps48
  go_wp2_with (fail)
  refine (H1.out).mono ?_
  rintro e w' ⟨rfl, rfl⟩
  by_cases h1 : chk xs = 0
  · have h2 : (chk ys == 0) = false := by simpa using fun h => hn ⟨h1, h⟩
    have h2' : (chk ys != 0) = true := by simpa using fun h => hn ⟨h1, h⟩
    have h1' : (chk xs != 0) = false := by simpa using h1
    clear hn h1
    go_wp2_with (fail)
    refine (H2.out).mono ?_
    rintro e w' ⟨rfl, rfl⟩
    go_wp2_with (fail)
    go_ret2
    exact ⟨none, 0, 0, rfl, Sl.nil _ _, hbl⟩
  · have h1' : (chk xs != 0) = true := by simpa using h1
    clear hn h1
    go_wp2_with (fail)
    go_ret2
    exact ⟨none, 0, 0, rfl, Sl.nil _ _, hbl⟩

theorem memb_i64 (p : Int → Bool) (n : Nat) (hn : n ≤ 1000) : ∀ x ∈ memb p n, I64 x := by
  intro x hx
  simp only [memb, List.mem_filter, List.mem_map, List.mem_range] at hx
  obtain ⟨⟨k, hk, rfl⟩, _⟩ := hx
  exact ⟨by omega, by omega⟩

set_option maxHeartbeats 1000000 in
theorem combine48_yes (a b : Option Addr) (n m c d : Nat) (xs ys : List Int) (gc : Nat) (f : Bool → Bool → Bool) (w : World) (hx : Ints w a n xs) (hy : Ints w b m ys) (h1 : chk xs = 0) (h2 : chk ys = 0)
    (Fc : Fn2 gc f) :
    Calls Try.prog 48 #[.slice a n c, .slice b m d, .func (.func gc) #[] #[]] w (GivesE w (comb f xs ys) 0) := by
  have hbl : Below w.heap.size w (w.alloc (.cells #[.func (.func gc) #[] #[]] 58)) := (Below.refl _ w).alloc (Nat.le_refl _) _
  have hxl := hx.mono (Nat.le_refl _) hbl
  have hyl := hy.mono (Nat.le_refl _) hbl
  have H1 := Lib.hid (check_any a n c xs _ hxl)
  have H2 := Lib.hid (check_any b m d ys _ hyl)
  have S1 := Lib.hid ((chk_iff xs).1 h1)
  have S2 := Lib.hid ((chk_iff ys).1 h2)
  have h1' : (chk xs != 0) = false := by simpa using h1
  have h2' : (chk ys != 0) = false := by simpa using h2
  clear h1 h2
  go_enter Try.func48, Try.ntmps48
  go_wp2_with (fail)
  refine (H1.out).mono ?_
  rintro e w' ⟨rfl, rfl⟩
  go_wp2_with (fail)
  refine (H2.out).mono ?_
  rintro e w' ⟨rfl, rfl⟩
  go_wp2_with (fail)
  refine (has44 a n c xs _ hxl S1.out).mono ?_
  rintro e w1 ⟨ca, rfl, F1, hb1⟩
  have hyl1 := hyl.mono (Nat.le_refl _) hb1
  have HF1 := Lib.hid F1
  clear F1
  go_wp2_with (fail)
  refine (has44 b m d ys _ hyl1 S2.out).mono ?_
  rintro e w2 ⟨cb, rfl, F2, hb2⟩
  have HF2 := Lib.hid F2
  clear F2
  go_wp2_with (fail)
  obtain ⟨W3, hW3⟩ : ∃ W3, (w2.alloc (Obj.cells #[Value.func (Fn.func 68) #[] ca] 46)).alloc (Obj.cells #[Value.func (Fn.func 68) #[] cb] 46) = W3 := ⟨_, rfl⟩
  rw [hW3]
  have s1 := hb1.size
  have s2 := hb2.size
  simp only [World.size_alloc] at s1
  have hb3 : Below w2.heap.size w2 W3 := by rw [← hW3]; exact ((Below.refl _ w2).alloc (Nat.le_refl _) _).alloc (by simp) _
  have c8 : W3.cell? ⟨w2.heap.size, 0, none⟩ = some (.func (.func 68) #[] ca) := by
    rw [← hW3, World.cell?_alloc_lt _ _ _ (by simp)]; simp
  have c9 : W3.cell? ⟨w2.heap.size + 1, 0, none⟩ = some (.func (.func 68) #[] cb) := by
    rw [← hW3, show w2.heap.size + 1 = (w2.alloc (Obj.cells #[Value.func (Fn.func 68) #[] ca] 46)).heap.size by simp]; simp
  have c5 : W3.cell? ⟨w.heap.size, 0, none⟩ = some (.func (.func gc) #[] #[]) := by
    rw [hb3.cell (p := ⟨w.heap.size, 0, none⟩) (show w.heap.size < w2.heap.size by omega), hb2.cell (p := ⟨w.heap.size, 0, none⟩) (show w.heap.size < w1.heap.size by omega), hb1.cell (p := ⟨w.heap.size, 0, none⟩) (by simp)]
    simp
  clear hW3
  have F3 : Fn1 Try.prog 72 #[.pointer (some ⟨w.heap.size, 0, none⟩), .pointer (some ⟨w2.heap.size, 0, none⟩), .pointer (some ⟨w2.heap.size + 1, 0, none⟩)] (combP f xs ys) W3 :=
    ⟨enters_of Try.func72 (by kernel_rfl) rfl, fun w' hw' k hk => comb72 k hk _ _ _ gc 68 68 ca cb f _ _ w' W3 hw'
      ((hw'.cell (p := ⟨w.heap.size, 0, none⟩) (World.block_lt_of_cell? _ _ c5)).trans c5) ((hw'.cell (p := ⟨w2.heap.size, 0, none⟩) (World.block_lt_of_cell? _ _ c8)).trans c8)
      ((hw'.cell (p := ⟨w2.heap.size + 1, 0, none⟩) (World.block_lt_of_cell? _ _ c9)).trans c9) Fc (HF1.out.later (hb2.trans (hb3.mono hb2.size))) (HF2.out.later hb3)⟩
  have HF3 := Lib.hid F3
  clear F3 c5 c8 c9
  refine (members46 _ _ _ _).mono ?_
  rintro e w' ⟨rfl, rfl⟩
  have hb4 : Below W3.heap.size W3 ((W3.alloc (.cells #[.int .i64 64] 3)).alloc (.cells #[.func (.func 72) #[] #[.pointer (some ⟨w.heap.size, 0, none⟩), .pointer (some ⟨w2.heap.size, 0, none⟩), .pointer (some ⟨w2.heap.size + 1, 0, none⟩)]] 46)) :=
    ((Below.refl _ W3).alloc (Nat.le_refl _) _).alloc (by simp) _
  have HS := Lib.hid (members_stops 64 72 _ (combP f xs ys) _ (by omega) (HF3.out.later hb4) W3.heap.size (W3.heap.size + 1) (by rw [World.cell?_alloc_lt _ _ _ (by simp)]; simp)
    (by rw [show W3.heap.size + 1 = (W3.alloc (.cells #[.int .i64 64] 3)).heap.size by simp]; simp))
  go_wp2_with (fail)
  refine (collect45 _ _ _ _ (Nat.le_trans (memb_len _ _) (by omega)) (memb_i64 _ _ (by omega)) (enters_of Try.func71 (by kernel_rfl) rfl) HS.out).mono ?_
  rintro e w5 ⟨a5, n5, c5, rfl, h5, hb5⟩
  go_wp2_with (fail)
  go_ret2
  refine ⟨a5, n5, c5, rfl, h5, ?_⟩
  have hb5' := hb4.trans (hb5.mono hb4.size)
  have hb3' := hb3.trans (hb5'.mono hb3.size)
  have hb2' := hb2.trans (hb3'.mono hb2.size)
  have hb1' := hb1.trans (hb2'.mono hb1.size)
  exact hbl.trans (hb1'.mono hbl.size)

/-- both are sets -/
def okB (xs ys : List Int) : Bool := chk xs == 0 && chk ys == 0
def combR (f : Bool → Bool → Bool) (xs ys : List Int) : List Int := if okB xs ys = true then comb f xs ys else []
def combE (xs ys : List Int) : Int := if okB xs ys = true then 0 else 1

theorem combine48 (a b : Option Addr) (n m c d : Nat) (xs ys : List Int) (gc : Nat) (f : Bool → Bool → Bool) (w : World) (hx : Ints w a n xs) (hy : Ints w b m ys) (Fc : Fn2 gc f) :
    Calls Try.prog 48 #[.slice a n c, .slice b m d, .func (.func gc) #[] #[]] w (GivesE w (combR f xs ys) (combE xs ys)) := by
  by_cases h : chk xs = 0 ∧ chk ys = 0
  · have hB : okB xs ys = true := by simpa [okB] using h
    rw [combR, combE, if_pos hB, if_pos hB]
    exact combine48_yes a b n m c d xs ys gc f w hx hy h.1 h.2 Fc
  · have hB : ¬ okB xs ys = true := by simpa [okB] using h
    rw [combR, combE, if_neg hB, if_neg hB]
    exact combine48_no a b n m c d xs ys gc w hx hy h

theorem union14 (a b : Option Addr) (n m c d : Nat) (xs ys : List Int) (w : World) (hx : Ints w a n xs) (hy : Ints w b m ys) :
    Calls Try.prog 14 #[.slice a n c, .slice b m d] w (GivesE w (combR (fun x y => x || y) xs ys) (combE xs ys)) := by
  have H := Lib.hid (combine48 a b n m c d xs ys 49 _ w hx hy or49)
  go_enter Try.func14, Try.ntmps14
  go_wp2_with (fail)
  refine (H.out).mono ?_
  rintro e w' ⟨a', n', c', rfl, h1, h2⟩
  go_wp2_with (fail)
  go_ret2
  exact ⟨a', n', c', rfl, h1, h2⟩

theorem inter15 (a b : Option Addr) (n m c d : Nat) (xs ys : List Int) (w : World) (hx : Ints w a n xs) (hy : Ints w b m ys) :
    Calls Try.prog 15 #[.slice a n c, .slice b m d] w (GivesE w (combR (fun x y => x && y) xs ys) (combE xs ys)) := by
  have H := Lib.hid (combine48 a b n m c d xs ys 50 _ w hx hy and50)
  go_enter Try.func15, Try.ntmps15
  go_wp2_with (fail)
  refine (H.out).mono ?_
  rintro e w' ⟨a', n', c', rfl, h1, h2⟩
  go_wp2_with (fail)
  go_ret2
  exact ⟨a', n', c', rfl, h1, h2⟩

theorem minus18 (a b : Option Addr) (n m c d : Nat) (xs ys : List Int) (w : World) (hx : Ints w a n xs) (hy : Ints w b m ys) :
    Calls Try.prog 18 #[.slice a n c, .slice b m d] w (GivesE w (combR (fun x y => x && !y) xs ys) (combE xs ys)) := by
  have H := Lib.hid (combine48 a b n m c d xs ys 51 _ w hx hy minus51)
  go_enter Try.func18, Try.ntmps18
  go_wp2_with (fail)
  refine (H.out).mono ?_
  rintro e w' ⟨a', n', c', rfl, h1, h2⟩
  go_wp2_with (fail)
  go_ret2
  exact ⟨a', n', c', rfl, h1, h2⟩

end Go.Proofs.Ytcmckcmckbdmhaa
