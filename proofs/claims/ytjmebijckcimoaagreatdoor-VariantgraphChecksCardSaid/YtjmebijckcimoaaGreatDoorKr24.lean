/-
 Contract (reference).
-/
import Derived.Test.YtjmebijckcimoaaGreatDoorKz24
import Derived.Test.YtjmebijckcimoaaGreatDoorCx24
import Derived.Test.YtjmebijckcimoaaGreatDoorEq
namespace Go.Proofs.YtjmebijckcimoaaGreatDoor
open Go.RowKit Go.Ap Go.Shelf Go.Proofs

attribute [local go_sem] Oper.semAt_some bs_toList empty_toList bs_size bs_extract
set_option maxRecDepth 100000 in
set_option maxHeartbeats 1000000 in
theorem contractRBad (ws : List Str) (al : List Vg.Arc) (a1 : Option Addr) (n1 c1 : Nat) (a2 : Option Addr) (n2 c2 : Nat) (w : World) (h : GraphM w a1 n1 a2 n2 ws al) (hn1 : n1 ≤ 4096) (hn2 : n2 ≤ 65536) (hbad : Vg.chkG ws al ≠ 0) :
 Calls Tryz.prog 33 #[graphV a1 n1 c1 a2 n2 c2] w fun e w' => e = .returned (.tuple #[graphV none 0 0 none 0 0, .int .i64 1]) ∧ Below w.heap.size w w' := by
 have HC := Lib.hid (fun W (hb : Below w.heap.size w W) => checkR30 ws al a1 n1 c1 a2 n2 c2 W (h.mono (Nat.le_refl _) hb) hn1 hn2)
 obtain ⟨W4, hW4⟩ : ∃ W4, (w.alloc (.cells #[.slice a1 n1 c1, .slice a2 n2 c2] 31)).alloc (.cells #[.slice none 0 0, .slice none 0 0] 31) = W4 := ⟨_, rfl⟩
 have HB4 := Lib.hid (show Below w.heap.size w W4 by rw [← hW4]; exact bstep (balloc w _) (balloc _ _))
 have HBX := Lib.hid (show BoxG W4 w.heap.size a1 n1 c1 a2 n2 c2 by rw [← hW4]; exact (BoxG.new w a1 n1 c1 a2 n2 c2).below (balloc _ _))
 have HRX := Lib.hid (show BlkK W4 (w.heap.size + 1) #[.slice none 0 0, .slice none 0 0] 31 by
  rw [← hW4]
  have := BlkK.new (w.alloc (.cells #[.slice a1 n1 c1, .slice a2 n2 c2] 31)) #[.slice none 0 0, .slice none 0 0] 31
  rwa [World.size_alloc] at this)
 obtain ⟨q, hq⟩ : ∃ q, Vg.chkG ws al = q := ⟨_, rfl⟩
 rw [hq] at HC hbad
 have d0 : (q != 0) = true := by simpa using hbad
 clear h hq hbad
 unfold graphV at HC ⊢
 go_enter Tryz.func33, Tryz.ntmps33
 obtain ⟨k0, k1⟩ := HBX.out
 go_wp2_with (fail)
 refine (HC.out _ HB4.out).mono ?_
 rintro e w1 ⟨rfl, hb1⟩
 have hr := HRX.out.below hb1
 have r0 := hr.cell (i := 0) (u := .slice none 0 0) rfl
 have r1 := hr.cell (i := 1) (u := .slice none 0 0) rfl
 have r2 := hr.hard (i := 0)
 have r3 := hr.hard (i := 1)
 have HR := Lib.hid hr
 clear hr
 go_wp2_with (fail)
 clear r0 r1 r2 r3
 obtain ⟨WS, hWS, hbs, hgs⟩ := store2 HR.out (.slice none 0 0) (.slice none 0 0)
 rw [← hWS]
 have r0 := hbs.cell (i := 0) (u := .slice none 0 0) rfl
 have r1 := hbs.cell (i := 1) (u := .slice none 0 0) rfl
 refine bodyPost_ret (v := .tuple #[.agg #[.slice none 0 0, .slice none 0 0], .int .i64 1]) ?hres rfl ?_
 case hres => simp [results, Tryz.f33, go_sem, r0, r1]
 have hb1' := bstep HB4.out hb1
 exact ⟨rfl, hb1'.trans (below_of_grown hgs hb1'.size (fun k hk => by cases hk; omega))⟩
/-- the two rows of the walk: the node behind, whether a list begins -/
structure NxS (W : World) (S n : Nat) (F : Int → Int) (B : Int → Bool) : Prop where
 nx : Arr W S 3 (rngL n fun x => F x)
 be : BlkK W (S + 1) (boolN n fun x => B x).toArray 4
section
variable {W W' : World} {S n : Nat} {F : Int → Int} {B : Int → Bool}
theorem NxS.below (h : NxS W S n F B) (hb : Below W.heap.size W W') : NxS W' S n F B := ⟨h.nx.kept hb, h.be.below hb⟩
theorem NxS.f (h : NxS W S n F B) {k : Nat} (hk : k < n) : W.cell? ⟨S, k, none⟩ = some (.int .i64 (F k)) := by
 have := h.nx.cell (k := k) (by rw [rngL_len]; exact hk)
 rw [this]
 congr 2
 have h2 := rngL_get (fun x : Nat => F x) hk
 unfold nth
 rw [List.getD_eq_getElem?_getD, h2]
 rfl
theorem NxS.b (h : NxS W S n F B) {k : Nat} (hk : k < n) : W.cell? ⟨S + 1, k, none⟩ = some (.bool (B k)) := h.be.cell (i := k) (by rw [List.getElem?_toArray, boolN_at _ hk])
theorem NxS.setF (h : NxS W S n F B) (k : Nat) (z : Int) : NxS (W.setCell ⟨S, k, none⟩ (.int .i64 z)) S n (fun x => if x = (k : Int) then z else F x) B :=
 ⟨by
  have := h.nx.set k z
  rw [rngL_set] at this
  rw [show (rngL n fun x : Nat => if ((x : Nat) : Int) = (k : Int) then z else F x) = rngL n fun j => if j = k then z else F j from rngL_ext fun j _ => by
   by_cases e : j = k
   · rw [if_pos e, if_pos (by omega)]
   · rw [if_neg e, if_neg (by omega)]]
  exact this, BlkK.oth h.be (by omega)⟩
theorem NxS.setB (h : NxS W S n F B) (k : Nat) (z : Bool) : NxS (W.setCell ⟨S + 1, k, none⟩ (.bool z)) S n F (fun x => if x = (k : Int) then z else B x) :=
 ⟨Arr.other24 h.nx (by omega), by
  have := h.be.put (i := k) (v := .bool z)
  rw [List.setIfInBounds_toArray, boolN_set] at this
  rw [show (boolN n fun x : Nat => if ((x : Nat) : Int) = (k : Int) then z else B x) = boolN n fun j => if j = k then z else B j from boolN_ext fun j _ => by
   by_cases e : j = k
   · rw [if_pos e, if_pos (by omega)]
   · rw [if_neg e, if_neg (by omega)]]
  exact this⟩
theorem NxS.ext (h : NxS W S n F B) {F' : Int → Int} {B' : Int → Bool} (h1 : ∀ k : Nat, k < n → F k = F' k) (h2 : ∀ k : Nat, k < n → B k = B' k) : NxS W S n F' B' :=
 ⟨by rw [← rngL_ext (F := fun x : Nat => F x) (G := fun x : Nat => F' x) h1]; exact h.nx, by rw [← boolN_ext (f := fun x : Nat => B x) (g := fun x : Nat => B' x) h2]; exact h.be⟩
end
theorem rngL_zero (n : Nat) : (rngL n fun _ => (0 : Int)) = arrN n fun _ => 0 := rfl
theorem NxS.new (W : World) (n : Nat) : NxS ((W.alloc (.cells (Array.replicate n (.int .i64 0)) 3)).alloc (.cells (boolN n fun _ => false).toArray 4)) W.heap.size n (fun _ => 0) (fun _ => false) where
 nx := (Arr.zero rfl : Arr (W.alloc (.cells (Array.replicate n (.int .i64 0)) 3)) W.heap.size 3 (arrN n fun _ => 0)).kept (balloc _ _)
 be := by
  have := BlkK.new (W.alloc (.cells (Array.replicate n (.int .i64 0)) 3)) (boolN n fun _ => false).toArray 4
  rwa [World.size_alloc] at this
theorem set_grown (W : World) (b i : Nat) (v : Value) : W.grownBy (W.setCell ⟨b, i, none⟩ v) (some b) := ⟨rfl, rfl, rfl, by simp [World.setCell], fun k _ hk => Below.heap_setCell _ _ _ k fun e => hk (by rw [e])⟩
/-- the numbers, the graph under way and its words -/
structure K3 (W : World) (e : Int) (al : List Vg.Arc) (ws : List Str) (bo n x d m : Nat) (v : Value) : Prop where
 nm : Arr W (bo + 1) 3 (rngL n fun k : Nat => nmF e al (x : Int) d (k : Int))
 box : BlkK W bo #[v, .slice none 0 0] 31
 row : OwnS W (bo + 2) v (wordsK e al ws n m)
section
variable {W W' : World} {e : Int} {al : List Vg.Arc} {ws : List Str} {bo n x d m : Nat} {v : Value}
theorem K3.below (h : K3 W e al ws bo n x d m v) (hb : Below W.heap.size W W') : K3 W' e al ws bo n x d m v := ⟨h.nm.kept hb, h.box.below hb, h.row.below hb⟩
theorem K3.at (h : K3 W e al ws bo n x d m v) {k : Nat} (hk : k < n) : W.cell? ⟨bo + 1, k, none⟩ = some (.int .i64 (nmF e al (x : Int) d (k : Int))) := by
 have := h.nm.cell (k := k) (by rw [rngL_len]; exact hk)
 rw [this]
 congr 2
 have h2 := rngL_get (fun y : Nat => nmF e al (x : Int) d (y : Int)) hk
 unfold nth
 rw [List.getD_eq_getElem?_getD, h2]
 rfl
theorem K3.num (h : K3 W e al ws bo n x d m v) (k : Nat) (z : Int) {d' : Nat} (he : ∀ j : Nat, (if (j : Int) = (k : Int) then z else nmF e al (x : Int) d (j : Int)) = nmF e al (x : Int) d' (j : Int)) : K3 (W.setCell ⟨bo + 1, k, none⟩ (.int .i64 z)) e al ws bo n x d' m v :=
 ⟨by
  have := h.nm.set k z
  rw [rngL_set] at this
  rw [show (rngL n fun j : Nat => nmF e al (x : Int) d' (j : Int)) = rngL n fun j => if j = k then z else nmF e al (x : Int) d (j : Int) from rngL_ext fun j _ => by
   rw [← he j]
   by_cases e : j = k
   · rw [if_pos e, if_pos (by omega)]
   · rw [if_neg e, if_neg (by omega)]]
  exact this, BlkK.oth h.box (by omega), own_off h.row (set_grown W (bo + 1) k (.int .i64 z)) (by omega)⟩
theorem K3.next (h : K3 W e al ws bo n x d m v) {x' d' m' : Nat} (h1 : ∀ k : Int, nmF e al (x : Int) d k = nmF e al (x' : Int) d' k) (h2 : wordsK e al ws n m' = wordsK e al ws n m) : K3 W e al ws bo n x' d' m' v :=
 ⟨by rw [← rngL_ext (F := fun k : Nat => nmF e al (x : Int) d (k : Int)) (G := fun k : Nat => nmF e al (x' : Int) d' (k : Int)) fun k _ => h1 k]; exact h.nm, h.box, by rw [h2]; exact h.row⟩
theorem K3.push {w0 w' : World} {v' : Value} {u : Str} {x' d' m' : Nat} (h : K3 w0 e al ws bo n x d m v) (hv : OwnS w' (bo + 2) v' (wordsK e al ws n m ++ [u])) (hb : Below (bo + 2) w0 w') (h1 : ∀ k : Int, nmF e al (x : Int) d k = nmF e al (x' : Int) d' k) (h2 : wordsK e al ws n m' = wordsK e al ws n m ++ [u]) :
 BlkK w' bo #[v, .slice none 0 0] 31 ∧ K3 (w'.setCell ⟨bo, 0, none⟩ v') e al ws bo n x' d' m' v' := by
 have hB := h.box.far hb (by omega)
 refine ⟨hB, ?_, hB.put (i := 0) (v := v'), ?_⟩
 · rw [← rngL_ext (F := fun k : Nat => nmF e al (x : Int) d (k : Int)) (G := fun k : Nat => nmF e al (x' : Int) d' (k : Int)) fun k _ => h1 k]
   exact Arr.other24 ((hb.block (bo + 1) (by omega)).trans h.nm) (by omega)
 · rw [h2]
   exact own_off hv (set_grown w' bo 0 v') (by omega)
theorem K3.new (W : World) (e : Int) (al : List Vg.Arc) (V : Vg.ValidG e al) (ws : List Str) (n : Nat) : K3 ((W.alloc (.cells #[.slice none 0 0, .slice none 0 0] 31)).alloc (.cells (Array.replicate n (.int .i64 0)) 3)) e al ws W.heap.size n 0 0 0 (.slice none 0 0) where
 nm := by
  have := (Arr.zero (by simp) : Arr ((W.alloc (.cells #[.slice none 0 0, .slice none 0 0] 31)).alloc (.cells (Array.replicate n (.int .i64 0)) 3)) (W.heap.size + 1) 3 (arrN n fun _ => 0))
  rw [← rngL_zero] at this
  rw [rngL_ext (F := fun k : Nat => nmF e al ((0 : Nat) : Int) 0 (k : Int)) (G := fun _ : Nat => (0 : Int)) fun k _ => nm_zero V (by omega)]
  exact this
 box := (BlkK.new W _ _).below (balloc _ _)
 row := OwnS.nil _ _
theorem wd_len (V : Vg.ValidG e al) {m : Nat} {W : Int → Str} (hlim : ∀ (k : Nat) (x : Int), (Vg.accW [32] e al W k x).length ≤ m) {y : Nat} : (Vg.wd [32] e al W (y : Int)).length ≤ m := by
 have hx := (V.fst_le _ (y : Int) rfl).2.1
 have hl := hlim (y + 1) (Vg.fst e al (y : Int))
 rw [V.accW_eq [32] hx] at hl
 unfold Vg.lastB at hl
 by_cases hp : Vg.pre e al (y : Int) = none
 · have hf := V.fst_self.2 hp
   have h0 := hlim 0 (Vg.fst e al (y : Int))
   rw [V.accW_eq [32] hx] at h0
   unfold Vg.lastB at h0
   rwa [hf] at h0
 · rwa [if_pos ⟨rfl, hp⟩] at hl
end
/-- the numbers, the graph under way, its words and its arcs -/
structure A6 (w1 W : World) (num : Int → Int) (bo n B : Nat) (v : Value) (us : List Str) (v2 : Value) (l : List Vg.Arc) : Prop where
 nm : Arr W (bo + 1) 3 (rngL n fun k : Nat => num (k : Int))
 box : BlkK W bo #[v, v2] 31
 row : OwnS W (bo + 2) v us
 arcs : OwnAs 48 w1 W B v2 l
section
variable {w1 W W' : World} {num : Int → Int} {bo n B : Nat} {v v2 : Value} {us : List Str} {l : List Vg.Arc}
theorem A6.below (h : A6 w1 W num bo n B v us v2 l) (hb : Below W.heap.size W W') : A6 w1 W' num bo n B v us v2 l := ⟨h.nm.kept hb, h.box.below hb, h.row.below hb, h.arcs.below hb⟩
theorem A6.at (h : A6 w1 W num bo n B v us v2 l) {k : Nat} (hk : k < n) : W.cell? ⟨bo + 1, k, none⟩ = some (.int .i64 (num (k : Int))) := by
 have := h.nm.cell (k := k) (by rw [rngL_len]; exact hk)
 rw [this]
 congr 2
 have h2 := rngL_get (fun y : Nat => num (y : Int)) hk
 unfold nth
 rw [List.getD_eq_getElem?_getD, h2]
 rfl
theorem A6.push (h : A6 w1 W num bo n B v us v2 l) (hv : ∀ k, v.ownBlock = some k → k < B) (hB : bo + 2 ≤ B) (hsz : B ≤ W.heap.size) {f t : Int} {src : List Int} {a : Option Addr} {c : Nat} (hs : ArcS w1 a ((f, t), src)) {tmp : Obj} :
 ∃ xs : List Value, (W.ownsRow B 48 3 v2 l.length xs) ∧ ∀ (v' : Value) (w9 : World), w9.ownsRow B 48 3 v' (l.length + 1) (xs ++ [.int .i64 f, .int .i64 t, .slice a src.length c]) → (W.alloc tmp).grownBy w9 v2.ownBlock →
  BlkK w9 bo #[v, v2] 31 ∧ A6 w1 (w9.setCell ⟨bo, 1, none⟩ v') num bo n B v us v' (l ++ [((f, t), src)]) ∧ Below B W w9 := by
 obtain ⟨xs, hx, hnext⟩ := h.arcs.ready
 refine ⟨xs, hx, fun v' w9 ho hg => ?_⟩
 have hA := h.below (balloc W tmp)
 have h2 : ∀ k, v2.ownBlock = some k → B ≤ k := fun k hk => (World.ownsRow.lt hx k hk).1
 have hn : ∀ b, b < B → some b ≠ v2.ownBlock := fun b hb e => by have := h2 b e.symm; omega
 have hbx : BlkK w9 bo #[v, v2] 31 := (hg.block bo hA.box.lt (hn bo (by omega))).trans hA.box
 have hrow : OwnS w9 (bo + 2) v us := by
  refine World.ownsRow.kept hA.row hg ?_
  cases hv' : v.ownBlock with
  | none => exact .inl rfl
  | some k => exact .inr (hn k (hv k hv'))
 have harc : OwnAs 48 w1 w9 B v' (l ++ [((f, t), src)]) := hnext w9 v' [(((f, t), src), .slice a src.length c)] (l.length + 1) ho rfl (fun p hp => by
  rw [List.mem_singleton] at hp
  rw [hp]
  exact ⟨a, c, rfl, hs⟩)
 have h9 : ∀ k, v'.ownBlock = some k → B ≤ k := fun k hk => (World.ownsRow.lt ho k hk).1
 refine ⟨hbx, ⟨Arr.other24 ((hg.block (bo + 1) hA.nm.lt (hn (bo + 1) (by omega))).trans hA.nm) (by omega), hbx.put (i := 1) (v := v'), own_off hrow (set_grown w9 bo 1 v') (by omega), ?_⟩, ?_⟩
 · refine OwnAs.kept harc (set_grown w9 bo 1 v') ?_
   cases hv' : v'.ownBlock with
   | none => exact .inl rfl
   | some k => exact .inr (fun e => absurd (h9 k hv') (by cases e; omega))
 · exact ((Below.refl B W).alloc hsz tmp).grown hg (by simp; omega) fun k hk => h2 k hk
end
set_option maxRecDepth 100000 in
set_option maxHeartbeats 8000000 in
theorem contractROk (ws : List Str) (al : List Vg.Arc) (a1 : Option Addr) (n1 c1 : Nat) (a2 : Option Addr) (n2 c2 : Nat) (w : World) (h : GraphM w a1 n1 a2 n2 ws al) (hn1 : n1 ≤ 4096) (hn2 : n2 ≤ 4096) (hok : Vg.chkG ws al = 0)
 (hlim : ∀ (k : Nat) (x : Int), (Vg.accW [32] ((ws.length : Int) - 1) al (fun k => ws.getD k.toNat []) k x).length ≤ 65536) :
 Calls Tryz.prog 33 #[graphV a1 n1 c1 a2 n2 c2] w fun e w' => ∃ a3 m3 c3 a4 m4 c4 al', e = .returned (.tuple #[graphV a3 m3 c3 a4 m4 c4, .int .i64 0]) ∧ GraphM w' a3 m3 a4 m4 (Vg.contrW [32] ((ws.length : Int) - 1) al (fun k => ws.getD k.toNat []) ws.length) al' ∧ Vg.Contr ((ws.length : Int) - 1) al al' ∧ Below w.heap.size w w' := by
 obtain ⟨i0, hi0, hz0, hz1, hz2⟩ := info_parts infoArc
 obtain ⟨g2, g3, g4, g5, V, g6⟩ := Vg.chkG_zero.1 hok
 have hl1 := h.words.len
 have hl2 := h.arcs.len
 have HL1 := Lib.hid hl1
 have HL2 := Lib.hid hl2
 have HC := Lib.hid (fun W (hb : Below w.heap.size w W) => checkR30 ws al a1 n1 c1 a2 n2 c2 W (h.mono (Nat.le_refl _) hb) hn1 (by omega))
 rw [hok] at HC
 have HLIM := Lib.hid hlim
 rw [hl1] at V HLIM g2
 have HVG := Lib.hid V
 obtain ⟨W4, hW4⟩ : ∃ W4, (w.alloc (.cells #[.slice a1 n1 c1, .slice a2 n2 c2] 31)).alloc (.cells #[.slice none 0 0, .slice none 0 0] 31) = W4 := ⟨_, rfl⟩
 have HB4 := Lib.hid (show Below w.heap.size w W4 by rw [← hW4]; exact bstep (balloc w _) (balloc _ _))
 have HBX := Lib.hid (show BoxG W4 w.heap.size a1 n1 c1 a2 n2 c2 by rw [← hW4]; exact (BoxG.new w a1 n1 c1 a2 n2 c2).below (balloc _ _))
 have HRX := Lib.hid (show BlkK W4 (w.heap.size + 1) #[.slice none 0 0, .slice none 0 0] 31 by
  rw [← hW4]
  have := BlkK.new (w.alloc (.cells #[.slice a1 n1 c1, .slice a2 n2 c2] 31)) #[.slice none 0 0, .slice none 0 0] 31
  rwa [World.size_alloc] at this)
 have HG := Lib.hid (show GraphM W4 a1 n1 a2 n2 ws al from h.mono (Nat.le_refl _) HB4.out)
 clear h hok V hl1 hl2 hlim g3 g4 g5 g6
 unfold graphV at HC
 show Calls _ _ #[.agg #[.slice a1 n1 c1, .slice a2 n2 c2]] _ _
 go_enter Tryz.func33, Tryz.ntmps33
 obtain ⟨k0, k1⟩ := HBX.out
 go_wp2_with (fail)
 refine (HC.out _ HB4.out).mono ?_
 rintro e w1 ⟨rfl, hb1⟩
 have HB1 := Lib.hid (bstep HB4.out hb1)
 have HR1 := Lib.hid (HRX.out.below hb1)
 have HX1 := Lib.hid (HBX.out.below hb1)
 have HG1 := Lib.hid (HG.out.mono (Nat.le_refl _) hb1)
 have hszw : w.heap.size + 1 < w1.heap.size := HR1.out.lt
 have HSW := Lib.hid hszw
 clear k0 k1 hb1 HC HB4 HBX HRX HG
 have hmk := make_nums n1 (by omega)
 have hmb := make_bools24 n1 hn1
 have kA := balloc w1 (.cells (Array.replicate n1 (.int .i64 0)) 3)
 have kB := balloc (w1.alloc (.cells (Array.replicate n1 (.int .i64 0)) 3)) (.cells (boolN n1 fun _ => false).toArray 4)
 have HN0 := Lib.hid (NxS.new w1 n1)
 have HB0 := Lib.hid (bstep kA kB)
 obtain ⟨k0, k1⟩ := HX1.out
 have j0 := cell_keep kA k0
 have j1 := cell_keep kA k1
 have l0 := cell_keep kB j0
 clear kA kB hszw
 go_wp2_with (fail)
 obtain ⟨S, hS⟩ : ∃ S, w1.heap.size = S := ⟨_, rfl⟩
 rw [hS] at HN0 HSW ⊢
 have HS := Lib.hid hS
 clear hmk hmb k0 k1 j0 j1 l0 hS
 generalize (w1.alloc (.cells (Array.replicate n1 (.int .i64 0)) 3)).alloc (.cells (boolN n1 fun _ => false).toArray 4) = W0 at HN0 HB0 ⊢
 go_loopw [6] (fun kv wr => ∃ k : Nat, k ≤ n1 ∧ kv = .int .i64 k ∧ NxS wr S n1 (fun x => if x < (k : Int) then -1 else 0) (fun x => decide (x < (k : Int))) ∧ Below S w1 wr) (fun kv _ => n1 - (intOf kv).toNat)
 case atStart => exact ⟨0, Nat.zero_le _, rfl, HN0.out.ext (fun k _ => by rw [if_neg (by omega)]) (fun k _ => by simp), by rw [← HS.out]; exact HB0.out⟩
 case round =>
  obtain ⟨wk, rfl⟩ : ∃ wk : World, wk = wr := ⟨_, rfl⟩
  obtain ⟨k, hk, rfl, hn, hb⟩ := hrel
  have HB := Lib.hid hb
  have HN := Lib.hid hn
  have hbw : Below w1.heap.size w1 wk := by rw [HS.out]; exact hb
  obtain ⟨k0, k1⟩ := HX1.out.below hbw
  by_cases hkn : k < n1
  case pos =>
   have i1 : (k : Int) < (n1 : Int) := by omega
   have y0 := hn.f hkn
   have y1 := hn.nx.free k
   have HN2 := Lib.hid ((hn.setF k (-1)).setB k true)
   have y2 := (hn.setF k (-1)).b hkn
   have y3 := (hn.setF k (-1)).be.hard (i := k)
   have HB2 := Lib.hid ((hb.setCell (p := ⟨S, k, none⟩) (u := .int .i64 (-1)) (Nat.le_refl _)).setCell (p := ⟨S + 1, k, none⟩) (u := .bool true) (Nat.le_succ _))
   have HKN := Lib.hid hkn
   clear hk hkn hn hb hbw
   go_wp2_with (fail)
   exact ⟨⟨k + 1, by have := HKN.out; omega, by simp, HN2.out.ext (fun j _ => by
    by_cases e : (j : Int) = (k : Int)
    · rw [if_pos e, if_pos (by omega)]
    · rw [if_neg e]
      by_cases e2 : (j : Int) < (k : Int)
      · rw [if_pos e2, if_pos (by omega)]
      · rw [if_neg e2, if_neg (by omega)]) (fun j _ => by
    by_cases e : (j : Int) = (k : Int)
    · rw [if_pos e, decide_eq_true (by omega)]
    · rw [if_neg e]
      by_cases e2 : (j : Int) < (k : Int)
      · rw [decide_eq_true e2, decide_eq_true (by omega)]
      · rw [decide_eq_false e2, decide_eq_false (by omega)]), HB2.out⟩, by have := HKN.out; simp [intOf]; omega⟩
  case neg =>
   obtain rfl : n1 = k := by omega
   have HN1 := Lib.hid (show NxS wk S n1 (nxL ((n1 : Int) - 1) al (al.take 0)) (beL ((n1 : Int) - 1) al (al.take 0)) by
    rw [List.take_zero, nxL_nil, beL_nil]
    exact hn.ext (fun j hj => by rw [if_pos (by omega)]) (fun j hj => by rw [decide_eq_true (by omega)]))
   clear hn hb hbw hk hkn
   go_wp2_with (fail)
   clear k0 k1
   go_loopw [7] (fun iv wr => ∃ i : Nat, i ≤ n2 ∧ iv = .int .i64 i ∧ NxS wr S n1 (nxL ((n1 : Int) - 1) al (al.take i)) (beL ((n1 : Int) - 1) al (al.take i)) ∧ Below S w1 wr) (fun iv _ => n2 - (intOf iv).toNat)
   case atStart => exact ⟨0, Nat.zero_le _, rfl, HN1.out, HB.out⟩
   case round =>
    obtain ⟨wi, rfl⟩ : ∃ wi : World, wi = wr := ⟨_, rfl⟩
    obtain ⟨i, hi, rfl, hn, hb⟩ := hrel
    have HBI := Lib.hid hb
    have HNI := Lib.hid hn
    have hbw : Below w1.heap.size w1 wi := by rw [HS.out]; exact hb
    have HXI := Lib.hid (HX1.out.below hbw)
    have HGI := Lib.hid (HG1.out.mono (Nat.le_refl _) hbw)
    obtain ⟨k0, k1⟩ := HXI.out
    by_cases hin : i < n2
    case pos =>
     have i1 : (i : Int) < (n2 : Int) := by omega
     obtain ⟨x, b, off, a5, k5, hx, rfl, p0, p1, p2, _⟩ := HG1.out.arcs.at hin
     have hr := HVG.out.rng _ (List.mem_of_getElem? hx)
     have hsp := simp61 ws al a1 n1 c1 (some ⟨b, off, none⟩) n2 c2 i x wi HGI.out hn1 (by omega) g2 hx ⟨hr.1, hr.2.1, by omega⟩
     unfold graphV at hsp
     have HTK := Lib.hid (show al.take (i + 1) = al.take i ++ [x] by rw [List.take_add_one, hx]; rfl)
     have HTN := Lib.hid (nxL_snoc ((n1 : Int) - 1) al (al.take i) x)
     have HTB := Lib.hid (beL_snoc ((n1 : Int) - 1) al (al.take i) x)
     have HP0 := Lib.hid p0
     have HP1 := Lib.hid p1
     have HIN := Lib.hid hin
     have HR := Lib.hid hr
     by_cases hs : Vg.Simp ((n1 : Int) - 1) al x
     · rw [decide_eq_true hs] at hsp
       rw [if_pos hs] at HTN HTB
       have HSP := Lib.hid hsp
       clear hsp hs hx p0 p1 p2 hr hn hb hbw hi hin
       go_wp2_with (fail)
       refine HSP.out.mono ?_
       rintro e w9 ⟨rfl, hb9⟩
       obtain ⟨⟨f0, t0⟩, src⟩ := x
       obtain ⟨r1, r2, r3⟩ := HR.out
       simp only at HP0 HP1 HTN HTB r1 r2 r3
       obtain ⟨f, rfl⟩ : ∃ f : Nat, f0 = f := ⟨f0.toNat, by omega⟩
       obtain ⟨t, rfl⟩ : ∃ t : Nat, t0 = t := ⟨t0.toNat, by omega⟩
       have HN9 := Lib.hid (HNI.out.below hb9)
       have HB9 := Lib.hid (HBI.out.trans (hb9.mono (by rw [← HS.out]; exact HBI.out.size)))
       have hb9w : Below w1.heap.size w1 w9 := by rw [HS.out]; exact HB9.out
       have HX9 := Lib.hid (HX1.out.below hb9w)
       have HC0 := Lib.hid (cell_keep hb9w HP0.out)
       have HC1 := Lib.hid (cell_keep hb9w HP1.out)
       have HFN := Lib.hid (show f < n1 by omega)
       have HTNN := Lib.hid (show t < n1 by omega)
       have HJ1 := Lib.hid HX9.out.k1
       have i2 : (f : Int) < (n1 : Int) := by omega
       have i3 : (t : Int) < (n1 : Int) := by omega
       have z0 := (HN9.out.below (bdrewN w9 1)).f HFN.out
       clear hb9 hb9w r1 r2 r3 k0 k1
       go_wp2_with (fail)
       clear z0
       refine (wpIn_wide (n := 20)).1 ?_
       refine wpIn_region_planM (fun W' => Below w9.heap.size w9 W') 14 (.take 0 <| .take 1 <| .take 2 <| .take 3 <| .take 4 <| .take 5 <| .take 6 <| .take 7 <| .take 8 <| .take 9 <| .take 10 <| .take 11 <| .take 12 <| .take 13 <| .one 14 <| .fin) (fun _ => trivial) (by kernel_rfl) (by kernel_rfl) (bdrewN w9 1) ?_
       iterate 2
        apply pm_take rfl rfl (by rfl)
        case hy =>
         rintro W' hb'
         clear hb'
         go_simp
         first | done | with_reducible rfl
        simp only [List.setIfInBounds_toArray, List.set_cons_zero, List.set_cons_succ]
       apply pm_take rfl rfl (by rfl)
       case hy =>
        rintro W' hb'
        have c0 := cell_keep hb' HJ1.out
        have c1 := cell_keep hb' HC0.out
        have c2 := cell_keep hb' HC1.out
        clear hb'
        go_simp
        first | done | with_reducible rfl
       simp only [List.setIfInBounds_toArray, List.set_cons_zero, List.set_cons_succ]
       iterate 3
        apply pm_take rfl rfl (by rfl)
        case hy =>
         rintro W' hb'
         clear hb'
         go_simp
         first | done | with_reducible rfl
        simp only [List.setIfInBounds_toArray, List.set_cons_zero, List.set_cons_succ]
       apply pm_take rfl rfl (by rfl)
       case hy =>
        rintro W' hb'
        have c0 := cell_keep hb' HJ1.out
        have c1 := cell_keep hb' HC0.out
        have c2 := cell_keep hb' HC1.out
        clear hb'
        go_simp
        first | done | with_reducible rfl
       simp only [List.setIfInBounds_toArray, List.set_cons_zero, List.set_cons_succ]
       apply pm_take rfl rfl (by rfl)
       case hy =>
        rintro W' hb'
        clear hb'
        go_simp
        first | done | with_reducible rfl
       simp only [List.setIfInBounds_toArray, List.set_cons_zero, List.set_cons_succ]
       apply pm_take rfl rfl (by rfl)
       case hy =>
        rintro W' hb'
        have c0 := cell_keep hb' HJ1.out
        have c1 := cell_keep hb' HC0.out
        have c2 := cell_keep hb' HC1.out
        clear hb'
        go_simp
        first | done | with_reducible rfl
       simp only [List.setIfInBounds_toArray, List.set_cons_zero, List.set_cons_succ]
       iterate 3
        apply pm_take rfl rfl (by rfl)
        case hy =>
         rintro W' hb'
         clear hb'
         go_simp
         first | done | with_reducible rfl
        simp only [List.setIfInBounds_toArray, List.set_cons_zero, List.set_cons_succ]
       apply pm_take rfl rfl (by rfl)
       case hy =>
        rintro W' hb'
        have c0 := cell_keep hb' HJ1.out
        have c1 := cell_keep hb' HC0.out
        have c2 := cell_keep hb' HC1.out
        clear hb'
        go_simp
        first | done | with_reducible rfl
       simp only [List.setIfInBounds_toArray, List.set_cons_zero, List.set_cons_succ]
       apply pm_take rfl rfl (by rfl)
       case hy =>
        rintro W' hb'
        clear hb'
        go_simp
        first | done | with_reducible rfl
       simp only [List.setIfInBounds_toArray, List.set_cons_zero, List.set_cons_succ]
       refine pm_one rfl ?_
       have z0 : w9.drew.cell? ⟨S, f, none⟩ = _ := (HN9.out.below (bdrewN w9 1)).f HFN.out
       have z1 : w9.drew.frozen? ⟨S, f, none⟩ = false := (HN9.out.below (bdrewN w9 1)).nx.free f
       gi_wp2_with (fail)
       refine ⟨fun h => absurd h (by omega), ?_⟩
       clear z0 z1
       refine pm_fin ?_
       gi_wp2_with (fail)
       have HN3 := Lib.hid ((HN9.out.setF f (t : Int)).below (bdrewN _ 1))
       have HB3 := Lib.hid (below_drew' (HB9.out.setCell (p := ⟨S, f, none⟩) (u := .int .i64 (t : Int)) (Nat.le_refl _)))
       obtain ⟨W3, hW3⟩ : ∃ W, (w9.setCell ⟨S, f, none⟩ (.int .i64 (t : Int))).drew = W := ⟨_, rfl⟩
       replace HN3 := Lib.hid (show NxS W3 S n1 (fun x => if x = (f : Int) then (t : Int) else nxL ((n1 : Int) - 1) al (al.take i) x) (beL ((n1 : Int) - 1) al (al.take i)) by rw [← hW3]; exact HN3.out)
       rw [hW3] at HB3 ⊢
       have hb3w : Below w1.heap.size w1 W3 := by rw [HS.out]; exact HB3.out
       have m1 := (HX1.out.below hb3w).k1
       have m2 := cell_keep hb3w HP1.out
       have y2 := HN3.out.b HTNN.out
       have y3 := HN3.out.be.hard (i := t)
       have HN4 := Lib.hid (HN3.out.setB t false)
       have HB4 := Lib.hid (HB3.out.setCell (p := ⟨S + 1, t, none⟩) (u := .bool false) (Nat.le_succ _))
       clear hb3w hW3
       go_wp2_with (fail)
       exact ⟨⟨i + 1, by have := HIN.out; omega, by simp, by rw [HTK.out, HTN.out, HTB.out]; exact HN4.out, HB4.out⟩, by have := HIN.out; simp [intOf]; omega⟩
     · rw [decide_eq_false hs] at hsp
       rw [if_neg hs] at HTN HTB
       have HSP := Lib.hid hsp
       clear hsp hs hx p0 p1 p2 hr hn hb hbw hi hin
       go_wp2_with (fail)
       refine HSP.out.mono ?_
       rintro e w9 ⟨rfl, hb9⟩
       have HN9 := Lib.hid (HNI.out.below hb9)
       have HB9 := Lib.hid (HBI.out.trans (hb9.mono (by rw [← HS.out]; exact HBI.out.size)))
       clear hb9
       go_wp2_with (fail)
       go_roundw
       case rel => exact ⟨i + 1, by have := HIN.out; omega, by simp, by rw [HTK.out, HTN.out, HTB.out]; exact HN9.out, HB9.out⟩
       case measure => have := HIN.out; simp [intOf]; omega
    case neg =>
     obtain rfl : n2 = i := by omega
     have HNE := Lib.hid (show NxS wi S n1 (nxL ((n1 : Int) - 1) al al) (beL ((n1 : Int) - 1) al al) by
      rw [List.take_of_length_le (by rw [HL2.out]; exact Nat.le_refl _)] at hn
      exact hn)
     have HBW := Lib.hid hbw
     have hmk := make_nums n1 (by omega)
     have kA := balloc wi (.cells #[.slice none 0 0, .slice none 0 0] 31)
     have kB := balloc (wi.alloc (.cells #[.slice none 0 0, .slice none 0 0] 31)) (.cells (Array.replicate n1 (.int .i64 0)) 3)
     have HK0 := Lib.hid (K3.new wi ((n1 : Int) - 1) al HVG.out ws n1)
     have HB0' := Lib.hid (bstep kA kB)
     have j0 := cell_keep kA k0
     have hsz2 : wi.heap.size + 2 ≤ ((wi.alloc (.cells #[.slice none 0 0, .slice none 0 0] 31)).alloc (.cells (Array.replicate n1 (.int .i64 0)) 3)).heap.size := by simp
     have HZ2 := Lib.hid hsz2
     clear hn hb hbw hi hin kA kB hsz2
     go_wp2_with (fail)
     obtain ⟨bo, hbo⟩ : ∃ b, wi.heap.size = b := ⟨_, rfl⟩
     have HBO := Lib.hid hbo
     rw [hbo] at HK0 HZ2 ⊢
     clear hmk k0 k1 j0 hbo
     generalize (wi.alloc (.cells #[.slice none 0 0, .slice none 0 0] 31)).alloc (.cells (Array.replicate n1 (.int .i64 0)) 3) = W2 at HK0 HB0' HZ2 ⊢
     rw [HBO.out] at HB0'
     go_loopw [10] (fun xv wr => ∃ (x : Nat) (v : Value), x ≤ n1 ∧ xv = .int .i64 x ∧ K3 wr ((n1 : Int) - 1) al ws bo n1 x 0 x v ∧ Below bo wi wr ∧ bo + 2 ≤ wr.heap.size) (fun xv _ => n1 - (intOf xv).toNat)
     case atStart => exact ⟨0, _, Nat.zero_le _, rfl, HK0.out, HB0'.out, HZ2.out⟩
     case round =>
      obtain ⟨wx, rfl⟩ : ∃ wx : World, wx = wr := ⟨_, rfl⟩
      obtain ⟨x, v, hx, rfl, hk, hb, hsz⟩ := hrel
      have HKX := Lib.hid hk
      have HBX := Lib.hid hb
      have HSZ := Lib.hid hsz
      have hbi : Below wi.heap.size wi wx := by rw [HBO.out]; exact hb
      have hb1 : Below w1.heap.size w1 wx := bstep HBW.out hbi
      have HXX := Lib.hid (HX1.out.below hb1)
      obtain ⟨k0, k1⟩ := HXX.out
      by_cases hxn : x < n1
      case pos =>
       have i1 : (x : Int) < (n1 : Int) := by omega
       have HXN := Lib.hid hxn
       have y0 := (HNE.out.below hbi).b hxn
       rw [beL_all] at y0
       by_cases hp : Vg.pre ((n1 : Int) - 1) al (x : Int) = none
       case neg =>
        have hpn : (Vg.pre ((n1 : Int) - 1) al (x : Int)).isNone = false := by cases hq : Vg.pre ((n1 : Int) - 1) al (x : Int) with | none => exact absurd hq hp | some j => rfl
        rw [hpn] at y0
        have HK9 := Lib.hid (hk.next (x' := x + 1) (d' := 0) (m' := x + 1) (fun k => by rw [nm_skip HVG.out hp k]; push_cast; rfl) (wordsK_skip hp ws n1))
        clear hk hb hsz hbi hb1 hx hxn hp hpn k1
        go_wp2_with (fail)
        go_roundw
        case rel => exact ⟨x + 1, v, by have := HXN.out; omega, by simp, HK9.out, HBX.out, HSZ.out⟩
        case measure => have := HXN.out; simp [intOf]; omega
       case pos =>
        rw [hp] at y0
        have HP := Lib.hid hp
        have hfx := HVG.out.fst_self.2 hp
        have hdx := HVG.out.dep_zero.2 hp
        have hnx := HVG.out.num_first hp
        have HFX := Lib.hid hfx
        obtain ⟨u, b3, o3, v3, hu, rfl, hc3, rfl⟩ := Sl.at HG1.out.words hxn
        have HCW := Lib.hid hc3
        have HU := Lib.hid hu
        have q0 : wx.cell? ⟨b3, o3 + x, none⟩ = some (.string (bs u)) := cell_keep hb1 hc3
        have hwl := wordsK_len ((n1 : Int) - 1) al ws n1 x
        have hwx := wordsK_le ((n1 : Int) - 1) al ws n1 x
        obtain ⟨av, cv, rfl, _⟩ := OwnS.cap hk.row (by omega)
        obtain ⟨m, hm⟩ : ∃ m, (wordsK ((n1 : Int) - 1) al ws n1 x).length = m := ⟨_, rfl⟩
        have HNM := Lib.hid (show ((m : Nat) : Int) = Vg.num ((n1 : Int) - 1) al (x : Int) by rw [← hm, hwl, hnx])
        rw [hm] at hk hwx
        have HM := Lib.hid hm
        have HK1 := Lib.hid (hk.num x ((m : Nat) : Int) (d' := 1) (fun j => by rw [HNM.out]; exact nm_first HVG.out hp (j : Int)))
        have b0 := hk.box.cell (i := 0) (u := .slice av m cv) rfl
        have z0 := hk.at hxn
        have z1 := hk.nm.free x
        have hb2 := hb.setCell (p := ⟨bo + 1, x, none⟩) (u := .int .i64 ((m : Nat) : Int)) (Nat.le_succ _)
        have HB2 := Lib.hid hb2
        have hb2i : Below wi.heap.size wi (wx.setCell ⟨bo + 1, x, none⟩ (.int .i64 ((m : Nat) : Int))) := by rw [HBO.out]; exact hb2
        have y1 := (HNE.out.below hb2i).f hxn
        have HSZ1 := Lib.hid (show bo + 2 ≤ (wx.setCell ⟨bo + 1, x, none⟩ (.int .i64 ((m : Nat) : Int))).heap.size by rw [show (wx.setCell ⟨bo + 1, x, none⟩ (.int .i64 ((m : Nat) : Int))).heap.size = wx.heap.size by simp [World.setCell]]; exact hsz)
        have HWX := Lib.hid (show Vg.wd [32] ((n1 : Int) - 1) al (wsF ws) (x : Int) = u by
         rw [Vg.wd_none [32] hp]
         unfold wsF
         rw [Int.toNat_natCast, List.getD_eq_getElem?_getD, hu]
         rfl)
        have HDX := Lib.hid hdx
        have HM4 := Lib.hid (show m ≤ 4096 by omega)
        clear hk hb hsz hbi hb1 hx hp hb2 hb2i hu hwl hwx hm hnx hfx hdx hc3 k1
        go_wp2_with (fail)
        clear b0 z0 z1 y0 y1 q0 k0
        go_loopw [11, 12] (fun wv kv W => ∃ y : Nat, y < n1 ∧ Vg.fst ((n1 : Int) - 1) al (y : Int) = (x : Int) ∧ wv = .string (bs (Vg.wd [32] ((n1 : Int) - 1) al (wsF ws) (y : Int))) ∧ kv = .int .i64 (nxL ((n1 : Int) - 1) al al (y : Int)) ∧ K3 W ((n1 : Int) - 1) al ws bo n1 x (Vg.dep ((n1 : Int) - 1) al (y : Int) + 1) x (.slice av m cv) ∧ Below bo wi W ∧ bo + 2 ≤ W.heap.size) (fun _ kv _ => if intOf kv < 0 then 0 else n1 - (intOf kv).toNat)
        case atStart => exact ⟨x, HXN.out, HFX.out, by rw [HWX.out], rfl, by rw [HDX.out]; exact HK1.out, HB2.out, HSZ1.out⟩
        case round =>
         obtain ⟨wy, rfl⟩ : ∃ wy : World, wy = wr := ⟨_, rfl⟩
         obtain ⟨y, hy, hfy, rfl, rfl, hk, hb, hsz⟩ := hrel
         have HBY := Lib.hid hb
         have HSZ := Lib.hid hsz
         have hbi : Below wi.heap.size wi wy := by rw [HBO.out]; exact hb
         have hb1 : Below w1.heap.size w1 wy := bstep HBW.out hbi
         obtain ⟨k0, k1⟩ := HX1.out.below hb1
         have HFY := Lib.hid hfy
         have HLW := Lib.hid (wd_len HVG.out (W := wsF ws) HLIM.out (y := y))
         have b0 := hk.box.cell (i := 0) (u := .slice av m cv) rfl
         have b1 := hk.box.hard (i := 0)
         obtain ⟨q, hq⟩ : ∃ q, nxL ((n1 : Int) - 1) al al (y : Int) = q := ⟨_, rfl⟩
         rw [hq]
         by_cases hq0 : 0 ≤ q
         case pos =>
          have hp := nx_next hq hq0
          have hle := nx_lt HVG.out (y := (y : Int))
          rw [hq] at hle
          obtain ⟨t, rfl⟩ : ∃ t : Nat, q = t := ⟨q.toNat, by omega⟩
          have htn : t < n1 := by omega
          have i2 : (t : Int) < (n1 : Int) := by omega
          have i3 : (0 : Int) ≤ (t : Int) := by omega
          obtain ⟨f1, f2⟩ := HVG.out.fst_some hp
          have HFT := Lib.hid (show Vg.fst ((n1 : Int) - 1) al (t : Int) = (x : Int) by rw [f1, hfy])
          have hwt := HVG.out.wd_some [32] (ws := wsF ws) hp
          obtain ⟨u', b4, o4, v4, hu', he4, hc4, rfl⟩ := Sl.at HG1.out.words htn
          cases he4
          have q0 : wy.cell? ⟨b3, o3 + t, none⟩ = some (.string (bs u')) := cell_keep hb1 hc4
          have hwu : wsF ws (t : Int) = u' := by
           unfold wsF
           rw [Int.toNat_natCast, List.getD_eq_getElem?_getD, hu']
           rfl
          rw [hwu] at hwt
          have hlt := wd_len HVG.out (W := wsF ws) HLIM.out (y := t)
          obtain ⟨wa, hwa⟩ : ∃ a, Vg.wd [32] ((n1 : Int) - 1) al (wsF ws) (y : Int) = a := ⟨_, rfl⟩
          rw [hwa] at hwt HLW ⊢
          rw [hwt] at hlt
          simp only [List.length_append, List.length_cons, List.length_nil] at hlt
          have HE1 := Lib.hid (show bs wa ++ ({ data := #[32] } : ByteArray) = bs (wa ++ [32]) by rw [← bs_append]; rfl)
          have HE2 := Lib.hid (show bs (wa ++ [32]) ++ bs u' = bs (Vg.wd [32] ((n1 : Int) - 1) al (wsF ws) (t : Int)) by rw [hwt, bs_append, List.append_assoc])
          have HK4 := Lib.hid (hk.num t ((m : Nat) : Int) (d' := Vg.dep ((n1 : Int) - 1) al (t : Int) + 1) (fun j => by rw [HNM.out]; exact nm_next HVG.out hfy hp (j : Int)))
          have z0 := hk.at htn
          have z1 := hk.nm.free t
          have hb2 := hb.setCell (p := ⟨bo + 1, t, none⟩) (u := .int .i64 ((m : Nat) : Int)) (Nat.le_succ _)
          have HB4 := Lib.hid hb2
          have hb2i : Below wi.heap.size wi (wy.setCell ⟨bo + 1, t, none⟩ (.int .i64 ((m : Nat) : Int))) := by rw [HBO.out]; exact hb2
          have y1 := (HNE.out.below hb2i).f htn
          have k0' := (HX1.out.below (bstep HBW.out hb2i)).k0
          have q0' : (wy.setCell ⟨bo + 1, t, none⟩ (.int .i64 ((m : Nat) : Int))).cell? ⟨b3, o3 + t, none⟩ = some (.string (bs u')) := cell_keep (bstep HBW.out hb2i) hc4
          have HSZ4 := Lib.hid (show bo + 2 ≤ (wy.setCell ⟨bo + 1, t, none⟩ (.int .i64 ((m : Nat) : Int))).heap.size by rw [show (wy.setCell ⟨bo + 1, t, none⟩ (.int .i64 ((m : Nat) : Int))).heap.size = wy.heap.size by simp [World.setCell]]; exact hsz)
          have HTN := Lib.hid htn
          have e1 := HE1.out
          have e2 := HE2.out
          have e3 : ¬(9223372036854775807 < wa.length + 1) := by omega
          have e4 : ¬(9223372036854775807 < wa.length + 1 + u'.length) := by omega
          have HMS := Lib.hid (show (if nxL ((n1 : Int) - 1) al al (t : Int) < 0 then 0 else n1 - (nxL ((n1 : Int) - 1) al al (t : Int)).toNat) < n1 - t by
           split
           · omega
           · rename_i h
             have h1 := (HVG.out.pre_lt (nx_next (y := (t : Int)) rfl (by omega))).2.1
             omega)
          clear hk hb hsz hbi hb1 hy hfy hq hq0 hp hle htn f1 f2 hwt hu' hc4 hwu hlt hwa hb2 hb2i k1 b1
          go_wp2_with (fail)
          go_roundw
          case rel => exact ⟨t, HTN.out, HFT.out, rfl, rfl, HK4.out, HB4.out, HSZ4.out⟩
          case measure =>
           have h1 := HMS.out
           show (if nxL ((n1 : Int) - 1) al al (t : Int) < 0 then 0 else n1 - (nxL ((n1 : Int) - 1) al al (t : Int)).toNat) < (if (t : Int) < 0 then 0 else n1 - (t : Int).toNat)
           rw [if_neg (show ¬((t : Int) < 0) by omega), Int.toNat_natCast]
           exact h1
         case neg =>
          have hlast := nx_last HVG.out (y := (y : Int)) (by rw [hq]; omega)
          have hye : (y : Int) ≤ (n1 : Int) - 1 := by omega
          have hwy := HVG.out.accW_words [32] (ws := wsF ws) (n := n1 - 1) (by omega) hye hlast
          rw [hfy] at hwy
          have hwk := wordsK_take HP.out ws n1
          rw [hwy] at hwk
          obtain ⟨wa, hwa⟩ : ∃ a, Vg.wd [32] ((n1 : Int) - 1) al (wsF ws) (y : Int) = a := ⟨_, rfl⟩
          rw [hwa] at hwk HLW ⊢
          have HWK := Lib.hid hwk
          have HKY := Lib.hid hk
          have HNE9 := Lib.hid (fun k => nm_end HVG.out hfy hlast k)
          have HLS := Lib.hid (show (wordsK ((n1 : Int) - 1) al ws n1 x).length ≤ 1000000 by have := HM.out; have := HM4.out; omega)
          have i2 : ¬((0 : Int) ≤ q) := by omega
          have hlw := HLW.out
          have e3 : ¬(65536 < wa.length) := by omega
          have e5 : ¬((65536 : Int) < (wa.length : Int)) := by omega
          clear hk hb hsz hbi hb1 hfy hq hq0 hlast hye hwy hwk hwa hlw
          go_wp2_with (at_builtin; refine push_str rfl _ _ rfl (bo + 2) _ (wordsK ((n1 : Int) - 1) al ws n1 x) rfl HKY.out.row rfl HLS.out HSZ.out ?_; intro v' w' hv' hb' _; obtain ⟨av', cv', rfl, _⟩ := OwnS.cap hv' (by have := HLS.out; rw [List.length_append]; simp only [List.length_cons, List.length_nil]; omega); obtain ⟨m', hm'⟩ : ∃ q, (wordsK ((n1 : Int) - 1) al ws n1 x ++ [wa]).length = q := ⟨_, rfl⟩; rw [hm'] at hv' ⊢; have HB6 := Lib.hid hb'; have HK6 := Lib.hid (K3.push HKY.out hv' hb' (x' := x + 1) (d' := 0) (m' := x + 1) (fun k => by rw [HNE9.out k]; push_cast; rfl) HWK.out); have c8 := HK6.out.1.cell (i := 0) (u := .slice av m cv) rfl; have c9 := HK6.out.1.hard (i := 0); clear hv' hb' hm')
          go_roundw
          case rel => exact ⟨x + 1, _, by have := HXN.out; omega, by simp, HK6.out.2, (HBY.out.trans (HB6.out.mono (by omega))).setCell (p := ⟨bo, 0, none⟩) (Nat.le_refl _) _, by
           have h1 := HB6.out.size
           have h2 := HSZ.out
           simp only [World.size_setCell]
           omega⟩
          case measure => have := HXN.out; simp [intOf]; omega
      case neg =>
       obtain rfl : n1 = x := by omega
       have hwl := wordsK_len ((n1 : Int) - 1) al ws n1 n1
       have hwx := wordsK_le ((n1 : Int) - 1) al ws n1 n1
       have hcl := HVG.out.contrW_len [32] (wsF ws) (n := n1) (by omega)
       have HWD := Lib.hid (show wordsK ((n1 : Int) - 1) al ws n1 n1 = Vg.contrW [32] ((n1 : Int) - 1) al (wsF ws) n1 from rfl)
       obtain ⟨av, cv, rfl, _⟩ := OwnS.cap hk.row (by omega)
       have hvB : ∀ k, (Value.slice av (wordsK ((n1 : Int) - 1) al ws n1 n1).length cv).ownBlock = some k → k < wx.heap.size := fun k h => (World.ownsRow.lt hk.row k h).2
       obtain ⟨us, hus⟩ : ∃ us, wordsK ((n1 : Int) - 1) al ws n1 n1 = us := ⟨_, rfl⟩
       obtain ⟨m, hm⟩ : ∃ m, (wordsK ((n1 : Int) - 1) al ws n1 n1).length = m := ⟨_, rfl⟩
       have hcl2 : (m : Int) = Vg.num ((n1 : Int) - 1) al ((n1 : Int) - 1) + 1 := by rw [← hm, HWD.out]; exact hcl.1
       have HAOK := Lib.hid (Vg.arcsC_ok HVG.out (n := m) (by omega))
       obtain ⟨B, hB⟩ : ∃ B, wx.heap.size = B := ⟨_, rfl⟩
       rw [hm] at hk hvB hwx
       have HA0 := Lib.hid (show A6 w1 wx (Vg.num ((n1 : Int) - 1) al) bo n1 B (.slice av m cv) us (.slice none 0 0) ((List.range 0).flatMap fun f => (List.range m).flatMap fun t => cellC ((n1 : Int) - 1) al f t) from
        ⟨by
         rw [← rngL_ext (F := fun k : Nat => nmF ((n1 : Int) - 1) al ((n1 : Nat) : Int) 0 (k : Int)) (G := fun k : Nat => Vg.num ((n1 : Int) - 1) al (k : Int)) fun k hk => by
          have := nm_all HVG.out (k := (k : Int)) (by omega)
          rw [show ((n1 : Int) - 1 + 1) = (n1 : Int) by omega] at this
          exact this]
         exact hk.nm, hk.box, by rw [← hus]; exact hk.row, OwnAs.nil _ _ _ _⟩)
       rw [hB] at hvB
       have HVB := Lib.hid hvB
       have HBB := Lib.hid (show bo + 2 ≤ B by omega)
       have HBS := Lib.hid (show B ≤ wx.heap.size by omega)
       have HM4 := Lib.hid (show m ≤ 4096 by omega)
       have HUS := Lib.hid hus
       have HUL := Lib.hid (show us.length = m by rw [← hus]; exact hm)
       clear hk hb hsz hbi hb1 hx hxn hwl hwx hcl hvB hus hm hcl2 hB k1
       go_wp2_with (fail)
       clear k0
       go_loopw [13] (fun fv wr => ∃ (f : Nat) (v2 : Value), f ≤ m ∧ fv = .int .i64 f ∧ A6 w1 wr (Vg.num ((n1 : Int) - 1) al) bo n1 B (.slice av m cv) us v2 ((List.range f).flatMap fun f => (List.range m).flatMap fun t => cellC ((n1 : Int) - 1) al f t) ∧ Below bo wi wr ∧ B ≤ wr.heap.size) (fun fv _ => m - (intOf fv).toNat)
       case atStart => exact ⟨0, _, Nat.zero_le _, rfl, HA0.out, HBX.out, HBS.out⟩
       case round =>
        obtain ⟨wf, rfl⟩ : ∃ wf : World, wf = wr := ⟨_, rfl⟩
        obtain ⟨f, v2, hf, rfl, ha, hb, hsz⟩ := hrel
        have HAF := Lib.hid ha
        have HBF := Lib.hid hb
        have HSF := Lib.hid hsz
        have b0 := ha.box.cell (i := 0) (u := .slice av m cv) rfl
        by_cases hfm : f < m
        case neg =>
         obtain rfl : m = f := by omega
         rw [arcsK_end] at ha
         obtain ⟨ls, hls⟩ : ∃ l, Vg.arcsC ((n1 : Int) - 1) al m = l := ⟨_, rfl⟩
         rw [hls] at ha
         have HLS := Lib.hid (show Vg.Contr ((n1 : Int) - 1) al ls by rw [← hls]; exact HAOK.out)
         have hb1 : Below w1.heap.size w1 wf := bstep HBW.out (by rw [HBO.out]; exact hb)
         have hlen := arcsC_len ((n1 : Int) - 1) al (n := m) HM4.out (by rw [HL2.out]; exact hn2)
         rw [hls] at hlen
         obtain ⟨a9, c9, rfl, hau, _⟩ := ha.arcs.gives (by omega) hb1
         obtain ⟨m9, hm9⟩ : ∃ q, ls.length = q := ⟨_, rfl⟩
         rw [hm9] at hau ha
         have HAU := Lib.hid hau
         have HRS := Lib.hid (HR1.out.below hb1)
         have HBX9 := Lib.hid ha.box
         have HRW := Lib.hid ha.row
         have HB1' := Lib.hid (bstep HB1.out hb1)
         have p0 := ha.box.cell (i := 0) (u := .slice av m cv) rfl
         have p1 := ha.box.cell (i := 1) (u := .slice a9 m9 c9) rfl
         have s0 := HRS.out.cell (i := 0) (u := .slice none 0 0) rfl
         have s1 := HRS.out.cell (i := 1) (u := .slice none 0 0) rfl
         have t0 := HRS.out.hard (i := 0)
         have t1 := HRS.out.hard (i := 1)
         have HNE := Lib.hid (show w.heap.size + 1 < bo by have h1 := HSW.out; have h2 := HBW.out.size; have h3 := HBO.out; have h4 := HS.out; omega)
         clear ha hb hsz hf hfm hb1 hau hls hm9 hlen
         go_wp2_with (fail)
         clear b0 p0 p1 s0 s1 t0 t1
         obtain ⟨WS, hWS, hbs, hgs⟩ := store2 HRS.out (.slice av m cv) (.slice a9 m9 c9)
         rw [← hWS]
         have r0 := hbs.cell (i := 0) rfl
         have r1 := hbs.cell (i := 1) rfl
         refine bodyPost_ret (v := .tuple #[.agg #[.slice av m cv, .slice a9 m9 c9], .int .i64 0]) ?hres rfl ?_
         case hres => simp [results, Tryz.f33, go_sem, r0, r1]
         have hlo := HNE.out
         have hws : OwnS WS (bo + 2) (.slice av m cv) us := own_off HRW.out hgs (by omega)
         obtain ⟨a8, c8, he8, hst8⟩ := hws.strs (by rw [HUL.out]; have := HM4.out; omega)
         rw [HUL.out] at he8 hst8
         cases he8
         refine ⟨_, _, _, _, _, _, ls, rfl, ⟨?_, HAU.out.off2 HRS.out hgs⟩, by rw [HL1.out]; exact HLS.out, HB1'.out.trans (below_of_grown hgs HB1'.out.size (fun k hk => by cases hk; omega))⟩
         rw [HL1.out]
         rw [← HUS.out, HWD.out] at hst8
         exact hst8
        case pos =>
         have i1 : (f : Int) < (m : Int) := by omega
         have HFM := Lib.hid hfm
         have hwr1 : IntKind.i64.wrap ((f : Int) + 1) = ((f + 1 : Nat) : Int) := by rw [IntWalk.i64_in _ (by have := HM4.out; omega)]; omega
         rw [← arcsK_zero] at ha
         have HAK := Lib.hid ha
         have hm4 := HM4.out
         have HWR := Lib.hid hwr1
         clear ha hb hsz hf hwr1
         go_wp2_with (fail)
         clear b0 hm4 hfm
         go_loopw [14] (fun tv wr => ∃ (t : Nat) (v2 : Value), f + 1 ≤ t ∧ t ≤ m ∧ tv = .int .i64 t ∧ A6 w1 wr (Vg.num ((n1 : Int) - 1) al) bo n1 B (.slice av m cv) us v2 (arcsK ((n1 : Int) - 1) al m f t 0) ∧ Below bo wi wr ∧ B ≤ wr.heap.size) (fun tv _ => m - (intOf tv).toNat)
         case atStart => exact ⟨f + 1, _, Nat.le_refl _, by have := HFM.out; omega, by first | (simp; done) | exact congrArg (Value.int IntKind.i64) HWR.out, HAK.out, HBF.out, HSF.out⟩
         case round =>
          obtain ⟨wt, rfl⟩ : ∃ wt : World, wt = wr := ⟨_, rfl⟩
          obtain ⟨t, v3, hft, ht, rfl, ha, hb, hsz⟩ := hrel
          have HAT := Lib.hid ha
          have HBT := Lib.hid hb
          have HST := Lib.hid hsz
          have b0 := ha.box.cell (i := 0) (u := .slice av m cv) rfl
          by_cases htm : t < m
          case neg =>
           obtain rfl : m = t := by omega
           rw [arcsK_row] at ha
           have HAN := Lib.hid ha
           have hm4 := HM4.out
           have hfm := HFM.out
           clear ha hb hsz hft ht htm
           go_wp2_with (fail)
           go_roundw
           case rel => exact ⟨f + 1, _, by have := HFM.out; omega, by simp, HAN.out, HBT.out, HST.out⟩
           case measure => have := HFM.out; simp [intOf]; omega
          case pos =>
           have i2 : (t : Int) < (m : Int) := by omega
           have HTM := Lib.hid htm
           have HFT := Lib.hid hft
           clear ha hb hsz hft ht htm
           go_wp2_with (fail)
           clear b0
           go_loopw [15] (fun iv wr => ∃ (i : Nat) (v2 : Value), i ≤ n2 ∧ iv = .int .i64 i ∧ A6 w1 wr (Vg.num ((n1 : Int) - 1) al) bo n1 B (.slice av m cv) us v2 (arcsK ((n1 : Int) - 1) al m f t i) ∧ Below bo wi wr ∧ B ≤ wr.heap.size) (fun iv _ => n2 - (intOf iv).toNat)
           case atStart => exact ⟨0, _, Nat.zero_le _, rfl, HAT.out, HBT.out, HST.out⟩
           case round =>
            obtain ⟨wi2, rfl⟩ : ∃ wi2 : World, wi2 = wr := ⟨_, rfl⟩
            obtain ⟨i, v4, hi, rfl, ha, hb, hsz⟩ := hrel
            have HAI := Lib.hid ha
            have HBI2 := Lib.hid hb
            have HSI2 := Lib.hid hsz
            have hbi : Below wi.heap.size wi wi2 := by rw [HBO.out]; exact hb
            have hb1 : Below w1.heap.size w1 wi2 := bstep HBW.out hbi
            obtain ⟨k0, k1⟩ := HX1.out.below hb1
            by_cases hin : i < n2
            case neg =>
             obtain rfl : n2 = i := by omega
             have hnx := arcsK_next ((n1 : Int) - 1) al m f t (by have := HFT.out; omega)
             rw [HL2.out] at hnx
             rw [hnx] at ha
             have HAN := Lib.hid ha
             have hm4 := HM4.out
             have htm := HTM.out
             clear ha hb hsz hbi hb1 hi hin hnx
             go_wp2_with (fail)
             go_roundw
             case rel => exact ⟨t + 1, _, by have := HFT.out; omega, by have := HTM.out; omega, by simp, HAN.out, HBI2.out, HSI2.out⟩
             case measure => have := HTM.out; simp [intOf]; omega
            case pos =>
             have i3 : (i : Int) < (n2 : Int) := by omega
             obtain ⟨x, b, off, a5, k5, hx, rfl, p0, p1, p2, hsrc⟩ := HG1.out.arcs.at hin
             have hr := HVG.out.rng _ (List.mem_of_getElem? hx)
             have hsp := simp61 ws al a1 n1 c1 (some ⟨b, off, none⟩) n2 c2 i x wi2 (HG1.out.mono (Nat.le_refl _) hb1) hn1 (by omega) g2 hx ⟨hr.1, hr.2.1, by omega⟩
             unfold graphV at hsp
             have HP0 := Lib.hid p0
             have HP1 := Lib.hid p1
             have HP2 := Lib.hid p2
             have HIN := Lib.hid hin
             have HXX := Lib.hid hx
             have HR := Lib.hid hr
             have HSR := Lib.hid hsrc
             have hlen := arcsK_len ((n1 : Int) - 1) al (n := m) (f := f) (t := t) (i := i) HM4.out (by have := HFM.out; have := HM4.out; omega) (by have := HTM.out; have := HM4.out; omega) (by rw [HL2.out]; exact hn2)
             obtain ⟨a4, c4, rfl, _, _⟩ := ha.arcs.gives (by omega) hb1
             obtain ⟨m4, hm4⟩ : ∃ q, (arcsK ((n1 : Int) - 1) al m f t i).length = q := ⟨_, rfl⟩
             rw [hm4] at HAI ha
             have HML := Lib.hid hm4
             clear hm4
             obtain ⟨⟨f0, t0⟩, src⟩ := x
             obtain ⟨r1, r2, r3⟩ := hr
             simp only at HP0 HP1 HP2 r1 r2 r3
             obtain ⟨ff, rfl⟩ : ∃ ff : Nat, f0 = ff := ⟨f0.toNat, by omega⟩
             obtain ⟨tt, rfl⟩ : ∃ tt : Nat, t0 = tt := ⟨t0.toNat, by omega⟩
             have HFFN := Lib.hid (show ff < n1 by omega)
             have HTTN := Lib.hid (show tt < n1 by omega)
             have j2 : (ff : Int) < (n1 : Int) := by omega
             have j3 : (tt : Int) < (n1 : Int) := by omega
             have HLN := Lib.hid hlen
             obtain ⟨nf, hnf⟩ : ∃ z, Vg.num ((n1 : Int) - 1) al (ff : Int) = z := ⟨_, rfl⟩
             obtain ⟨nt, hnt⟩ : ∃ z, Vg.num ((n1 : Int) - 1) al (tt : Int) = z := ⟨_, rfl⟩
             have HNF := Lib.hid hnf
             have HNT := Lib.hid hnt
             by_cases hs : Vg.Simp ((n1 : Int) - 1) al (((ff : Int), (tt : Int)), src)
             case pos =>
              rw [decide_eq_true hs] at hsp
              have HSP := Lib.hid hsp
              have HMI := Lib.hid (arcsK_miss ((n1 : Int) - 1) al m f t i HXX.out (fun h => h.1 hs))
              clear hsp hs hx p0 p1 p2 hsrc ha hb hsz hbi hb1 hi hin hlen hnf hnt
              go_wp2_with (fail)
              refine HSP.out.mono ?_
              rintro e w9 ⟨rfl, hb9⟩
              have HA9 := Lib.hid (HAI.out.below hb9)
              have HB9 := Lib.hid (HBI2.out.trans (hb9.mono (by have := HBI2.out.size; have := HBO.out; omega)))
              have HS9 := Lib.hid (show B ≤ w9.heap.size by have := hb9.size; have := HSI2.out; omega)
              clear hb9
              go_wp2_with (fail)
              go_roundw
              case rel => exact ⟨i + 1, _, by have := HIN.out; omega, by simp, by rw [HMI.out]; exact HA9.out, HB9.out, HS9.out⟩
              case measure => have := HIN.out; simp [intOf]; omega
             case neg =>
              rw [decide_eq_false hs] at hsp
              have HSP := Lib.hid hsp
              by_cases hh : nf = (f : Int) ∧ nt = (t : Int)
              case neg =>
               have HMI := Lib.hid (arcsK_miss ((n1 : Int) - 1) al m f t i HXX.out (fun h => hh ⟨by rw [← hnf]; exact h.2.1, by rw [← hnt]; exact h.2.2⟩))
               obtain ⟨e1, he1⟩ : ∃ z, (nf == (f : Int)) = z := ⟨_, rfl⟩
               obtain ⟨e2, he2⟩ : ∃ z, (nt == (t : Int)) = z := ⟨_, rfl⟩
               have he3 : (e1 && e2) = false := by
                rw [← he1, ← he2]
                cases hq : (nf == (f : Int)) && (nt == (t : Int)) with
                | false => rfl
                | true =>
                 rw [Bool.and_eq_true, beq_iff_eq, beq_iff_eq] at hq
                 exact absurd hq hh
               have HE3 := Lib.hid he3
               clear he3 hsp hs hx p0 p1 p2 hsrc ha hb hsz hbi hb1 hi hin hlen hnf hnt hh
               go_wp2_with (fail)
               refine HSP.out.mono ?_
               rintro e w9 ⟨rfl, hb9⟩
               have HA9 := Lib.hid (HAI.out.below hb9)
               have HB9 := Lib.hid (HBI2.out.trans (hb9.mono (by have := HBI2.out.size; have := HBO.out; omega)))
               have HS9 := Lib.hid (show B ≤ w9.heap.size by have := hb9.size; have := HSI2.out; omega)
               have hb1 : Below w1.heap.size w1 w9 := bstep HBW.out (by rw [HBO.out]; exact HB9.out)
               have k1 := (HX1.out.below hb1).k1
               have p0 := cell_keep hb1 HP0.out
               have p1 := cell_keep hb1 HP1.out
               have n0 := HA9.out.at HFFN.out
               have n1' := HA9.out.at HTTN.out
               rw [HNF.out] at n0
               rw [HNT.out] at n1'
               clear hb9 hb1
               cases e1
               case false =>
                clear he2
                go_wp2_with (fail)
                go_roundw
                case rel => exact ⟨i + 1, _, by have := HIN.out; omega, by simp, by rw [HMI.out]; exact HA9.out, HB9.out, HS9.out⟩
                case measure => have := HIN.out; simp [intOf]; omega
               case true =>
                obtain rfl : e2 = false := HE3.out
                go_wp2_with (fail)
                go_roundw
                case rel => exact ⟨i + 1, _, by have := HIN.out; omega, by simp, by rw [HMI.out]; exact HA9.out, HB9.out, HS9.out⟩
                case measure => have := HIN.out; simp [intOf]; omega
              case pos =>
               obtain ⟨rfl, rfl⟩ := hh
               have HHI := Lib.hid (arcsK_hit ((n1 : Int) - 1) al m f t i HXX.out hs hnf hnt)
               obtain ⟨m5, hm5⟩ : ∃ q, src.length = q := ⟨_, rfl⟩
               rw [hm5] at HP2
               have e1 : ((f : Int) == (f : Int)) = true := beq_self_eq_true _
               have e2 : ((t : Int) == (t : Int)) = true := beq_self_eq_true _
               have HM5 := Lib.hid hm5
               clear hsp hs hx p0 p1 p2 hsrc ha hb hsz hbi hb1 hi hin hlen hnf hnt hm5
               go_wp2_with (fail)
               refine HSP.out.mono ?_
               rintro e w9 ⟨rfl, hb9⟩
               have HA9 := Lib.hid (HAI.out.below hb9)
               have HB9 := Lib.hid (HBI2.out.trans (hb9.mono (by have := HBI2.out.size; have := HBO.out; omega)))
               have HS9 := Lib.hid (show B ≤ w9.heap.size by have := hb9.size; have := HSI2.out; omega)
               have hb1 : Below w1.heap.size w1 w9 := bstep HBW.out (by rw [HBO.out]; exact HB9.out)
               have HXW := Lib.hid (HX1.out.below hb1)
               have k1 := HXW.out.k1
               have p0 := cell_keep hb1 HP0.out
               have p1 := cell_keep hb1 HP1.out
               have HC2 := Lib.hid (cell_keep hb1 HP2.out)
               have HK1 := Lib.hid k1
               have n0 := HA9.out.at HFFN.out
               have n1' := HA9.out.at HTTN.out
               rw [HNF.out] at n0
               rw [HNT.out] at n1'
               clear hb9 hb1
               go_wp2_with (fail)
               clear k1 p0 p1 n0 n1' e1 e2
               have HBX9 := Lib.hid (HA9.out.box.below (bdrewN w9 1))
               obtain ⟨xs, hx4, hpush⟩ := A6.push (HA9.out.below (bdrewN w9 1)) HVB.out HBB.out (show B ≤ w9.drew.heap.size from HS9.out) (f := (f : Int)) (t := (t : Int)) (src := src) (a := a5) (c := k5) { fr := (show I64 (f : Int) by have := HFM.out; have := HM4.out; unfold I64; omega), to := (show I64 (t : Int) by have := HTM.out; have := HM4.out; unfold I64; omega), src := HSR.out.src } (tmp := .cells #[.int .i64 (f : Int), .int .i64 (t : Int), .slice a5 m5 k5] 48)
               rw [HM5.out] at hpush
               rw [HML.out] at hpush hx4
               have HROW := Lib.hid hx4
               have HPUSH := Lib.hid hpush
               have HNW := Lib.hid (show ∀ (j : Nat) (u : Value), [.int .i64 (f : Int), .int .i64 (t : Int), .slice a5 m5 k5][j]? = some u → (w9.drew.alloc (.cells #[.int .i64 (f : Int), .int .i64 (t : Int), .slice a5 m5 k5] 48)).cell? ((⟨w9.heap.size, 0, none⟩ : Addr).add j) = some u from World.news_of_block (cs := #[.int .i64 (f : Int), .int .i64 (t : Int), .slice a5 m5 k5]) (heap_fresh rfl))
               have hm4l : m4 ≤ 100000000000 := by rw [← HML.out]; exact HLN.out
               have hs9 := HS9.out
               clear hx4 hpush
               refine (wpIn_wide (n := 20)).1 ?_
               refine wpIn_region_planM (fun W' => BlkK W' bo #[.slice av m cv, .slice a4 m4 c4] 31 ∧ W'.cell? ⟨w.heap.size, 1, none⟩ = some (.slice (some ⟨b, off, none⟩) n2 c2) ∧ W'.cell? ⟨b, off + i * 3 + 2, none⟩ = some (.slice a5 m5 k5)) 12 (.take 0 <| .take 1 <| .take 2 <| .take 3 <| .take 4 <| .take 5 <| .take 6 <| .take 7 <| .take 8 <| .take 9 <| .take 10 <| .one 11 <| .one 12 <| .one 13 <| .one 14 <| .fin) (fun _ => trivial) (by kernel_rfl) (by kernel_rfl) (⟨HBX9.out, HK1.out, HC2.out⟩) ?_
               apply pm_take rfl rfl (by rfl)
               case hy =>
                rintro W' hb'
                clear hb'
                go_simp
                first | done | with_reducible rfl
               simp only [List.setIfInBounds_toArray, List.set_cons_zero, List.set_cons_succ]
               apply pm_take rfl rfl (by rfl)
               case hy =>
                rintro W' hb'
                have x0 := hb'.1.cell (i := 1) (u := .slice a4 m4 c4) rfl
                have x1 := hb'.2.1
                have x2 := hb'.2.2
                clear hb'
                go_simp
                first | done | with_reducible rfl
               simp only [List.setIfInBounds_toArray, List.set_cons_zero, List.set_cons_succ]
               iterate 3
                apply pm_take rfl rfl (by rfl)
                case hy =>
                 rintro W' hb'
                 clear hb'
                 go_simp
                 first | done | with_reducible rfl
                simp only [List.setIfInBounds_toArray, List.set_cons_zero, List.set_cons_succ]
               apply pm_take rfl rfl (by rfl)
               case hy =>
                rintro W' hb'
                have x0 := hb'.1.cell (i := 1) (u := .slice a4 m4 c4) rfl
                have x1 := hb'.2.1
                have x2 := hb'.2.2
                clear hb'
                go_simp
                first | done | with_reducible rfl
               simp only [List.setIfInBounds_toArray, List.set_cons_zero, List.set_cons_succ]
               iterate 3
                apply pm_take rfl rfl (by rfl)
                case hy =>
                 rintro W' hb'
                 clear hb'
                 go_simp
                 first | done | with_reducible rfl
                simp only [List.setIfInBounds_toArray, List.set_cons_zero, List.set_cons_succ]
               apply pm_take rfl rfl (by rfl)
               case hy =>
                rintro W' hb'
                have x0 := hb'.1.cell (i := 1) (u := .slice a4 m4 c4) rfl
                have x1 := hb'.2.1
                have x2 := hb'.2.2
                clear hb'
                go_simp
                first | done | with_reducible rfl
               simp only [List.setIfInBounds_toArray, List.set_cons_zero, List.set_cons_succ]
               apply pm_take rfl rfl (by rfl)
               case hy =>
                rintro W' hb'
                clear hb'
                go_simp
                first | done | with_reducible rfl
               simp only [List.setIfInBounds_toArray, List.set_cons_zero, List.set_cons_succ]
               refine pm_one rfl ?_
               gi_wp2_with (fail)
               refine ⟨fun _ => ⟨HBX9.out.allocK _, cell_keep (balloc w9.drew _) HK1.out, cell_keep (balloc w9.drew _) HC2.out⟩, ?_⟩
               refine pm_one rfl ?_
               refine wpListIn_append_own _ rfl _ _ 29 rfl B 48 i0 (.agg #[.int .i64 0, .int .i64 0, .slice none 0 0]) 3 40 Tryz.underlying29 hi0 hz0 hz1 hz2 rfl (by decide) _ _ _ rfl (HROW.out.alloc _) ⟨w9.heap.size, 0, none⟩ 1 1 [.int .i64 (f : Int), .int .i64 (t : Int), .slice a5 m5 k5] rfl rfl HNW.out (by simp [Value.oneCell']) (by unfold maxLen; omega) (by omega) (by simp; omega) ?_
               intro v' wA hown hgrow _
               obtain ⟨g1, cap1, rfl⟩ := ownsRow_succ hown
               obtain ⟨q1, q2, q3⟩ := HPUSH.out _ _ hown hgrow
               have HQ2 := Lib.hid q2
               have HQ3 := Lib.hid q3
               have cx := q1.cell (i := 1) (u := .slice a4 m4 c4) rfl
               have fx := q1.hard (i := 1)
               clear hown hgrow q1 q2 q3
               gi_wp2_with (fail)
               refine ⟨fun h => absurd h (by omega), ?_⟩
               iterate 2
                refine pm_one rfl ?_
                gi_wp2_with (fail)
                refine ⟨fun h => absurd h (by omega), ?_⟩
               refine pm_fin ?_
               gi_wp2_with (fail)
               go_wp2_with (fail)
               go_roundw
               case rel => exact ⟨i + 1, _, by have := HIN.out; omega, by simp, by rw [HHI.out]; exact HQ2.out, ((below_drew' HB9.out).trans (HQ3.out.mono (by have := HBB.out; omega))).setCell (p := ⟨bo, 1, none⟩) (Nat.le_refl _) _, Nat.le_trans HS9.out (show w9.drew.heap.size ≤ _ by rw [World.size_setCell]; exact HQ3.out.size)⟩
               case measure => have := HIN.out; simp [intOf]; omega
end Go.Proofs.YtjmebijckcimoaaGreatDoor
