import Derived.Test.YtngdmpkoedpgdaaGreatDoorU1
import Derived.Test.YtngdmpkoedpgdaaGreatDoorQ4
import Derived.Lib.SplitLaws
import Derived.Lib.AtoiAll
import Derived.RangeFuncWrites
import Derived.RangeFuncBox
import Derived.Lib.IndexLaws
import Derived.Test.YtngdmpkoedpgdaaGreatDoorU9
import Derived.Test.YtngdmpkoedpgdaaGreatDoorWo
import Derived.Test.YtngdmpkoedpgdaaGreatDoorFd
import Derived.Test.YtngdmpkoedpgdaaGreatDoorNb
import Derived.Test.YtngdmpkoedpgdaaGreatDoorU2

/-
  A region that draws its order: some operations are taken first, then the rest in one order; a store may come last.
-/

namespace Go.Ap
open Go Go.RowKit
section
variable {F : Fence} {P : Program} {ops : Array Oper} {md : Region.Mode} {S : World → Prop} {n : Nat} {Q : Exit → Act → World → Prop}
/-- whatever one of S waits for, directly and through others: those below k are looked at -/
def needL (md : Region.Mode) (ops : Array Oper) : List Nat → Nat → List Nat
  | S, 0 => S
  | S, k + 1 => needL md ops (if S.any (fun s => Region.waitsFor md ops s k) then k :: S else S) k
theorem needL_listed {m t : Nat} {listed : Array Bool} (inv : HeadInv md ops m listed) (ht : t ∈ Region.ready md ops listed) : ∀ (k : Nat) (L : List Nat), (∀ s ∈ L, s = t ∨ listed.getD s false = true) → ∀ s ∈ needL md ops L k, s = t ∨ listed.getD s false = true
  | 0, _, h => h
  | k + 1, L, h => by
    rw [needL]
    refine needL_listed inv ht k _ ?_
    split
    · rename_i hw
      intro s hs
      rcases List.mem_cons.1 hs with rfl | hs
      · obtain ⟨r, hr, hrw⟩ := List.any_eq_true.1 hw
        obtain ⟨o, ho, e, he, hb, hon⟩ := Region.waitsFor_spec hrw
        obtain ⟨_, ot, hot, hall⟩ := mem_ready.1 ht
        rcases h r hr with rfl | hl
        · rw [ho] at hot
          cases hot
          have := hall e he hb
          rw [hon] at this
          exact .inr this
        · have := inv.closed r o ho hl e he hb
          rw [hon] at this
          exact .inr this
      · exact h s hs
    · exact h
def gateRB2 (md : Region.Mode) (ops : Array Oper) (m : Nat) : Bool :=
  (List.range ops.size).all fun t => decide (t < m) || (List.range m).all fun i => (needL md ops [t] t).contains i
theorem gateR_of2 {m : Nat} (h : gateRB2 md ops m = true) : GateR md ops m := by
  intro listed inv i hi hun t ht hr
  obtain ⟨_, ot, hot, _⟩ := mem_ready.1 hr
  have h1 := List.all_eq_true.1 h t (List.mem_range.2 (Array.getElem?_eq_some_iff.1 hot).1)
  simp only [Bool.or_eq_true, decide_eq_true_eq] at h1
  rcases h1 with h1 | h1
  · omega
  · have h2 := List.all_eq_true.1 h1 i (List.mem_range.2 hi)
    rcases needL_listed inv hr t [t] (fun s hs => .inl (by simpa using hs)) i (by simpa using h2) with h3 | h3
    · omega
    · rw [getD_both hun] at h3; cases h3
/-- the look at the region -/
def heldB2 (ops : Array Oper) (m : Nat) (is : List Nat) : Bool :=
  Region.noSelect ops && noDefer ops && gateRB2 .any ops m && takesB .any ops m is (Array.replicate ops.size false)
/-- some operations first, whatever comes then -/
theorem wpIn_region_heldA {id : Nat} {a : Act} {w : World} (S : World → Prop) (m k : Nat) (is : List Nat) (listed : Array Bool) (hF : ∀ f, F.fn f) (hm : P.follows .mixedOrders = true) (hB : heldB2 ops m is = true)
    (hk : k + is.length = ops.size) (hl : listL is (Array.replicate ops.size false) = listed) (hS : S w.drew)
    (h : wpTakes P ops S (fun a' => wpAnyR F n P .any ops (NoPanic Q) S m k listed a' w.drew) is a) : (Code.region id ops true).wpIn F n P Q a w := by
  refine wpIn_mono (Q := NoPanic Q) ?_ NoPanic.imp
  simp only [heldB2, Bool.and_eq_true] at hB
  obtain ⟨⟨⟨h1, h2⟩, h4⟩, h5⟩ := hB
  refine wpIn_region_any hm (anyIn_of_R (S := S) (m := m) _ _ _ _ ?_)
  subst hl
  suffices H : wpAnyR F n P .any ops (NoPanic Q) S m (k + is.length) (Array.replicate ops.size false) a { w with drawn := w.drawn + 1 } by rwa [hk] at H
  exact wpAnyR_takes hF h1 h2 (gateR_of2 h4) (fun _ _ _ _ _ h => h.elim) (by exact hS) is _ a inv_start h5 h
/-- the rest is one order from here on -/
theorem wpAnyR_rest {m : Nat} (is : List Nat) {listed : Array Bool} {a : Act} {w : World} (hB : forcedB md ops is listed = true) (h : wpSeqR F n P ops Q S m is a w) : wpAnyR F n P md ops Q S m is.length listed a w := wpAnyR_seq is listed a w hB h
end
end Go.Ap

/-
  Texts and indexes: printing and parsing in plain words.
-/



namespace Go.Ap
open Go Go.RowKit
/-- cut at a byte -/
def cutAt (c : UInt8) : Str → List Str
  | [] => [[]]
  | b :: s => if b = c then [] :: cutAt c s else match cutAt c s with | [] => [[b]] | p :: r => (b :: p) :: r
theorem cutAt_ne (c : UInt8) : ∀ s : Str, cutAt c s ≠ []
  | [] => by simp [cutAt]
  | b :: s => by
    unfold cutAt
    split
    · simp
    · cases h : cutAt c s <;> simp
theorem cutAt_no {c : UInt8} : ∀ {a : Str}, c ∉ a → cutAt c a = [a]
  | [], _ => rfl
  | b :: s, h => by
    unfold cutAt
    rw [if_neg (fun e => h (by simp [e])), cutAt_no (fun e => h (List.mem_cons_of_mem _ e))]
theorem cutAt_app {c : UInt8} : ∀ {a t : Str}, c ∉ a → cutAt c (a ++ c :: t) = a :: cutAt c t
  | [], t, _ => by
    show cutAt c (c :: t) = _
    unfold cutAt
    rw [if_pos rfl]
    cases t <;> rfl
  | b :: s, t, h => by
    rw [List.cons_append]
    conv => lhs; unfold cutAt
    rw [if_neg (fun e => h (by simp [e])), cutAt_app (fun e => h (List.mem_cons_of_mem _ e))]
theorem split_cut (c : UInt8) : ∀ s : Str, Lib.split s [c] = cutAt c s
  | [] => by
    unfold Lib.split
    rw [Lib.count_one]
    rfl
  | b :: l => by
    have ih := split_cut c l
    unfold Lib.split at ih ⊢
    by_cases h : b = c
    · subst h
      rw [Lib.count_cons_eq, Nat.add_comm 1]
      have hix : Lib.index (b :: l) [b] = 0 := by rw [Lib.index]; simp [List.isPrefixOf]
      unfold Lib.splitK
      rw [hix]
      unfold cutAt
      rw [if_pos rfl, ← ih]
      simp
    · rw [Lib.count_cons_ne b c l h]
      have hp : ([c] : List UInt8).isPrefixOf (b :: l) = false := by simp [List.isPrefixOf, Ne.symm h]
      have hix : Lib.index (b :: l) [c] = if Lib.index l [c] == -1 then -1 else Lib.index l [c] + 1 := by rw [Lib.index, hp]; simp
      unfold cutAt
      rw [if_neg h, ← ih]
      cases hk : Lib.count l [c] with
      | zero => rfl
      | succ k =>
        have hne : Lib.index l [c] ≠ -1 := fun e => by rw [Lib.count_miss e] at hk; cases hk
        have hge := Lib.index_ge l [c]
        obtain ⟨i, hi⟩ : ∃ i : Nat, Lib.index l [c] = i := ⟨(Lib.index l [c]).toNat, by omega⟩
        unfold Lib.splitK
        rw [hix, hi, if_neg (by first | (simp; done) | (simp; omega)), if_neg (by first | (simp; done) | (simp; omega)), if_neg (by first | (simp; done) | (simp; omega))]
        simp only [List.length_cons, List.length_nil, Nat.add_zero, Int.toNat_natCast]
        rw [show ((i : Int) + 1).toNat = i + 1 by omega]
        rfl
/-- lines, each with its end -/
def linesL : Str → List Str
  | [] => []
  | b :: s => if b = 10 then [10] :: linesL s else match linesL s with | [] => [[b]] | p :: r => (b :: p) :: r
theorem linesL_nil {s : Str} (h : linesL s = []) : s = [] := by
  cases s with
  | nil => rfl
  | cons b s =>
    unfold linesL at h
    split at h
    · cases h
    · split at h <;> cases h
theorem linesL_app : ∀ {a t : Str}, (10 : UInt8) ∉ a → linesL (a ++ 10 :: t) = (a ++ [10]) :: linesL t
  | [], t, _ => by
    show linesL (10 :: t) = _
    conv => lhs; unfold linesL
    rw [if_pos rfl]
    rfl
  | b :: s, t, h => by
    rw [List.cons_append]
    conv => lhs; unfold linesL
    rw [if_neg (fun e => h (by simp [e])), linesL_app (fun e => h (List.mem_cons_of_mem _ e))]
    rfl
theorem linesL_no : ∀ {a : Str}, (10 : UInt8) ∉ a → a ≠ [] → linesL a = [a]
  | [], _, h => absurd rfl h
  | b :: s, h, _ => by
    unfold linesL
    rw [if_neg (fun e => h (by simp [e]))]
    cases hs : s with
    | nil => rfl
    | cons d r =>
      rw [linesL_no (fun e => h (List.mem_cons_of_mem _ (by rw [hs]; exact e))) (by simp)]
/-- without the end of the line -/
def trimNl (s : Str) : Str := if s.getLast? = some 10 then s.dropLast else s
theorem trimNl_app (a : Str) : trimNl (a ++ [10]) = a := by simp [trimNl]
def numsL : List Str → Option (List Int)
  | [] => some []
  | x :: r => match Lib.atoiAll x with
    | .ok n => (numsL r).map (n :: ·)
    | _ => none
/-- the posting of a line -/
def postL (s : Str) : Option Post :=
  match cutAt 32 (trimNl s) with
  | a :: b :: c :: r => (numsL (c :: r)).map fun l => ((a, b), l)
  | _ => none
def postsG : List Str → Option (List Post)
  | [] => some []
  | x :: r => match postL x with
    | some p => (postsG r).map (p :: ·)
    | none => none
/-- the index of a text -/
def parseS (s : Str) : Option (List Post) :=
  match postsG (linesL s) with
  | some l => if indexB l = true ∧ textS l = s then some l else none
  | none => none
theorem parseS_some {s : Str} {l : List Post} (h : parseS s = some l) : indexB l = true ∧ textS l = s := by
  unfold parseS at h
  split at h
  · split at h
    · cases h
      assumption
    · cases h
  · cases h
/-- numerals -/
theorem digit_ok {d acc : Nat} (hd : d < 10) (ha : acc < 100000000000000000) (r : List UInt8) : Lib.parseUint10 acc (UInt8.ofNat (48 + d) :: r) = Lib.parseUint10 (acc * 10 + d) r := by
  have e : (UInt8.ofNat (48 + d)).toNat = 48 + d := by
    rw [UInt8.toNat_ofNat']
    omega
  rw [Lib.parseUint10, e, if_pos (by omega), if_neg (by omega), if_neg (by omega)]
  congr 1
  omega
theorem parse_digits (u : Nat) (hu : u < 100000000000000000) : ∀ (r : List UInt8), Lib.parseUint10 0 (Lib.decDigits u ++ r) = Lib.parseUint10 u r := by
  induction u using Nat.strongRecOn with
  | _ u ih =>
    intro r
    rw [Lib.decDigits]
    split
    · rename_i h
      rw [List.singleton_append, digit_ok h (by omega)]
      congr 1
      omega
    · rename_i h
      rw [List.append_assoc, ih (u / 10) (by omega) (by omega), List.singleton_append, digit_ok (by omega) (by omega)]
      congr 1
      omega
theorem dec_digit (u : Nat) : ∀ c ∈ Lib.decDigits u, 48 ≤ c.toNat ∧ c.toNat ≤ 57 := by
  induction u using Nat.strongRecOn with
  | _ u ih =>
    intro c hc
    rw [Lib.decDigits] at hc
    split at hc
    · rename_i h
      rw [List.mem_singleton] at hc
      subst hc
      rw [UInt8.toNat_ofNat']
      omega
    · rename_i h
      rcases List.mem_append.1 hc with hc | hc
      · exact ih (u / 10) (by omega) c hc
      · rw [List.mem_singleton] at hc
        subst hc
        rw [UInt8.toNat_ofNat']
        omega
theorem dec_ne (u : Nat) : Lib.decDigits u ≠ [] := by
  rw [Lib.decDigits]
  split <;> simp
theorem atoi_itoa {n : Int} (h0 : 0 ≤ n) (h1 : n < 100000000000000000) : Lib.atoiAll (Lib.itoa n) = .ok n := by
  unfold Lib.itoa
  rw [if_neg (by omega)]
  obtain ⟨c, r, hcr⟩ := List.exists_cons_of_ne_nil (dec_ne n.toNat)
  have hd := dec_digit n.toNat c (by rw [hcr]; simp)
  have hp := parse_digits n.toNat (by omega) []
  rw [List.append_nil, hcr] at hp
  have hq : Lib.parseUint10 n.toNat [] = .ok n.toNat := rfl
  rw [hq] at hp
  rw [hcr]
  unfold Lib.atoiAll
  have e1 : (if c.toNat = 43 ∨ c.toNat = 45 then r else c :: r) = c :: r := if_neg (by omega)
  have e2 : (c.toNat = 45) = False := eq_false (by omega)
  have e3 : Lib.parseMag (c :: r) = .ok n.toNat := by
    unfold Lib.parseMag
    rw [if_neg (by simp), hp]
  simp only [e1, e3]
  simp only [e2, not_false_eq_true, true_and, false_and, if_false]
  rw [if_neg (by omega)]
  congr 1
  omega
theorem wk_no {c : UInt8} (h : wk c ≤ 4) (h1 : wk c ≠ 0) : c ≠ 32 ∧ c ≠ 10 := by
  constructor
  · rintro rfl
    revert h
    decide
  · rintro rfl
    revert h1
    decide
theorem let_no {c : UInt8} (h : letB c = true) : c ≠ 32 ∧ c ≠ 10 := by
  constructor
  · rintro rfl
    revert h
    decide
  · rintro rfl
    revert h
    decide
theorem name_no {s : Str} (h : nameB s = true) : (32 : UInt8) ∉ s ∧ (10 : UInt8) ∉ s := by
  unfold nameB at h
  simp only [Bool.and_eq_true, List.all_eq_true] at h
  exact ⟨fun h1 => (let_no (h.2 _ h1)).1 rfl, fun h1 => (let_no (h.2 _ h1)).2 rfl⟩
theorem marks_wk : ∀ {s : Str} {b : Bool}, marksB b s = true → ∀ c ∈ s, wk c ≠ 0
  | [], _, _, c, hc => by cases hc
  | d :: s, b, h, c, hc => by
    unfold marksB at h
    simp only [Bool.and_eq_true, decide_eq_true_eq] at h
    rcases List.mem_cons.1 hc with rfl | hc
    · exact h.1.1
    · exact marks_wk h.2 c hc
theorem word_no {s : Str} (h : isWordB s = true) : (32 : UInt8) ∉ s ∧ (10 : UInt8) ∉ s := by
  unfold isWordB at h
  simp only [Bool.and_eq_true, List.all_eq_true, decide_eq_true_eq] at h
  exact ⟨fun h1 => (wk_no (h.2 _ h1) (marks_wk h.1.1.2 _ h1)).1 rfl, fun h1 => (wk_no (h.2 _ h1) (marks_wk h.1.1.2 _ h1)).2 rfl⟩
theorem itoa_no {n : Int} (h0 : 0 ≤ n) : (32 : UInt8) ∉ Lib.itoa n ∧ (10 : UInt8) ∉ Lib.itoa n := by
  unfold Lib.itoa
  rw [if_neg (by omega)]
  constructor
  · intro h
    have := dec_digit _ _ h
    revert this
    decide
  · intro h
    have := dec_digit _ _ h
    revert this
    decide
theorem cut_lines : ∀ {x : Str} {l : List Int}, (32 : UInt8) ∉ x → (∀ n ∈ l, 0 ≤ n) → cutAt 32 (x ++ l.flatMap lineT) = x :: l.map Lib.itoa
  | x, [], hx, _ => by
    rw [List.flatMap_nil, List.append_nil, cutAt_no hx]
    rfl
  | x, n :: l, hx, h => by
    have h1 := h n (List.mem_cons_self ..)
    rw [List.flatMap_cons]
    unfold lineT
    rw [List.cons_append, cutAt_app hx]
    have ih := cut_lines (x := Lib.itoa n) (l := l) (itoa_no h1).1 fun m hm => h m (List.mem_cons_of_mem _ hm)
    unfold lineT at ih
    rw [ih]
    rfl
theorem nums_itoa : ∀ {l : List Int}, (∀ n ∈ l, 0 ≤ n ∧ n < 100000000000000000) → numsL (l.map Lib.itoa) = some l
  | [], _ => rfl
  | n :: l, h => by
    have h1 := h n (List.mem_cons_self ..)
    rw [List.map_cons]
    unfold numsL
    rw [atoi_itoa h1.1 h1.2, nums_itoa fun m hm => h m (List.mem_cons_of_mem _ hm)]
    rfl
/-- the text of a valid posting: one line, of this posting -/
theorem lines_no {l : List Int} (h : ∀ n ∈ l, 0 ≤ n) : (10 : UInt8) ∉ l.flatMap lineT := fun hm => by
  obtain ⟨n, hn, hc⟩ := List.mem_flatMap.1 hm
  unfold lineT at hc
  rcases List.mem_cons.1 hc with hc | hc
  · cases hc
  · exact (itoa_no (h n hn)).2 hc
theorem postT_line {p : Post} (h : validB p = true) : ∃ a, postT p = a ++ [10] ∧ (10 : UInt8) ∉ a ∧ postL (postT p) = some p := by
  obtain ⟨h1, h2, h3, h4⟩ := validB_parts h
  obtain ⟨⟨w, s⟩, l⟩ := p
  simp only at h1 h2 h3 h4
  have hw := word_no h1
  have hs := name_no h2
  have hl := lines_no (l := l) fun n hn => by have := h4 n hn; omega
  have hne : l ≠ [] := fun e => by
    unfold validB at h
    rw [e] at h
    simp at h
  refine ⟨w ++ 32 :: s ++ l.flatMap lineT, rfl, ?_, ?_⟩
  · intro hm
    rcases List.mem_append.1 hm with hm | hm
    · rcases List.mem_append.1 hm with hm | hm
      · exact hw.2 hm
      · rcases List.mem_cons.1 hm with hm | hm
        · cases hm
        · exact hs.2 hm
    · exact hl hm
  · unfold postL
    show (match cutAt 32 (trimNl (w ++ 32 :: s ++ l.flatMap lineT ++ [10])) with | a :: b :: c :: r => (numsL (c :: r)).map fun l => ((a, b), l) | _ => none) = _
    rw [trimNl_app, List.append_assoc, List.cons_append, cutAt_app hw.1, cut_lines hs.1 (fun n hn => by have := h4 n hn; omega)]
    obtain ⟨n, r, rfl⟩ := List.exists_cons_of_ne_nil hne
    have hnum := nums_itoa (l := n :: r) fun m hm => by have := h4 m hm; omega
    rw [List.map_cons] at hnum ⊢
    simp only
    rw [hnum]
    rfl
theorem posts_text : ∀ {l : List Post}, (∀ p ∈ l, validB p = true) → postsG (linesL (textS l)) = some l
  | [], _ => rfl
  | p :: r, h => by
    obtain ⟨a, h1, h2, h3⟩ := postT_line (h p (List.mem_cons_self ..))
    have ih := posts_text fun q hq => h q (List.mem_cons_of_mem _ hq)
    have e : textS (p :: r) = a ++ 10 :: textS r := by
      unfold textS
      rw [List.flatMap_cons, h1, List.append_assoc]
      rfl
    rw [e, linesL_app h2, ← h1]
    unfold postsG
    rw [h3, ih]
    rfl
/-- parsing what is printed -/
theorem parse_text {l : List Post} (h : indexB l = true) : parseS (textS l) = some l := by
  unfold parseS
  rw [posts_text (indexB_valid h).2]
  simp [h]
/-- how many lines -/
theorem text_count {l : List Post} (h : ∀ p ∈ l, validB p = true) : (textS l).count 10 = l.length := by
  induction l with
  | nil => rfl
  | cons p r ih =>
    obtain ⟨a, h1, h2, _⟩ := postT_line (h p (List.mem_cons_self ..))
    unfold textS at ih ⊢
    rw [List.flatMap_cons, List.count_append, ih fun q hq => h q (List.mem_cons_of_mem _ hq), h1, List.count_append, List.count_eq_zero_of_not_mem h2, List.length_cons]
    simp
    omega
end Go.Ap

/-
  A range over a function that also writes a variable of its own (a box that lay ahead of the loop).
-/



namespace Go.Ap
open Go Go.RowKit
section
variable {α : Type} {F : Fence} {n : Nat} {P : Program}
/-- what is asked of the function: it may do what St says beside its yields -/
def SeqWrites (F : Fence) (n : Nat) (P : Program) (g : Nat) (lb : Array Value) (encs : α → Array Value) (Kp St : World → World → Prop) (S Sp : List α → Prop) (N : Nat) (w : World) : Prop :=
  ∀ (l : Nat) (J Jx : List α → World → Prop) (W : World), Below w.heap.size w W → AbidesFrom W.heap.size J → AbidesFrom W.heap.size Jx → (∀ pre A B, J pre A → St A B → J pre B) → Kp w W →
    (∀ pre x W1, J pre W1 → pre.length < N → YieldAt F (n - 1) P l (encs x) W1 fun e W' =>
      (e = .returned (.bool true) ∧ J (pre ++ [x]) W' ∧ Kp W1 W') ∨ (e = .returned (.bool false) ∧ Jx (pre ++ [x]) W')) →
    J [] W →
    CallsIn F n P g (#[.func (.yield l) #[] #[]] ++ lb) W fun e W' => (∃ v, e = .returned v) ∧ ((∃ xs, S xs ∧ J xs W') ∨ (∃ pre, Sp pre ∧ Jx pre W'))
/-- the body's end: the next round, or the function's return -/
def endsOr (B : Nat) (Kp : World → World → Prop) (I Ix : List α → World → Prop) (xs : List α) (W : World) : Exit → Act → World → Prop
  | .normal, _, W' => KeepsFrom B W W' ∧ Kp W W' ∧ I xs W'
  | .ret, _, W' => KeepsFrom B W W' ∧ Ix xs W'
  | .exit _, _, _ => False
  | .goto _, _, _ => False
  | .panic _, _, _ => False
  | .outgrown, _, _ => False
theorem wpIn_rangeFunc_writes {g : Operand} {ps : Array Tmp} {assign body : Code} {Q : Exit → Act → World → Prop} {a : Act} {w : World}
    (hro : F.round = none) (h1 : 1 ≤ n) {gf : Nat} {lb : Array Value} (hg : a.eval g = .func (.func gf) #[] lb) (hFg : F.fn gf) (eg : ∀ args w, (callFunc gf args).run P w = .ok (.enter gf args) w)
    {encs : α → Array Value} {Kp St : World → World → Prop} {S Sp : List α → Prop} {N : Nat} (hseq : SeqWrites F (n - 1) P gf lb encs Kp St S Sp N w)
    (hKt : ∀ {A B C : World}, Kp A B → Kp B C → Kp A C) (hKb : ∀ (W : World) (l : Nat) (o o' : Obj), w.heap.size ≤ l → W.heap[l]? = some o → o.isCells = false → o.isWalk = false → Kp W (W.putObj l o')) (hKa : ∀ (W : World) (o : Obj), w.heap.size ≤ W.heap.size → Kp W (W.alloc o)) (hps : ∀ x, (encs x).size = ps.size)
    (I Ix : List α → World → Prop) (hI : OwnFrom w.heap.size I) (hIx : OwnFrom w.heap.size Ix) (hSt : ∀ pre A B, I pre A → St A B → I pre B) (hSk : ∀ A B k o, St A B → w.heap.size ≤ k → A.heap[k]? = some o → o.isCells = false → B.heap[k]? = some o) (h0 : I [] w) (a₁ : α → Act)
    (hassign : ∀ (l : Nat) (x : α) (W : World) (K : Act → World → Prop), K (a₁ x) W →
      assign.wpIn (F.inRound l) (n - 1 - 1) P (Exit.then K (fun _ _ _ => False)) { tmps := (ps.zip (encs x)).foldl (fun t (p, v) => t.setIfInBounds p v) a.tmps, defers := [] } W)
    (hbody : ∀ (l : Nat) (pre : List α) (x : α) (W : World), I pre W → pre.length < N → body.wpIn (F.inRound l) (n - 1 - 1) P (endsOr w.heap.size Kp I Ix (pre ++ [x]) W) (a₁ x) W)
    (hdone : ∀ (D : Nat) (xs : List α) (W : World), w.heap.size ≤ D → S xs → I xs W → W.heap[D]? = some (.deferred (some [])) → Q .normal { a with defers := { target := .collected D, args := #[] } :: a.defers } W)
    (hstop : ∀ (D : Nat) (pre : List α) (W : World), w.heap.size ≤ D → Sp pre → Ix pre W → W.heap[D]? = some (.deferred (some [])) → Code.ret.wpIn F n P Q { a with defers := { target := .collected D, args := #[] } :: a.defers } W) :
    (Code.rangeFunc g ps assign body).wpIn F n P Q a w := by
  refine wpIn_rangeFunc fun fn hfn => ?_
  rw [hro]
  obtain ⟨D, hD⟩ : ∃ D, D = w.heap.size := ⟨_, rfl⟩
  obtain ⟨rec, hrec⟩ : ∃ rec : LoopState → Option Code → Loop, rec = fun st pe => { state := st, pending := pe, fn, tmps := a.tmps, params := ps, assign, body, defers := w.heap.size } := ⟨_, rfl⟩
  obtain ⟨V, hV⟩ : ∃ V, (w.alloc (.deferred (some []))).alloc (.loop (rec .ready none)) = V := ⟨_, rfl⟩
  have hVl : V.heap[D + 1]? = some (.loop (rec .ready none)) := by
    rw [← hV]
    have := World.alloc_heap_new (w.alloc (.deferred (some []))) (.loop (rec .ready none))
    rw [World.size_alloc] at this
    rwa [hD]
  have hVd : V.heap[D]? = some (.deferred (some [])) := by
    rw [← hV, hD]
    exact (Below.heap_alloc _ _ _ (by simp)).trans (World.alloc_heap_new w _)
  have hVs : V.heap.size = D + 2 := by rw [← hV, World.size_alloc, World.size_alloc, hD]
  have hVI : I [] V := by rw [← hV]; exact hI.alloc _ (hI.alloc _ h0)
  have hVb : Below w.heap.size w V := by
    rw [← hV]
    exact ((Below.refl _ w).alloc (Nat.le_refl _) _).alloc (by simp) _
  have hVk : Kp w V := by
    rw [← hV]
    exact hKt (hKa w _ (Nat.le_refl _)) (hKa _ _ (by simp))
  have cells : ∀ {A : World} {row : Option Nat}, (∀ r, row = some r → V.heap.size ≤ r ∧ ∃ o : Obj, A.heap[r]? = some o ∧ o.isWalk = true) → ∀ r, row = some r → w.heap.size ≤ r ∧ ∃ o : Obj, A.heap[r]? = some o ∧ o.isCells = false := fun hr r e => by
    obtain ⟨g1, o, g2, g3⟩ := hr r e
    exact ⟨by omega, o, g2, Obj.not_cells_of_walk g3⟩
  have HC := hseq (D + 1) (fun pre W => I pre W ∧ W.heap[D + 1]? = some (.loop (rec .ready none)) ∧ W.heap[D]? = some (.deferred (some [])))
    (fun pre W => Ix pre W ∧ W.heap[D + 1]? = some (.loop (rec .done (some .ret))) ∧ W.heap[D]? = some (.deferred (some []))) V hVb
    (fun s A B row hs hgr hr => ⟨hI s A B row hs.1 hgr (cells hr), (grownBy_keeps hgr (fun r e => (hr r e).2) hs.2.1 rfl).trans hs.2.1, (grownBy_keeps hgr (fun r e => (hr r e).2) hs.2.2 rfl).trans hs.2.2⟩)
    (fun s A B row hs hgr hr => ⟨hIx s A B row hs.1 hgr (cells hr), (grownBy_keeps hgr (fun r e => (hr r e).2) hs.2.1 rfl).trans hs.2.1, (grownBy_keeps hgr (fun r e => (hr r e).2) hs.2.2 rfl).trans hs.2.2⟩)
    (fun pre A B hs hst => ⟨hSt pre A B hs.1 hst, hSk A B _ _ hst (by omega) hs.2.1 rfl, hSk A B _ _ hst (by omega) hs.2.2 rfl⟩) hVk
    (fun pre x W ⟨hi, hl, hd⟩ hlen => by
      have hlt : D + 1 < W.heap.size := (Array.getElem?_eq_some_iff.1 hl).1
      have hy := run_yield (P := P) (args := encs x) hl (by rw [hrec]; exact hps x)
      rw [hrec] at hy
      refine ⟨fn, _, assign, body, hy, roundIn_of_wpIn hfn (hassign _ x W _ ⟨_, run_beginRound hl (by rw [hrec]), ?_⟩)⟩
      obtain ⟨U, hU⟩ : ∃ U, W.putObj (D + 1) (.loop { rec .ready none with state := .busy }) = U := ⟨_, rfl⟩
      have hUl : U.heap[D + 1]? = some (.loop { rec .ready none with state := .busy }) := by rw [← hU]; exact World.putObj_heap_same hlt
      have hUd : U.heap[D]? = some (.deferred (some [])) := by rw [← hU]; exact (World.putObj_heap_other (by omega)).trans hd
      have hUk : Kp W U := by rw [← hU]; exact hKb _ _ _ _ (by omega) hl rfl rfl
      have hUI : I pre U := by rw [← hU]; exact hI.putObj _ hi (by omega) hl rfl
      show body.wpIn _ _ P _ _ (W.putObj (D + 1) (.loop { rec .ready none with state := .busy }))
      rw [hU]
      refine wpIn_mono (hbody _ pre x U hUI hlen) ?_
      rintro e a3 W3 hp
      cases e with
      | normal =>
        obtain ⟨hk3, hkp3, hi3⟩ := hp
        have hl3 := hk3.same _ _ (by omega) hUl rfl
        have hd3 := hk3.same _ _ (Nat.le_of_eq hD.symm) hUd rfl
        have hr := run_endRound (P := P) none hl3
        have hs3 := (Array.getElem?_eq_some_iff.1 hl3).1
        have hst : ({ ({ rec .ready none with state := .busy } : Loop) with state := .ready, pending := none } : Loop) = rec .ready none := by rw [hrec]
        refine ⟨_, _, hr, .inl ⟨rfl, ⟨hI.putObj _ hi3 (by omega) hl3 rfl, ?_, (World.putObj_heap_other (by omega)).trans hd3⟩, hKt (hKt hUk hkp3) (hKb _ _ _ _ (by omega) hl3 rfl rfl)⟩⟩
        rw [World.putObj_heap_same hs3]
        exact congrArg (fun z => some (Obj.loop z)) hst
      | ret =>
        obtain ⟨hk3, hi3⟩ := hp
        have hl3 := hk3.same _ _ (by omega) hUl rfl
        have hd3 := hk3.same _ _ (Nat.le_of_eq hD.symm) hUd rfl
        have hr := run_endRound (P := P) (some .ret) hl3
        have hs3 := (Array.getElem?_eq_some_iff.1 hl3).1
        have hst : ({ ({ rec .ready none with state := .busy } : Loop) with state := .done, pending := some .ret } : Loop) = rec .done (some .ret) := by rw [hrec]
        refine ⟨_, _, hr, .inr ⟨rfl, hIx.putObj _ hi3 (by omega) hl3 rfl, ?_, (World.putObj_heap_other (by omega)).trans hd3⟩⟩
        rw [World.putObj_heap_same hs3]
        exact congrArg (fun z => some (Obj.loop z)) hst
      | exit id => exact hp.elim
      | goto t => exact hp.elim
      | panic c => exact hp.elim
      | outgrown => exact hp.elim)
    ⟨hVI, hVl, hVd⟩
  refine ⟨D + 1, [{ target := .collected D, args := #[] }], V, { target := .fn (.func gf) lb, args := #[.func (.yield (D + 1)) #[] #[]] }, V, gf, #[.func (.yield (D + 1)) #[] #[]] ++ lb, V, ?_, ?_, ?_, ?_, fun _ => h1, ?_⟩
  · rw [← hV, hrec, hD]; exact run_enterLoop_outer _ _ _ _ _
  · simp only [resolve, hg]
    simp [go_sem]
  · intro f' hf'
    simp [Target.leads] at hf'
    subst hf'
    exact hFg
  · simp [invoke, go_sem, eg]
  · refine HC.mono ?_
    rintro e W2 ⟨⟨v, rfl⟩, (⟨xs, hS, hi, hl, hd⟩ | ⟨pre, hS, hi, hl, hd⟩)⟩
    · have hend := run_endLoop (P := P) hl (by rw [hrec]; simp)
      rw [hrec] at hend
      exact ⟨none, _, hend, hdone _ xs _ (Nat.le_of_eq hD.symm) hS (hI.putObj _ hi (by omega) hl rfl) ((World.putObj_heap_other (by omega)).trans hd)⟩
    · have hend := run_endLoop (P := P) hl (by rw [hrec]; simp)
      rw [hrec] at hend
      exact ⟨some .ret, _, hend, hstop _ pre _ (Nat.le_of_eq hD.symm) hS (hIx.putObj _ hi (by omega) hl rfl) ((World.putObj_heap_other (by omega)).trans hd)⟩
end
end Go.Ap

/-
  strings.Lines and the function that it gives: the lines of a string, one after the other.
-/




namespace Go.Ap
open Go Go.RowKit
/-- the box of the string that is left is kept -/
def KpB (t : TypeId) (Bx : Nat) (A B : World) : Prop := A.heap.size ≤ B.heap.size ∧ ∀ v, Boxed A Bx t v → Boxed B Bx t v
def StB (t : TypeId) (Bx : Nat) (A B : World) : Prop := ∃ v u, B = A.setCell ⟨Bx, 0, none⟩ v ∧ Boxed A Bx t u
theorem KpB.trans {t : TypeId} {Bx : Nat} {A B C : World} (h : KpB t Bx A B) (k : KpB t Bx B C) : KpB t Bx A C := ⟨Nat.le_trans h.1 k.1, fun v hv => k.2 v (h.2 v hv)⟩
/-- where the next line ends -/
theorem index10 (s : Str) : (Lib.indexByte s 10 = -1 ∧ (10 : UInt8) ∉ s) ∨ ∃ a t, s = a ++ 10 :: t ∧ (10 : UInt8) ∉ a ∧ Lib.indexByte s 10 = (a.length : Nat) := by
  induction s with
  | nil => exact .inl ⟨rfl, by simp⟩
  | cons b l ih =>
    by_cases hb : b = 10
    · subst hb
      exact .inr ⟨[], l, rfl, by simp, by simp [Lib.indexByte]⟩
    · have h1 : Lib.indexByte (b :: l) 10 = if Lib.indexByte l 10 == -1 then -1 else Lib.indexByte l 10 + 1 := by
        rw [Lib.indexByte, if_neg (by simpa using hb)]
      rcases ih with ⟨h2, h3⟩ | ⟨a, t, h2, h3, h4⟩
      · refine .inl ⟨by rw [h1, h2]; rfl, ?_⟩
        rw [List.mem_cons]
        rintro (e | e)
        · exact hb e.symm
        · exact h3 e
      · refine .inr ⟨b :: a, t, by rw [h2]; rfl, ?_, ?_⟩
        · rw [List.mem_cons]
          rintro (e | e)
          · exact hb e.symm
          · exact h3 e
        · rw [h1, h4, if_neg (by rw [beq_iff_eq]; omega), List.length_cons]
          omega
theorem linesL_flat (s : Str) : (linesL s).flatten = s := by
  induction s with
  | nil => rfl
  | cons b s ih =>
    unfold linesL
    split
    · rename_i hb
      rw [List.flatten_cons, ih, hb]
      rfl
    · cases hs : linesL s with
      | nil => rw [linesL_nil hs]; rfl
      | cons p r =>
        rw [hs, List.flatten_cons] at ih
        simp only
        rw [List.flatten_cons, List.cons_append, ih]
theorem mem_flat_len {α : Type} {x : List α} : ∀ {L : List (List α)}, x ∈ L → x.length ≤ L.flatten.length
  | y :: L, h => by
    rw [List.flatten_cons, List.length_append]
    rcases List.mem_cons.1 h with rfl | h
    · omega
    · have := mem_flat_len h
      omega
theorem linesL_mem {s x : Str} (h : x ∈ linesL s) : x.length ≤ s.length := by
  have := mem_flat_len h
  rw [linesL_flat] at this
  exact this
/-- how much is left -/
def boxLen (Bx : Nat) (w : World) : Nat := match w.cell? ⟨Bx, 0, none⟩ with | some (.string s) => s.size | _ => 0
theorem boxLen_of {t : TypeId} {Bx : Nat} {w : World} {s : Str} (h : Boxed w Bx t (.string (bs s))) : boxLen Bx w = s.length := by
  unfold boxLen
  rw [h.cell]
  exact bs_size
def AnsL {α : Type} (J Jx : List α → World → Prop) (t : TypeId) (Bx : Nat) (pre : List α) (x : α) (W : World) (b : Bool) (W' : World) : Prop := (b = true ∧ J (pre ++ [x]) W' ∧ KpB t Bx W W') ∨ (b = false ∧ Jx (pre ++ [x]) W')
end Go.Ap
namespace Go.Proofs.YtngdmpkoedpgdaaGreatDoor
open Go.RowKit Go.Ap Go.Shelf Go.Proofs

attribute [local go_sem] Oper.semAt_some bs_toList empty_toList bs_size bs_extract
set_option maxRecDepth 100000 in
set_option maxHeartbeats 8000000 in
theorem lines_it (s : Str) (m : Nat) (hm : 1 ≤ m) (w : World) (Bx : Nat) (hs : s.length ≤ 65536) (hbx : Boxed w Bx 9 (.string (bs s))) :
    SeqWrites Fence.wide m Tryz.prog 157 #[.pointer (some ⟨Bx, 0, none⟩)] (fun x : {x : Str // x ∈ linesL s} => #[Value.string (bs x.1)]) (KpB 9 Bx) (StB 9 Bx) (fun ys => ys.map (·.1) = linesL s) (fun ys => ys.map (·.1) <+: linesL s) (linesL s).length w := by
  intro l J Jx W hW hJ hJx hSt hKp hY h0
  have HJ := Lib.hid hJ
  have HST := Lib.hid hSt
  have HS := Lib.hid hs
  have HBX0 := Lib.hid (hKp.2 _ hbx)
  have HH0 := Lib.hid h0
  have HY := Lib.hid (show ∀ pre (x : {x : Str // x ∈ linesL s}) W, J pre W → pre.length < (linesL s).length → YieldAt Fence.wide (m - 1) Tryz.prog l #[.string (bs x.1)] W fun en W' => ∃ b, en = .returned (.bool b) ∧ AnsL J Jx 9 Bx pre x W b W' from fun pre x W h1 h2 => (hY pre x W h1 h2).mono fun en W' h => by
    rcases h with ⟨h, h3⟩ | ⟨h, h3⟩
    · exact ⟨true, h, .inl ⟨rfl, h3⟩⟩
    · exact ⟨false, h, .inr ⟨rfl, h3⟩⟩)
  clear hY hJ hSt hKp h0 hbx hJx hs
  refine callsIn_of_wp Tryz.func157 rfl trivial ?_ rfl
  simp only [Tryz.ntmps157, List.size_toArray, List.length_cons, List.length_nil, Nat.reduceAdd, Nat.reduceSub, Array.replicate_succ, Array.replicate_zero, List.push_toArray, List.append_toArray, List.nil_append, List.cons_append]
  gi_wp2
  gi_loopw [3] (fun _ wr => ∃ (pre : List {x : Str // x ∈ linesL s}) (rest : Str), pre.map (·.1) ++ linesL rest = linesL s ∧ J pre wr ∧ Boxed wr Bx 9 (.string (bs rest))) (fun _ wr => boxLen Bx wr)
  case atStart => exact ⟨[], s, rfl, HH0.out, HBX0.out⟩
  case round =>
    obtain ⟨wo, rfl⟩ : ∃ wo : World, wo = wr := ⟨_, rfl⟩
    obtain ⟨pre, rest, hpre, hJp, hbx⟩ := hrel
    have HPRE := Lib.hid hpre
    have HJP := Lib.hid hJp
    have HBX := Lib.hid hbx
    have HLEN := Lib.hid (boxLen_of hbx)
    have g0 := hbx.cell
    have gf := hbx.frozen
    clear hpre hJp hbx
    by_cases hr0 : rest = []
    · subst hr0
      have HZ := Lib.hid (show pre.map (·.1) = linesL s by have := HPRE.out; simpa [linesL] using this)
      gi_wp2_with (fail)
      go_end0
      exact ⟨⟨_, rfl⟩, .inl ⟨pre, HZ.out, HJP.out⟩⟩
    · have hrl : 0 < rest.length := List.length_pos_iff.2 hr0
      have d0 : decide ((0 : Int) < (rest.length : Int)) = true := decide_eq_true (by omega)
      have d0' : decide (0 < rest.length) = true := decide_eq_true hrl
      have HRL := Lib.hid hrl
      have hrs : rest.length ≤ 65536 := by
        have key := congrArg List.flatten HPRE.out
        rw [List.flatten_append, linesL_flat, linesL_flat] at key
        have := congrArg List.length key
        rw [List.length_append] at this
        have := HS.out
        omega
      have HPL := Lib.hid (show pre.length < (linesL s).length by
        have hh := congrArg List.length HPRE.out
        rw [List.length_append, List.length_map] at hh
        have : linesL rest ≠ [] := fun e => hr0 (linesL_nil e)
        have := List.length_pos_iff.2 this
        omega)
      have HI := Lib.hid (Tryz.strings_IndexByte (bs rest) 10 wo)
      rw [show (bs rest).data.toList = rest by simp [bs]] at HI
      rcases index10 rest with ⟨h1, h2⟩ | ⟨a, t, h1, h2, h3⟩
      · rw [show Lib.indexByte rest (Int.toNat 10).toUInt8 = -1 from h1] at HI
        have HLR := Lib.hid (linesL_no h2 hr0)
        have HMEM := Lib.hid (show rest ∈ linesL s from HPRE.out ▸ (by rw [HLR.out]; simp))
        have HB4 := Lib.hid (show Boxed (wo.setCell ⟨Bx, 0, none⟩ (.string { data := #[] })) Bx 9 (.string (bs [])) from HBX.out.set (.string { data := #[] }))
        have HJ4 := Lib.hid (HST.out pre wo (wo.setCell ⟨Bx, 0, none⟩ (.string { data := #[] })) HJP.out ⟨_, _, rfl, HBX.out⟩)
        have HNEXT := Lib.hid (show pre.map (·.1) ++ ([(⟨rest, HMEM.out⟩ : {x : Str // x ∈ linesL s})].map (·.1) ++ linesL []) = linesL s by have := HPRE.out; rw [HLR.out] at this; simpa [linesL] using this)
        clear h1 h2 hr0 hrl hrs
        gi_wp2_with (fail)
        refine ⟨trivial, (callsIn_wide.2 HI.out).mono ?_⟩
        rintro e2 w1 ⟨rfl, rfl⟩
        clear HI
        obtain ⟨fn, tmps, assign, body, hy, hR⟩ := HY.out pre ⟨rest, HMEM.out⟩ _ HJ4.out HPL.out
        gi_wp2_with (refine hR.mono ?_; rintro en W5 ⟨ans, rfl, hans⟩)
        all_goals clear hy hR
        all_goals have HANS := Lib.hid hans
        all_goals clear hans
        all_goals rcases HANS.out with ⟨rfl, hJ3, hk3⟩ | ⟨rfl, hJx3⟩
        all_goals clear HANS
        all_goals first
          | (exfalso; simp_all; done)
          | exact ⟨⟨pre ++ [⟨rest, HMEM.out⟩], [], by rw [List.map_append, List.append_assoc]; exact HNEXT.out, hJ3, hk3.2 _ HB4.out⟩, by rw [boxLen_of (hk3.2 _ HB4.out), HLEN.out]; exact HRL.out⟩
          | exact bodyPost_ret (results_none rfl _ _ _) rfl ⟨⟨_, rfl⟩, .inr ⟨_, ⟨linesL [], by rw [List.map_append, List.append_assoc]; exact HNEXT.out⟩, hJx3⟩⟩
      · rw [show Lib.indexByte rest (Int.toNat 10).toUInt8 = (a.length : Nat) from h3] at HI
        obtain ⟨n, hn⟩ : ∃ n, a.length = n := ⟨_, rfl⟩
        rw [hn] at HI
        have HLR := Lib.hid (show linesL rest = (a ++ [10]) :: linesL t by rw [h1]; exact linesL_app h2)
        have HMEM := Lib.hid (show a ++ [10] ∈ linesL s from HPRE.out ▸ (by rw [HLR.out]; simp))
        have HNEXT := Lib.hid (show pre.map (·.1) ++ ([(⟨a ++ [10], HMEM.out⟩ : {x : Str // x ∈ linesL s})].map (·.1) ++ linesL t) = linesL s by have := HPRE.out; rw [HLR.out] at this; simpa using this)
        have hlt : n + 1 ≤ rest.length := by rw [h1, List.length_append, List.length_cons]; omega
        have k1 : rest.take (n + 1) = a ++ [10] := by rw [h1, ← hn, show a ++ 10 :: t = (a ++ [10]) ++ t by simp, List.take_left' (by simp)]
        have k2 : rest.drop (n + 1) = t := by rw [h1, ← hn, show a ++ 10 :: t = (a ++ [10]) ++ t by simp, List.drop_left' (by simp)]
        have k3 : t.take (rest.length - (n + 1)) = t := by
          rw [List.take_of_length_le]
          have := congrArg List.length k2
          rw [List.length_drop] at this
          omega
        have HTL := Lib.hid (show t.length < rest.length by rw [h1, List.length_append, List.length_cons]; omega)
        have HB4 := Lib.hid (show Boxed (wo.drew.setCell ⟨Bx, 0, none⟩ (.string (bs t))) Bx 9 (.string (bs t)) from Boxed.set (.string (bs t)) (show Boxed wo.drew Bx _ _ from HBX.out))
        have HJ4 := Lib.hid (HST.out pre wo.drew (wo.drew.setCell ⟨Bx, 0, none⟩ (.string (bs t))) (HJ.out _ _ _ none HJP.out ⟨rfl, rfl, rfl, Nat.le_refl _, fun _ _ _ => rfl⟩ (by simp)) ⟨_, _, rfl, show Boxed wo.drew Bx _ _ from HBX.out⟩)
        have d1 : decide ((0 : Int) ≤ (n : Int)) = true := decide_eq_true (by omega)
        have s0 : (0 : Int) ≤ (n : Int) + 1 := by omega
        have s1 : (n : Int) + 1 ≤ (rest.length : Int) := by omega
        have v1 : IntKind.i64.wrap ((n : Int) + 1) = (n : Int) + 1 := IntWalk.i64_in _ (by omega)
        clear h1 h2 h3 hr0 hrl hn
        gi_wp2_with (fail)
        refine ⟨trivial, (callsIn_wide.2 HI.out).mono ?_⟩
        rintro e2 w1 ⟨rfl, rfl⟩
        clear HI
        gi_wp2_with (fail)
        clear g0 gf
        refine wpIn_region_heldA (fun W' => Boxed W' Bx 9 (.string (bs rest))) 9 1 [0, 1, 2, 3, 4, 5, 6, 7, 8] _ (fun _ => trivial) (by kernel_rfl) (by kernel_rfl) rfl rfl (show Boxed w1.drew Bx _ _ from HBX.out) ?_
        iterate 9
          apply wpTakes_consD rfl rfl (by rfl)
          case hy =>
            rintro W' hb'
            have e0 := hb'.cell
            clear hb'
            go_simp
            first | done | with_reducible rfl
          simp only [List.setIfInBounds_toArray, List.set_cons_zero, List.set_cons_succ]
        refine wpTakes_nil ?_
        refine wpAnyR_rest [9] (by kernel_rfl) ?_
        obtain ⟨W4, hW4⟩ : ∃ W, w1.drew.setCell ⟨Bx, 0, none⟩ (.string (bs t)) = W := ⟨_, rfl⟩
        rw [hW4] at HB4 HJ4
        have e0 := show w1.drew.cell? ⟨Bx, 0, none⟩ = some _ from HBX.out.cell
        have f0 := show w1.drew.frozen? ⟨Bx, 0, none⟩ = false from HBX.out.frozen
        refine wpSeqR_cons rfl ?_
        gi_wp2_with (fail)
        refine ⟨fun h => absurd h (by omega), ?_⟩
        refine wpSeqR_nilN ?_
        clear e0 f0
        have HJ5 := Lib.hid HJ4.out
        obtain ⟨fn, tmps, assign, body, hy, hR⟩ := HY.out pre ⟨a ++ [10], HMEM.out⟩ _ HJ4.out HPL.out
        clear hW4
        gi_wp2_with (refine hR.mono ?_; rintro en W5 ⟨ans, rfl, hans⟩)
        all_goals clear hy hR
        all_goals have HANS := Lib.hid hans
        all_goals clear hans
        all_goals rcases HANS.out with ⟨rfl, hJ3, hk3⟩ | ⟨rfl, hJx3⟩
        all_goals clear HANS
        all_goals first
          | (exfalso; simp_all; done)
          | exact ⟨⟨pre ++ [⟨a ++ [10], HMEM.out⟩], t, by rw [List.map_append, List.append_assoc]; exact HNEXT.out, hJ3, hk3.2 _ HB4.out⟩, by rw [boxLen_of (hk3.2 _ HB4.out), HLEN.out]; exact HTL.out⟩
          | exact bodyPost_ret (results_none rfl _ _ _) rfl ⟨⟨_, rfl⟩, .inr ⟨_, ⟨linesL t, by rw [List.map_append, List.append_assoc]; exact HNEXT.out⟩, hJx3⟩⟩
end Go.Proofs.YtngdmpkoedpgdaaGreatDoor

/-
  Parse of the reference in plain words: it is the program's.
-/

namespace Go.Ap
open Go Go.RowKit
/-- the number of a string, none if it is none -/
def numR (s : Str) : Option Int :=
  if (s.take 5).all (fun c => decide (48 ≤ c.toNat) && decide (c.toNat ≤ 57)) then
    (let n := (s.take 5).foldl (fun n c => n * 10 + (c.toNat - 48)) 0
     if s = [] ∨ Lib.decDigits n ≠ s then none else some (n : Int))
  else none
theorem numR_some {s : Str} {n : Int} (h : numR s = some n) : 0 ≤ n ∧ s = Lib.itoa n := by
  unfold numR at h
  split at h
  · simp only at h
    split at h
    · cases h
    · rename_i h1
      cases h
      refine ⟨by omega, ?_⟩
      unfold Lib.itoa
      rw [if_neg (by omega), Int.toNat_natCast]
      exact (Classical.byContradiction fun e => h1 (.inr fun e2 => e e2.symm))
  · cases h
theorem dec_fold (u : Nat) : (Lib.decDigits u).foldl (fun n c => n * 10 + (c.toNat - 48)) 0 = u := by
  induction u using Nat.strongRecOn with
  | _ u ih =>
    rw [Lib.decDigits]
    split
    · rename_i h
      simp only [List.foldl_cons, List.foldl_nil]
      rw [UInt8.toNat_ofNat']
      omega
    · rename_i h
      rw [List.foldl_append, ih (u / 10) (by omega)]
      simp only [List.foldl_cons, List.foldl_nil]
      rw [UInt8.toNat_ofNat']
      omega
theorem numR_itoa {n : Int} (h0 : 0 ≤ n) (h1 : n ≤ 4096) : numR (Lib.itoa n) = some n := by
  have hl : (Lib.itoa n).length ≤ 5 := by
    unfold Lib.itoa
    rw [if_neg (by omega), Lib.decDigits_length]
    have key : ∀ k u : Nat, u < 10 ^ k → 1 ≤ k → Lib.nDigits u ≤ k := fun k => by
      induction k with
      | zero => intro u _ h; omega
      | succ k ih =>
        intro u hu _
        by_cases h : u < 10
        · rw [Lib.nDigits_small h]; omega
        · rw [Lib.nDigits_big h]
          rw [Nat.pow_succ] at hu
          rcases Nat.eq_zero_or_pos k with e | e
          · subst e
            omega
          · have := ih (u / 10) (by omega) e
            omega
    exact key 5 _ (by omega) (by omega)
  unfold numR
  rw [List.take_of_length_le hl]
  have e : Lib.itoa n = Lib.decDigits n.toNat := by unfold Lib.itoa; rw [if_neg (by omega)]
  rw [if_pos]
  · simp only
    rw [e, dec_fold, if_neg]
    · rw [Int.toNat_of_nonneg h0]
    · rintro (h | h)
      · exact dec_ne _ h
      · exact h rfl
  · rw [List.all_eq_true]
    intro c hc
    rw [e] at hc
    have := dec_digit _ _ hc
    simp [this]
def numsR : List Str → Option (List Int)
  | [] => some []
  | x :: r => match numR x with
    | some n => (numsR r).map (n :: ·)
    | none => none
def postR (s : Str) : Option Post :=
  match cutAt 32 s with
  | a :: b :: c :: r => (numsR (c :: r)).map fun l => ((a, b), l)
  | _ => none
/-- what is left of a text, with what is done and the line so far -/
def refP (done : List Post) (cur : Str) : Str → Option (List Post)
  | [] => if cur = [] ∧ indexB done = true then some done else none
  | c :: r => if c = 10 then match postR cur with
      | some p => refP (done ++ [p]) [] r
      | none => none
    else refP done (cur ++ [c]) r
theorem cutAt_snoc (cur : Str) : cutAt 32 (cur ++ [32]) = cutAt 32 cur ++ [[]] := by
  induction cur with
  | nil => rfl
  | cons b s ih =>
    rw [List.cons_append]
    conv => lhs; unfold cutAt
    conv => rhs; unfold cutAt
    split
    · rw [ih]; rfl
    · rw [ih]
      obtain ⟨p, r, hpr⟩ := List.exists_cons_of_ne_nil (cutAt_ne 32 s)
      rw [hpr]
      rfl
theorem cutAt_more {c : UInt8} (hc : c ≠ 32) (cur : Str) : ∃ r p, cutAt 32 cur = r ++ [p] ∧ cutAt 32 (cur ++ [c]) = r ++ [p ++ [c]] := by
  induction cur with
  | nil =>
    refine ⟨[], [], rfl, ?_⟩
    show cutAt 32 [c] = _
    unfold cutAt
    rw [if_neg hc]
    rfl
  | cons b s ih =>
    obtain ⟨r, p, h1, h2⟩ := ih
    rw [List.cons_append]
    by_cases hb : b = 32
    · refine ⟨[] :: r, p, ?_, ?_⟩
      · unfold cutAt
        rw [if_pos hb, h1]
        rfl
      · unfold cutAt
        rw [if_pos hb, h2]
        rfl
    · cases r with
      | nil =>
        refine ⟨[], b :: p, ?_, ?_⟩
        · unfold cutAt
          rw [if_neg hb, h1]
          rfl
        · unfold cutAt
          rw [if_neg hb, h2]
          rfl
      | cons q r =>
        refine ⟨(b :: q) :: r, p, ?_, ?_⟩
        · unfold cutAt
          rw [if_neg hb, h1]
          rfl
        · unfold cutAt
          rw [if_neg hb, h2]
          rfl
/-- a string is its pieces, with the byte between them -/
theorem cutAt_glue (c : UInt8) : ∀ {s x : Str} {r : List Str}, cutAt c s = x :: r → s = x ++ r.flatMap (c :: ·)
  | [], x, r, h => by
    unfold cutAt at h
    cases h
    rfl
  | b :: s, x, r, h => by
    unfold cutAt at h
    obtain ⟨p, q, hpq⟩ := List.exists_cons_of_ne_nil (cutAt_ne c s)
    have ih := cutAt_glue c hpq
    split at h
    · rename_i hb
      cases h
      rw [hpq, List.flatMap_cons, hb, List.nil_append, List.cons_append, ← ih]
    · rw [hpq] at h
      cases h
      rw [List.cons_append, ← ih]
theorem numsR_some : ∀ {r : List Str} {l : List Int}, numsR r = some l → r = l.map Lib.itoa
  | [], l, h => by cases h; rfl
  | x :: r, l, h => by
    unfold numsR at h
    cases hx : numR x with
    | none => rw [hx] at h; cases h
    | some n =>
      rw [hx] at h
      cases hr : numsR r with
      | none => rw [hr] at h; cases h
      | some m =>
        rw [hr] at h
        cases h
        rw [List.map_cons, ← numsR_some hr, (numR_some hx).2]
theorem postR_some {s : Str} {p : Post} (h : postR s = some p) : postT p = s ++ [10] := by
  unfold postR at h
  cases hs : cutAt 32 s with
  | nil => rw [hs] at h; cases h
  | cons a t =>
    cases t with
    | nil => rw [hs] at h; cases h
    | cons b t =>
      cases t with
      | nil => rw [hs] at h; cases h
      | cons c r =>
        rw [hs] at h
        simp only at h
        cases hn : numsR (c :: r) with
        | none => rw [hn] at h; cases h
        | some l =>
          rw [hn] at h
          cases h
          have e := cutAt_glue 32 hs
          have e2 := numsR_some hn
          unfold postT lineT
          simp only
          rw [e, List.flatMap_cons, e2, List.flatMap_map]
          simp
theorem refP_some : ∀ {r cur : Str} {done l : List Post}, refP done cur r = some l → indexB l = true ∧ textS l = textS done ++ cur ++ r
  | [], cur, done, l, h => by
    unfold refP at h
    split at h
    · rename_i h1
      cases h
      exact ⟨h1.2, by rw [h1.1]; simp⟩
    · cases h
  | c :: r, cur, done, l, h => by
    unfold refP at h
    split at h
    · rename_i hc
      cases hp : postR cur with
      | none => rw [hp] at h; cases h
      | some p =>
        rw [hp] at h
        obtain ⟨h1, h2⟩ := refP_some h
        refine ⟨h1, ?_⟩
        rw [h2]
        unfold textS
        rw [List.flatMap_append, List.flatMap_singleton, postR_some hp, hc]
        simp
    · obtain ⟨h1, h2⟩ := refP_some h
      exact ⟨h1, by rw [h2]; simp⟩
theorem refP_app : ∀ {a cur t : Str} {done : List Post}, (10 : UInt8) ∉ a → refP done cur (a ++ t) = refP done (cur ++ a) t
  | [], cur, t, done, _ => by rw [List.append_nil]; rfl
  | c :: a, cur, t, done, h => by
    rw [List.cons_append]
    conv => lhs; unfold refP
    rw [if_neg (fun e => h (by simp [e])), refP_app (fun e => h (List.mem_cons_of_mem _ e)), List.append_assoc]
    rfl
theorem numsR_itoa : ∀ {l : List Int}, (∀ n ∈ l, 0 ≤ n ∧ n ≤ 4096) → numsR (l.map Lib.itoa) = some l
  | [], _ => rfl
  | n :: l, h => by
    have h1 := h n (List.mem_cons_self ..)
    rw [List.map_cons]
    unfold numsR
    rw [numR_itoa h1.1 h1.2, numsR_itoa fun m hm => h m (List.mem_cons_of_mem _ hm)]
    rfl
theorem postR_line {p : Post} (h : validB p = true) : ∃ a, postT p = a ++ [10] ∧ (10 : UInt8) ∉ a ∧ postR a = some p := by
  obtain ⟨a, e1, e2, _⟩ := postT_line h
  refine ⟨a, e1, e2, ?_⟩
  obtain ⟨h1, h2, h3, h4⟩ := validB_parts h
  obtain ⟨⟨w, s⟩, l⟩ := p
  simp only at h1 h2 h3 h4
  have hw := word_no h1
  have hs := name_no h2
  have hne : l ≠ [] := fun e => by
    unfold validB at h
    rw [e] at h
    simp at h
  have ea : a = w ++ 32 :: s ++ l.flatMap lineT := by
    have : postT ((w, s), l) = (w ++ 32 :: s ++ l.flatMap lineT) ++ [10] := rfl
    rw [this] at e1
    exact (List.append_cancel_right e1).symm
  unfold postR
  rw [ea, List.append_assoc, List.cons_append, cutAt_app hw.1, cut_lines hs.1 (fun n hn => by have := h4 n hn; omega)]
  obtain ⟨n, r, rfl⟩ := List.exists_cons_of_ne_nil hne
  have hnum := numsR_itoa (l := n :: r) fun m hm => by have := h4 m hm; omega
  rw [List.map_cons] at hnum ⊢
  simp only
  rw [hnum]
  rfl
theorem refP_posts : ∀ {l done : List Post}, (∀ p ∈ l, validB p = true) → refP done [] (textS l) = if indexB (done ++ l) = true then some (done ++ l) else none
  | [], done, _ => by
    show refP done [] [] = _
    unfold refP
    simp
  | p :: r, done, h => by
    obtain ⟨a, h1, h2, h3⟩ := postR_line (h p (List.mem_cons_self ..))
    have ih := refP_posts (l := r) (done := done ++ [p]) fun q hq => h q (List.mem_cons_of_mem _ hq)
    have e : textS (p :: r) = a ++ 10 :: textS r := by
      unfold textS
      rw [List.flatMap_cons, h1, List.append_assoc]
      rfl
    rw [e, refP_app h2, List.nil_append]
    conv => lhs; unfold refP
    rw [if_pos rfl, h3]
    simp only
    rw [ih]
    simp
/-- both parse alike -/
theorem ref_parse (s : Str) : refP [] [] s = parseS s := by
  have key : ∀ l, parseS s = some l ↔ refP [] [] s = some l := fun l => by
    constructor
    · intro h
      obtain ⟨h1, h2⟩ := parseS_some h
      rw [← h2, refP_posts (indexB_valid h1).2, List.nil_append, if_pos h1]
    · intro h
      obtain ⟨h1, h2⟩ := refP_some h
      have e : textS l = s := by rw [h2]; rfl
      rw [← e, parse_text h1]
  cases h : parseS s with
  | some l => exact (key l).1 h
  | none =>
    cases h2 : refP [] [] s with
    | none => rfl
    | some l =>
      have := (key l).2 h2
      rw [h] at this
      cases this
end Go.Ap

/-
  Parse (program).
-/






namespace Go.Ap
open Go Go.RowKit
theorem atoi_i64 {l : Str} {v : Int} (h : Lib.atoiAll l = .ok v) : I64 v := by
  unfold Lib.atoiAll at h
  cases l with
  | nil => cases h
  | cons c r =>
    simp only at h
    cases hm : Lib.parseMag (if c.toNat = 43 ∨ c.toNat = 45 then r else c :: r) with
    | ok u =>
      rw [hm] at h
      have := Lib.parseMag_lt hm
      simp only at h
      split at h
      · cases h
      · split at h
        · cases h
        · cases h
          unfold I64
          split <;> omega
    | _ => rw [hm] at h; cases h
theorem numsL_ok : ∀ {xs : List Str} {x : Str} {l : List Int} {n : Int}, numsL xs = some l → Lib.atoiAll x = .ok n → numsL (xs ++ [x]) = some (l ++ [n])
  | [], x, l, n, h, hx => by
    cases h
    rw [List.nil_append]
    unfold numsL
    rw [hx]
    rfl
  | y :: xs, x, l, n, h, hx => by
    rw [List.cons_append]
    unfold numsL at h ⊢
    cases hy : Lib.atoiAll y with
    | ok m =>
      rw [hy] at h
      simp only at h ⊢
      cases hr : numsL xs with
      | none => rw [hr] at h; cases h
      | some q =>
        rw [hr] at h
        cases h
        rw [numsL_ok hr hx]
        rfl
    | _ => rw [hy] at h; cases h
theorem numsL_bad : ∀ {xs : List Str} {x : Str}, x ∈ xs → (∀ v, Lib.atoiAll x ≠ .ok v) → numsL xs = none
  | y :: xs, x, hx, h => by
    unfold numsL
    rcases List.mem_cons.1 hx with rfl | hx
    · cases hy : Lib.atoiAll x with
      | ok m => exact absurd hy (h m)
      | _ => rfl
    · have ih := numsL_bad hx h
      cases hy : Lib.atoiAll y with
      | ok m => simp only; rw [ih]; rfl
      | _ => rfl
theorem numsL_len : ∀ {xs : List Str} {l : List Int}, numsL xs = some l → l.length = xs.length
  | [], l, h => by cases h; rfl
  | y :: xs, l, h => by
    unfold numsL at h
    cases hy : Lib.atoiAll y with
    | ok m =>
      rw [hy] at h
      simp only at h
      cases hr : numsL xs with
      | none => rw [hr] at h; cases h
      | some q =>
        rw [hr] at h
        cases h
        rw [List.length_cons, List.length_cons, numsL_len hr]
    | _ => rw [hy] at h; cases h
theorem postsG_ok : ∀ {xs : List Str} {x : Str} {l : List Post} {p : Post}, postsG xs = some l → postL x = some p → postsG (xs ++ [x]) = some (l ++ [p])
  | [], x, l, p, h, hx => by
    cases h
    rw [List.nil_append]
    unfold postsG
    rw [hx]
    rfl
  | y :: xs, x, l, p, h, hx => by
    rw [List.cons_append]
    unfold postsG at h ⊢
    cases hy : postL y with
    | some m =>
      rw [hy] at h
      simp only at h ⊢
      cases hr : postsG xs with
      | none => rw [hr] at h; cases h
      | some q =>
        rw [hr] at h
        cases h
        rw [postsG_ok hr hx]
        rfl
    | none => rw [hy] at h; cases h
theorem postsG_bad : ∀ {xs : List Str} {x : Str}, x ∈ xs → postL x = none → postsG xs = none
  | y :: xs, x, hx, h => by
    unfold postsG
    rcases List.mem_cons.1 hx with rfl | hx
    · rw [h]
    · have ih := postsG_bad hx h
      cases hy : postL y with
      | some m => simp only; rw [ih]; rfl
      | none => rfl
theorem postsG_len : ∀ {xs : List Str} {l : List Post}, postsG xs = some l → l.length = xs.length
  | [], l, h => by cases h; rfl
  | y :: xs, l, h => by
    unfold postsG at h
    cases hy : postL y with
    | some m =>
      rw [hy] at h
      simp only at h
      cases hr : postsG xs with
      | none => rw [hr] at h; cases h
      | some q =>
        rw [hr] at h
        cases h
        rw [List.length_cons, List.length_cons, postsG_len hr]
    | none => rw [hy] at h; cases h
theorem parse_none {s : Str} (h : postsG (linesL s) = none) : parseS s = none := by
  unfold parseS
  rw [h]
theorem trim_eq (x : Str) : Lib.trimSuffix x [10] = trimNl x := by
  unfold Lib.trimSuffix trimNl
  cases x using snoc_ind with
  | h0 => rfl
  | h1 l b =>
    by_cases hb : b = 10
    · subst hb
      rw [if_pos (by simp [Lib.hasSuffix]), if_pos (by simp)]
      simp
    · rw [if_neg (by simp [Lib.hasSuffix, List.isSuffixOf, List.isPrefixOf, Ne.symm hb]), if_neg (by simp [hb])]
theorem split_cells (t : Str) : ((Lib.splitB ⟨#[32]⟩ 0 (Lib.countB (bs t) ⟨#[32]⟩) (bs t)).map Value.string) = (cutAt 32 t).map sv ∧ Lib.countB (bs t) ⟨#[32]⟩ + 1 = (cutAt 32 t).length := by
  have h1 := Lib.splitB_data ⟨#[32]⟩ 0 (Lib.countB (bs t) ⟨#[32]⟩) (bs t)
  have h2 : Lib.splitK [32] 0 (Lib.countB (bs t) ⟨#[32]⟩) t = cutAt 32 t := split_cut 32 t
  have h3 : (Lib.splitB ⟨#[32]⟩ 0 (Lib.countB (bs t) ⟨#[32]⟩) (bs t)).map (·.data.toList) = cutAt 32 t := h1.trans h2
  constructor
  · rw [← h3, List.map_map]
    refine List.map_congr_left fun b _ => ?_
    show Value.string b = Value.string (bs b.data.toList)
    rw [← bs_of]
  · rw [← h3, List.length_map, Lib.splitB_all _ (by decide) 0 _ _ rfl]
theorem cutAt_len (c : UInt8) : ∀ s : Str, (cutAt c s).length ≤ s.length + 1
  | [] => by simp [cutAt]
  | b :: s => by
    have ih := cutAt_len c s
    unfold cutAt
    split
    · rw [List.length_cons, List.length_cons]; omega
    · cases hs : cutAt c s with
      | nil => simp
      | cons p r => rw [hs] at ih; simp only [List.length_cons] at ih ⊢; omega
theorem cutAt_mem {c : UInt8} : ∀ {s x : Str}, x ∈ cutAt c s → x.length ≤ s.length
  | [], x, h => by
    unfold cutAt at h
    rw [List.mem_singleton] at h
    rw [h]
    exact Nat.le_refl _
  | b :: s, x, h => by
    unfold cutAt at h
    split at h
    · rcases List.mem_cons.1 h with rfl | h
      · simp
      · have := cutAt_mem h
        rw [List.length_cons]; omega
    · cases hs : cutAt c s with
      | nil => rw [hs] at h; rw [List.mem_singleton] at h; rw [h]; simp
      | cons p r =>
        rw [hs] at h
        have hp := cutAt_mem (c := c) (s := s) (x := p) (by rw [hs]; simp)
        rcases List.mem_cons.1 h with rfl | h
        · rw [List.length_cons, List.length_cons]; omega
        · have := cutAt_mem (c := c) (s := s) (x := x) (by rw [hs]; exact List.mem_cons_of_mem _ h)
          rw [List.length_cons]; omega
theorem trimNl_len (s : Str) : (trimNl s).length ≤ s.length := by
  unfold trimNl
  split
  · rw [List.length_dropLast]; omega
  · exact Nat.le_refl _
theorem linesL_len : ∀ s : Str, (linesL s).length ≤ s.length
  | [] => by simp [linesL]
  | b :: s => by
    have ih := linesL_len s
    unfold linesL
    split
    · rw [List.length_cons, List.length_cons]; omega
    · cases hs : linesL s with
      | nil => simp
      | cons p r => rw [hs] at ih; simp only [List.length_cons] at ih ⊢; omega
theorem postL_short {x : Str} (h : (cutAt 32 (trimNl x)).length < 3) : postL x = none := by
  unfold postL
  match hc : cutAt 32 (trimNl x), h with
  | [], _ => rfl
  | [_], _ => rfl
  | [_, _], _ => rfl
theorem postL_long {x a b : Str} {r : List Str} (h : cutAt 32 (trimNl x) = a :: b :: r) (hr : r ≠ []) : postL x = (numsL r).map fun l => ((a, b), l) := by
  unfold postL
  rw [h]
  cases r with
  | nil => exact absurd rfl hr
  | cons c r => rfl
/-- a block of ints lies as it lay -/
def KeepI (t : TypeId) (A B : World) : Prop := ∀ (k : Nat) (cs : Array Value) (fz : Nat × Nat), A.heap[k]? = some (Obj.cells cs t fz) → B.heap[k]? = A.heap[k]?
theorem KeepI.trans {t : TypeId} {A B C : World} (h : KeepI t A B) (k : KeepI t B C) : KeepI t A C := fun i cs fz hi => (k i cs fz ((h i cs fz hi).trans hi)).trans (h i cs fz hi)
theorem KeepI.of_below {t : TypeId} {A B : World} (h : Below A.heap.size A B) : KeepI t A B := fun k _ _ hk => h.block k (Array.getElem?_eq_some_iff.1 hk).1
theorem KeepI.of_grown {t : TypeId} {A B : World} {row : Option Nat} (h : A.grownBy B row) (hr : ∀ (k : Nat) (cs : Array Value) (fz : Nat × Nat), row = some k → A.heap[k]? ≠ some (Obj.cells cs t fz)) : KeepI t A B := fun k cs fz hk => h.block k (Array.getElem?_eq_some_iff.1 hk).1 fun e => hr k cs fz e.symm hk
/-- a posting whose lines lie in a block of ints -/
def LinT (t : TypeId) (W : World) (q : PIt) : Prop := ∃ b o k, q.2 = .slice (some ⟨b, o, none⟩) q.1.2.length k ∧ (∃ (cs : Array Value) (fz : Nat × Nat), W.heap[b]? = some (Obj.cells cs t fz)) ∧ PostS W (some ⟨b, o, none⟩) q.1
theorem LinT.keep {t : TypeId} {A B : World} {q : PIt} (h : LinT t A q) (hk : KeepI t A B) : LinT t B q := by
  obtain ⟨b, o, k, h1, ⟨cs, fz, h2⟩, h3⟩ := h
  have hb := hk b cs fz h2
  refine ⟨b, o, k, h1, ⟨cs, fz, hb.trans h2⟩, h3.word, h3.sec, h3.lines.len, h3.lines.small, fun i x hx => ?_⟩
  obtain ⟨b', o', v, he, hc, hr⟩ := h3.lines.cells i x hx
  cases he
  exact ⟨b, o, v, rfl, (World.cell?_of_block (w := A) (a := ⟨b, o + i, none⟩) hb).trans hc, hr⟩
/-- a row of parsed postings of the call's own -/
def OwnPp (t e : TypeId) (W : World) (base : Nat) (v : Value) (l : List Post) : Prop := ∃ qs : List PIt, qs.map (·.1) = l ∧ W.ownsRow base e 3 v l.length (qs.flatMap piC) ∧ ∀ q ∈ qs, LinT t W q
theorem OwnPp.posts {t e : TypeId} {W : World} {base : Nat} {v : Value} {l : List Post} (h : OwnPp t e W base v l) (hn : l.length ≤ 4611686018427387903) : ∃ a c, v = .slice a l.length c ∧ Posts W a l.length l ∧ l.length ≤ c := by
  obtain ⟨qs, h1, h2, h3⟩ := h
  exact OwnPs.gives (w0 := W) ⟨qs, h1, by rw [show qs.length = l.length by rw [← h1, List.length_map]]; exact h2, fun p hp => by
    obtain ⟨b, o, k, e1, _, e2⟩ := h3 p hp
    exact ⟨_, k, e1, e2⟩⟩ hn (Below.refl _ _)
end Go.Ap
namespace Go.Proofs.YtngdmpkoedpgdaaGreatDoor
open Go.RowKit Go.Ap Go.Shelf Go.Proofs

attribute [local go_sem] Oper.semAt_some bs_toList empty_toList bs_size bs_extract
/-- the library's own number -/
def EM (w : World) : Prop := ∃ m, w.cell? ⟨3, 0, none⟩ = some (.int .i64 m)
theorem EM.mono {w w' : World} {B : Nat} (h : EM w) (hB : w.heap.size ≤ B) (hb : Below B w w') : EM w' := by
  obtain ⟨m, h⟩ := h
  exact ⟨m, Go.Ap.cell_kept hB hb h⟩
theorem trimP (x : Str) (w : World) (hx : x.length ≤ 4611686018427387903) : Calls Tryz.prog 107 #[.string (bs x), .string { data := #[10] }] w fun e w' => e = .returned (.string (bs (trimNl x))) ∧ w = w' := by
  refine (Tryz.strings_TrimSuffix (bs x) { data := #[10] } w (by rw [bs_size]; omega)).mono ?_
  rintro e w' ⟨rfl, rfl⟩
  refine ⟨?_, rfl⟩
  rw [← trim_eq]
  rfl
theorem splitP (x : Str) (w : World) (hx : x.length ≤ 1000000) (hm : EM w) : Calls Tryz.prog 106 #[.string (bs x), .string { data := #[32] }] w fun e w' => e = .returned (.slice (some ⟨w.heap.size, 0, none⟩) (cutAt 32 x).length (cutAt 32 x).length) ∧ w' = w.alloc (.cells ((cutAt 32 x).map sv).toArray 9) := by
  obtain ⟨m, hm⟩ := hm
  refine (Tryz.strings_Split (bs x) { data := #[32] } m w (by rw [bs_size]; omega) hm (by decide)).mono ?_
  rintro e w' ⟨rfl, rfl⟩
  obtain ⟨h1, h2⟩ := split_cells x
  rw [h2, h1]
  exact ⟨rfl, rfl⟩
end Go.Proofs.YtngdmpkoedpgdaaGreatDoor
