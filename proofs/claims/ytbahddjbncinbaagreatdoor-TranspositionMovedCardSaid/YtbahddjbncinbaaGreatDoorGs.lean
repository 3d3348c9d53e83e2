/-
  Great sources; tokens of words.
-/
import Derived.Test.YtbahddjbncinbaaGreatDoorGq
namespace Go.Proofs.YtbahddjbncinbaaGreatDoor
open Go.RowKit Go.Ap Go.Shelf Go.Proofs

attribute [local go_sem] Oper.semAt_some bs_toList empty_toList bs_size bs_extract
theorem infoTok : (Tryz.prog.info? 39).map (fun i => (i.zero, i.size, i.bytes)) = some (some (.agg #[.string { data := #[] }, .string { data := #[] }, .string { data := #[] }, .int .i64 0, .int .i64 0, .string { data := #[] }]), 6, 80) := by kernel_rfl
def AnyB (e : Ending) : Prop := ∃ b, e = .returned (.bool b)
set_option maxHeartbeats 8000000 in
theorem great47 (a : Option Addr) (n c : Nat) (k : Int) (ts : List Tok) (w : World) (h : Toks w a n ts) :
    Calls Tryz.prog 47 #[.slice a n c, .int .i64 k] w fun e w' => AnyB e ∧ Below w.heap.size w w' := by
  have hsn := h.small
  have HX := Lib.hid h
  have HLG := Lib.hid (fun s W (hs : s.length ≤ 4611686018427387903) => long71 s W hs)
  clear h
  go_enter Tryz.func47, Tryz.ntmps47
  have HLOOP : ∀ (b1 : Bool), b1 = b1 := fun _ => rfl
  clear HLOOP
  cases e1 : decide (k < (n : Int)) <;> cases e2 : decide ((n : Int) ≤ 1024) <;> cases e3 : decide ((1026 : Int) < (n : Int))
  all_goals
    have E1 := Lib.hid e1
    have E2 := Lib.hid e2
    have E3 := Lib.hid e3
    go_wp2_with (fail)
    clear e1 e2 e3
    first
    | (go_ret; exact ⟨⟨_, rfl⟩, Below.refl _ _⟩)
    | (go_loopw [5] (fun iv wr => ∃ i : Nat, i ≤ n ∧ iv = .int .i64 i ∧ Below w.heap.size w wr) (fun iv _ => n - (intOf iv).toNat)
       case atStart => exact ⟨0, Nat.zero_le _, rfl, Below.refl _ _⟩
       case round =>
         obtain ⟨wi, rfl⟩ : ∃ wi : World, wi = wr := ⟨_, rfl⟩
         obtain ⟨i, hi, rfl, hb⟩ := hrel
         have HB := Lib.hid hb
         by_cases hin : i < n
         · obtain ⟨t, b, o, ht, rfl, ⟨q0, q1, q2, q3, q4, q5⟩, hts⟩ := HX.out.at hin
           have HT := Lib.hid hts
           have Q1 := Lib.hid q1
           have Q2 := Lib.hid q2
           have Q5 := Lib.hid q5
           have q0 := cell_keep hb q0
           have i1 : (i : Int) < (n : Int) := by omega
           clear ht hts hb q1 q2 q3 q4 q5
           go_wp2_with (fail)
           refine (HLG.out t.text _ (by have := HT.out.text; omega)).mono ?_
           rintro e w1 ⟨⟨b1, rfl⟩, hb⟩
           have HB1 := Lib.hid (bstep HB.out hb)
           have q1 := cell_keep HB1.out Q1.out
           clear hb q0
           cases b1
           · go_wp2_with (fail)
             refine (HLG.out t.norm _ HT.out.norm).mono ?_
             rintro e w2 ⟨⟨b2, rfl⟩, hb⟩
             have HB2 := Lib.hid (bstep HB1.out hb)
             have q5 := cell_keep HB2.out Q5.out
             clear hb q1
             cases b2
             · go_wp2_with (fail)
               refine (HLG.out t.name _ HT.out.name).mono ?_
               rintro e w3 ⟨⟨b3, rfl⟩, hb⟩
               have HB3 := Lib.hid (bstep HB2.out hb)
               have q2 := cell_keep HB3.out Q2.out
               clear hb q5
               cases b3
               · go_wp2_with (fail)
                 refine (HLG.out t.page _ HT.out.page).mono ?_
                 rintro e w4 ⟨⟨b4, rfl⟩, hb⟩
                 have HB4 := Lib.hid (bstep HB3.out hb)
                 clear hb q2
                 cases b4
                 · go_wp2_with (fail)
                   go_roundw
                   case rel => exact ⟨i + 1, by omega, by simp, HB4.out⟩
                   case measure => simp [intOf]; omega
                 · go_wp2_with (fail)
                   go_ret
                   exact ⟨⟨_, rfl⟩, HB4.out⟩
               · clear q2
                 go_wp2_with (fail)
                 go_ret
                 exact ⟨⟨_, rfl⟩, HB3.out⟩
             · clear q5
               go_wp2_with (fail)
               go_ret
               exact ⟨⟨_, rfl⟩, HB2.out⟩
           · clear q1
             go_wp2_with (fail)
             go_ret
             exact ⟨⟨_, rfl⟩, HB1.out⟩
         · obtain rfl : n = i := by omega
           clear hb
           go_wp2_with (fail)
           go_ret
           exact ⟨⟨_, rfl⟩, HB.out⟩)
set_option maxHeartbeats 4000000 in
theorem great12 (a1 : Option Addr) (n1 c1 : Nat) (a2 : Option Addr) (n2 c2 : Nat) (xs ys : List Tok) (w : World) (h1 : Toks w a1 n1 xs) (h2 : Toks w a2 n2 ys) :
    Calls Tryz.prog 12 #[.slice a1 n1 c1, .slice a2 n2 c2] w fun e w' => AnyB e ∧ Below w.heap.size w w' := by
  have HG1 := Lib.hid (great47 a1 n1 c1 10 xs w h1)
  have HG2 := Lib.hid (fun W (hb : Below w.heap.size w W) => great47 a2 n2 c2 10 ys W (Toks.mono h2 (Nat.le_refl _) hb))
  clear h1 h2
  go_enter Tryz.func12, Tryz.ntmps12
  go_wp2_with (fail)
  refine HG1.out.mono ?_
  rintro e w1 ⟨⟨b1, rfl⟩, hb⟩
  have HB := Lib.hid hb
  clear hb
  cases b1
  · go_wp2_with (fail)
    refine (HG2.out _ HB.out).mono ?_
    rintro e w2 ⟨⟨b2, rfl⟩, hb⟩
    have HB2 := Lib.hid (bstep HB.out hb)
    clear hb
    go_wp2_with (fail)
    go_ret
    exact ⟨⟨_, rfl⟩, HB2.out⟩
  · go_wp2_with (fail)
    go_ret
    exact ⟨⟨_, rfl⟩, HB.out⟩
set_option maxHeartbeats 4000000 in
theorem words48 (a : Option Addr) (n c : Nat) (ss : List Str) (w : World) (h : StrsL w a n ss) (hn : n ≤ 1024) (hs : ∀ s ∈ ss, s.length ≤ 281474976710656) :
    Calls Tryz.prog 48 #[.slice a n c] w fun e w' => ∃ a' c', e = .returned (.slice a' n c') ∧ Toks w' a' n (ss.map wTok) ∧ Below w.heap.size w w' := by
  obtain ⟨i9, hi9, hy0, hy1, hy2⟩ := info_parts infoTok
  have hl := h.len
  have HX := Lib.hid h
  have HL := Lib.hid hl
  have HS := Lib.hid hs
  clear h hl hs
  go_enter Tryz.func48, Tryz.ntmps48
  go_wp2_with (fail)
  go_loopw [3, 8] (fun ov iv wr => ∃ i : Nat, i ≤ n ∧ iv = .int .i64 i ∧ OwnTk wr w.heap.size ov ((ss.take i).map wTok) ∧ Below w.heap.size w wr) (fun _ iv _ => n - (intOf iv).toNat)
  case atStart => exact ⟨0, Nat.zero_le _, rfl, World.ownsRow_nil _ _ _ _, Below.refl _ _⟩
  case round =>
    obtain ⟨wi, rfl⟩ : ∃ wi : World, wi = wr := ⟨_, rfl⟩
    obtain ⟨i, hi, rfl, ho, hb⟩ := hrel
    have HB := Lib.hid hb
    have hsz := hb.size
    by_cases hin : i < n
    · obtain ⟨s, b, o, v, hx, rfl, hc, rfl⟩ := Sl.at HX.out hin
      unfold sv at hc
      have hc := cell_keep hb hc
      have hql : ((ss.take i).map wTok).length = i := by rw [List.length_map, List.length_take, HL.out]; omega
      have HO := Lib.hid (show wi.ownsRow w.heap.size 39 6 _ i (((ss.take i).map wTok).flatMap tokC6) by unfold OwnTk at ho; rwa [hql] at ho)
      have HE := Lib.hid (show (((ss.take (i + 1)).map wTok).length = i + 1 ∧ ((ss.take (i + 1)).map wTok).flatMap tokC6 = ((ss.take i).map wTok).flatMap tokC6 ++ [.string (bs s), .string (bs s), .string { data := #[] }, .int .i64 0, .int .i64 0, .string { data := #[] }]) by
        constructor
        · rw [List.length_map, List.length_take, HL.out]; omega
        · rw [List.take_add_one, hx]; simp [wTok, tokC6]; rfl)
      have i1 : (i : Int) < (n : Int) := by omega
      have HNW := Lib.hid (show ∀ (j : Nat) (u : Value), [.string (bs s), .string (bs s), .string { data := #[] }, .int .i64 0, .int .i64 0, .string { data := #[] }][j]? = some u → (wi.alloc (.cells #[.string (bs s), .string (bs s), .string { data := #[] }, .int .i64 0, .int .i64 0, .string { data := #[] }] 39)).cell? ((⟨wi.heap.size, 0, none⟩ : Addr).add j) = some u from World.news_of_block (cs := #[.string (bs s), .string (bs s), .string { data := #[] }, .int .i64 0, .int .i64 0, .string { data := #[] }]) (heap_fresh rfl))
      clear hx ho hb hql
      go_wp2_with (at_builtin; refine wpList_append_own _ rfl _ _ 22 rfl w.heap.size 39 i9 (.agg #[.string { data := #[] }, .string { data := #[] }, .string { data := #[] }, .int .i64 0, .int .i64 0, .string { data := #[] }]) 6 80 Tryz.underlying22 hi9 hy0 hy1 hy2 rfl (by decide) _ _ _ rfl (HO.out.alloc _) ⟨wi.heap.size, 0, none⟩ 1 1 [.string (bs s), .string (bs s), .string { data := #[] }, .int .i64 0, .int .i64 0, .string { data := #[] }] rfl rfl HNW.out (by simp [Value.oneCell']) (by unfold maxLen; omega) (by omega) (by simp; omega) ?_; intro v1 w4 hown1 hgrow1 _; have HO3 := Lib.hid hown1; have HG := Lib.hid hgrow1; clear hown1 hgrow1)
      have j2 : Below w.heap.size wi w4 := ((Below.refl w.heap.size wi).alloc hsz _).grown HG.out (by simp; omega) fun k hk => (HO.out.lt k hk).1
      go_roundw
      case rel => exact ⟨i + 1, by omega, by simp, by unfold OwnTk; rw [HE.out.1, HE.out.2]; exact HO3.out, HB.out.trans j2⟩
      case measure => simp [intOf]; omega
    · obtain rfl : n = i := by omega
      rw [show ss.take n = ss from List.take_of_length_le (by rw [HL.out]; exact Nat.le_refl _)] at ho
      obtain ⟨a', c', rfl, ht⟩ := ho.toks (by rw [List.length_map, HL.out]; omega) (fun t ht => by
        obtain ⟨s, hs, rfl⟩ := List.mem_map.1 ht
        have := HS.out s hs
        exact ⟨this, by simp only [wTok]; omega, by simp [wTok], ⟨by simp [wTok], by simp [wTok]⟩, ⟨by simp [wTok], by simp [wTok]⟩, by simp [wTok]⟩)
      rw [List.length_map, HL.out] at ht ⊢
      have HTT := Lib.hid ht
      clear hb ho ht
      go_wp2_with (fail)
      go_ret
      exact ⟨_, _, rfl, HTT.out, HB.out⟩
end Go.Proofs.YtbahddjbncinbaaGreatDoor
