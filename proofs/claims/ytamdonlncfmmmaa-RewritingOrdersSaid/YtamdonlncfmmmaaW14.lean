/-
  The reference's normals.
-/
import Derived.Test.YtamdonlncfmmmaaW13
namespace Go.Proofs.Ytamdonlncfmmmaa
open Go.RowKit Go.Ap Go.Shelf Go.Proofs

attribute [local go_sem] Oper.semAt_some bs_toList empty_toList bs_size ext_drop ext_take bs_append

/-- no block of the one is the other's -/
def Apt (v u : Value) : Prop := ∀ k, v.ownBlock = some k → u.ownBlock ≠ some k
/-- the slice of what has been reached, beside another one -/
structure Rch (w W : World) (v7 v6 : Value) (M L : List Str) : Prop where
  o6 : OwnS W w.heap.size v6 L
  o7 : OwnS W w.heap.size v7 M
  ap : Apt v6 v7
  bel : Below w.heap.size w W
theorem Rch.below {w W W' : World} {v7 v6 : Value} {M L : List Str} (h : Rch w W v7 v6 M L) (hb : Below W.heap.size W W') : Rch w W' v7 v6 M L :=
  ⟨owns_below h.o6 hb, owns_below h.o7 hb, h.ap, bstep h.bel hb⟩
/-- one more is reached -/
theorem Rch.push {w W : World} {v7 v6 : Value} {M L : List Str} (h : Rch w W v7 v6 M L) (x : Str) (hl : L.length ≤ 500000) :
    ∃ v' w', (Builtin.append_ #[26, 26] 26 #[v6, .slice (some ⟨W.heap.size, 0, none⟩) 1 1]).run Try.prog (W.alloc (.cells #[.string (bs x)] 9)) = .ok v' w' ∧ Rch w w' v7 v' M (L ++ [x]) := by
  have hsz := h.bel.size
  have o1 := owns_below h.o6 (balloc W (.cells #[.string (bs x)] 9))
  have o7 := owns_below h.o7 (balloc W (.cells #[.string (bs x)] 9))
  have s1 : StrsL (W.alloc (.cells #[.string (bs x)] 9)) (some ⟨W.heap.size, 0, none⟩) 1 [x] := ⟨rfl, by omega, fun j y hj => by
    rcases j with _ | j
    · simp at hj; subst hj; exact ⟨_, 0, _, rfl, cell_fresh rfl rfl, rfl⟩
    · simp at hj⟩
  obtain ⟨v', w', hr, o2, g2, b2⟩ := OwnS_append o1 s1 1 (by simp; omega) (by omega)
  refine ⟨v', w', hr, o2, World.ownsRow.kept o7 g2 ?_, fun k hk hk7 => ?_, (h.bel.alloc hsz _).grown g2 (by simp; omega) (fun k hk => (World.ownsRow.lt o1 k hk).1)⟩
  · rcases hb : v7.ownBlock with _ | k
    · exact .inl rfl
    · exact .inr fun he => h.ap k he.symm hb
  · have h7 := owns_lt h.o7 k hk7
    rcases b2 with he | he
    · exact h.ap k (he ▸ hk) hk7
    · rw [he] at hk; injection hk with hk; simp at hk; omega

def GivesN (w : World) (p : Bool × List Str) (e : Ending) (w' : World) : Prop := ∃ v, e = .returned (.tuple #[v, .bool p.1]) ∧ OwnS w' w.heap.size v p.2 ∧ Below w.heap.size w w'
theorem nr_ret {v : Value} {p : Bool × List Str} {b : Bool} {l : List Str} {w w' : World} (h : p = (b, l)) (ho : OwnS w' w.heap.size v l) (hb : Below w.heap.size w w') : GivesN w p (.returned (.tuple #[v, .bool b])) w' := by
  rw [h]; exact ⟨v, rfl, ho, hb⟩

set_option maxRecDepth 100000 in
set_option maxHeartbeats 8000000 in
theorem normals39 (a : Option Addr) (n c : Nat) (rs : List Rule) (s : Str) (w : World) (h : Rls w a n rs) (hv : Val rs) (hs : s.length ≤ 1000) (hn : n ≤ 64) :
    Calls Try.prog 39 #[.slice a n c, .string (bs s)] w (GivesN w (nrE rs s)) := by
  have HH := Lib.hid h
  have HL := Lib.hid h.len
  have HV := Lib.hid hv
  clear h hv
  go_enter Try.func39, Try.ntmps39
  go_wp2_with (fail)
  go_loopw [6, 7, 8] (fun v6 v7 iv wr => ∃ (i : Nat) (L N : List Str), iv = .int .i64 i ∧ Rch w wr v7 v6 (sortS N) L ∧ AtB rs s i L N) (fun _ _ iv _ => 4097 - (intOf iv).toNat)
  case atStart =>
    refine ⟨0, [s], [], rfl, ⟨?_, ?_, ?_, ?_⟩, AtB.start⟩
    · exact owns_below (OwnS.one w (Nat.le_refl _) s) (balloc _ _)
    · have := OwnS.empty (w.alloc (.cells #[.string (bs s)] 9)) (base := w.heap.size) (by simp)
      rw [World.size_alloc] at this
      rw [show sortS [] = [] by simp [sortS]]
      exact this
    · intro k hk hk7
      simp [Value.ownBlock] at hk hk7
      omega
    · exact ((Below.refl _ w).alloc (Nat.le_refl _) _).alloc (by simp) _
  case round =>
    obtain ⟨wo, rfl⟩ : ∃ wo : World, wo = wr := ⟨_, rfl⟩
    obtain ⟨i, L, N, rfl, hr, hat⟩ := hrel
    obtain ⟨a6, c6, rfl, hS6⟩ := hr.o6.strs (by have := hat.le; omega)
    have hle := hat.le
    have hil' := hat.il
    have HR := Lib.hid hr
    have HAT := Lib.hid hat
    have HS6 := Lib.hid hS6
    obtain ⟨len, hlen⟩ : ∃ len, L.length = len := ⟨_, rfl⟩
    have HLEN := Lib.hid hlen
    rw [hlen] at hle hil' ⊢
    clear hr hat hS6 hlen
    by_cases hil : i < len
    · obtain ⟨x, hx⟩ : ∃ x, L[i]? = some x := ⟨_, List.getElem?_eq_getElem (by rw [HLEN.out]; exact hil)⟩
      obtain ⟨b6, o6, rfl, hc6⟩ := HS6.out.at (by rw [HLEN.out]; omega)
      have hcx := hc6 i x hx
      have hxl : x.length ≤ 1000 := Nat.le_trans (HAT.out.len x (List.mem_of_getElem? hx)) hs
      have HX := Lib.hid hx
      have hcnt := resL_count rs x
      rw [HL.out] at hcnt
      have hcnt2 : (resL rs x).length ≤ 64000 := Nat.le_trans hcnt (Nat.mul_le_mul hxl hn)
      have HEX := Lib.hid (show ∀ j k, j < x.length → (expandL L (upto rs x j k)).length ≤ 100000 from fun j k hj => by
        have h1 := expandL_len (L := L) (ys := upto rs x j k)
        have h2 := (upto_pre (rs := rs) (k := k) hj).length_le
        have h3 := HLEN.out
        omega)
      clear hc6 hx hcnt
      go_wp2_with (fail)
      go_loopw [6, 10, 11] (fun v6 fl jv wr => ∃ j : Nat, j ≤ x.length ∧ jv = .int .i64 j ∧ fl = .bool (decide (upto rs x j 0 = [])) ∧ Rch w wr u7 v6 (sortS N) (expandL L (upto rs x j 0))) (fun _ _ jv _ => x.length - (intOf jv).toNat)
      case atStart => exact ⟨0, Nat.zero_le _, rfl, by rw [upto_zero]; rfl, by rw [upto_zero, expandL_nil, ← HLEN.out]; exact HR.out⟩
      case round =>
        obtain ⟨wj, rfl⟩ : ∃ wj : World, wj = wr := ⟨_, rfl⟩
        obtain ⟨j, hj, rfl, rfl, hrj⟩ := hrel
        have HRJ := Lib.hid hrj
        clear hrj
        by_cases hjl : j < x.length
        · obtain ⟨fl0, hfl0⟩ : ∃ fl0, decide (upto rs x j 0 = []) = fl0 := ⟨_, rfl⟩
          have HF0 := Lib.hid hfl0
          rw [hfl0]
          clear hfl0
          go_wp2_with (fail)
          go_loopw [6, 10, 12] (fun v6 fl kv wr => ∃ (k : Nat) (f : Bool), k ≤ n ∧ kv = .int .i64 k ∧ fl = .bool f ∧ decide (upto rs x j k = []) = f ∧ Rch w wr u7 v6 (sortS N) (expandL L (upto rs x j k))) (fun _ _ kv _ => n - (intOf kv).toNat)
          case atStart => exact ⟨0, _, Nat.zero_le _, rfl, rfl, HF0.out, HRJ.out⟩
          case round =>
            obtain ⟨k, f, hk, rfl, rfl, hf, hrk⟩ := hrel
            have HRK := Lib.hid hrk
            have HF := Lib.hid hf
            clear hf
            by_cases hkn : k < n
            · obtain ⟨⟨p, q⟩, b, off, hxx, rfl, hc1, hc2, hl1, hl2⟩ := (HH.out.mono (Nat.le_refl _) hrk.bel).at hkn
              simp only at hc1 hc2 hl1 hl2
              have HXX := Lib.hid hxx
              have HA := Lib.hid (at57 x p j wr (by omega) hl1 hj)
              clear hxx hrk
              cases hp : p.isPrefixOf (x.drop j)
              · have HAO := HA.out
                rw [hp] at HAO
                have HA2 := Lib.hid HAO
                have HP := Lib.hid (upto_no HXX.out (show appl x j (p, q) = none by rw [appl, if_neg (by simp [hp])]))
                clear hp HAO HA
                go_wp2_with (fail)
                refine HA2.out.mono ?_
                rintro e w1 ⟨rfl, rfl⟩
                go_wp2_with (fail)
                go_roundw
                case rel => exact ⟨k + 1, f, by omega, by go_num, rfl, by rw [HP.out]; exact HF.out, by rw [HP.out]; exact HRK.out⟩
                case measure => simp [intOf]; omega
              · obtain ⟨z, hz⟩ : ∃ z, x.take j ++ (q ++ x.drop (j + p.length)) = z := ⟨_, rfl⟩
                have HAO := HA.out
                rw [hp] at HAO
                have HA2 := Lib.hid HAO
                have hrp := replace58 x p q j wr (by omega) hl1 hl2 (pre_len hp hj)
                rw [hz] at hrp
                have HRP := Lib.hid hrp
                have ha : appl x j (p, q) = some z := by rw [appl, if_pos hp, List.append_assoc, hz]
                have HUP := Lib.hid (upto_yes HXX.out ha)
                have HNE := Lib.hid (show decide (upto rs x j (k + 1) = []) = false by rw [upto_yes HXX.out ha]; simp)
                have HADN := Lib.hid (show expandL L (upto rs x j (k + 1)) = addN (expandL L (upto rs x j k)) z by rw [upto_yes HXX.out ha, expandL_snoc])
                have hlk := HEX.out j k hjl
                have hrk := HRK.out
                clear hp HAO HA hrp ha hz
                go_wp2_with (fail)
                refine HA2.out.mono ?_
                rintro e w1 ⟨rfl, rfl⟩
                go_wp2_with (fail)
                refine HRP.out.mono ?_
                rintro e w2 ⟨rfl, hb2⟩
                have hr2 := hrk.below hb2
                have HR2 := Lib.hid hr2
                obtain ⟨a6', c6', hv6, hS⟩ := hr2.o6.strs (by omega)
                subst hv6
                have HHAS := Lib.hid (has59 a6' _ c6' (expandL L (upto rs x j k)) z _ hS)
                obtain ⟨lk, hlk2⟩ : ∃ lk, (expandL L (upto rs x j k)).length = lk := ⟨_, rfl⟩
                have HLK := Lib.hid hlk2
                have hho := HHAS.out
                rw [hlk2] at hho hlk ⊢
                have HHAS2 := Lib.hid hho
                clear hb2 hr2 hrk hS HHAS hho hlk2
                by_cases hmem : z ∈ expandL L (upto rs x j k)
                · have HAD := Lib.hid (show addN (expandL L (upto rs x j k)) z = expandL L (upto rs x j k) by rw [addN, if_pos hmem])
                  have hho := HHAS2.out
                  rw [decide_eq_true hmem] at hho
                  have HH3 := Lib.hid hho
                  clear hmem hho HHAS2
                  go_wp2_with (fail)
                  refine HH3.out.mono ?_
                  rintro e w3 ⟨rfl, rfl⟩
                  go_wp2_with (fail)
                  go_roundw
                  case rel => exact ⟨k + 1, false, by omega, by go_num, rfl, HNE.out, by rw [HADN.out, HAD.out]; have := HR2.out; rw [HLK.out] at this; exact this⟩
                  case measure => simp [intOf]; omega
                · have HAD := Lib.hid (show addN (expandL L (upto rs x j k)) z = expandL L (upto rs x j k) ++ [z] by rw [addN, if_neg hmem])
                  have hho := HHAS2.out
                  rw [decide_eq_false hmem] at hho
                  have HH3 := Lib.hid hho
                  have hr2 := HR2.out
                  obtain ⟨v', w5, happ, hr5⟩ := hr2.push z (by rw [HLK.out]; omega)
                  rw [HLK.out] at happ
                  have HAP := Lib.hid happ
                  have HR5 := Lib.hid hr5
                  clear hmem hho HHAS2 hr2 happ hr5
                  go_wp2_with (fail)
                  refine HH3.out.mono ?_
                  rintro e w3 ⟨rfl, rfl⟩
                  go_wp2_with (at_builtin; refine wpList_append_known rfl (.tmp 59) (.tmp 61) 26 rfl _ _ _ _ rfl rfl HAP.out ?_)
                  go_roundw
                  case rel => exact ⟨k + 1, false, by omega, by go_num, rfl, HNE.out, by rw [HADN.out, HAD.out]; exact HR5.out⟩
                  case measure => simp [intOf]; omega
            · obtain rfl : n = k := by omega
              go_wp2_with (fail)
              go_roundw
              case rel => exact ⟨j + 1, by omega, by go_num, by rw [← upto_row, HL.out, HF.out], by rw [← upto_row, HL.out]; exact HRK.out⟩
              case measure => simp [intOf]; omega
        · obtain rfl : j = x.length := by omega
          have hua : upto rs x x.length 0 = resL rs x := upto_all
          rw [hua] at HRJ ⊢
          have hrj := HRJ.out
          obtain ⟨a6', c6', rfl, hS⟩ := hrj.o6.strs (by have := HEX.out; have h1 := expandL_len (L := L) (ys := resL rs x); have := HLEN.out; omega)
          obtain ⟨ln, hln⟩ : ∃ ln, (expandL L (resL rs x)).length = ln := ⟨_, rfl⟩
          have HLN := Lib.hid hln
          rw [hln]
          clear hS hrj hln hua
          by_cases h4 : 4096 < ln
          · have HD := Lib.hid (HAT.out.nrOver HX.out (by rw [HLN.out]; exact h4))
            have d4 : decide (4096 < (ln : Int)) = true := by simp; omega
            clear h4
            go_wp2_with (fail)
            go_ret2
            exact nr_ret HD.out (OwnS.nil _ _) HRJ.out.bel
          · have HNX := Lib.hid (HAT.out.next HV.out HX.out (by rw [HLN.out]; omega))
            have d4 : decide (4096 < (ln : Int)) = false := by simp; omega
            have hlt5 : i ≤ 4096 := by omega
            clear h4
            by_cases hz : resL rs x = []
            · have e0 : decide (resL rs x = []) = true := by simpa using hz
              have HZ := Lib.hid hz
              rw [e0]
              have hr7 := HRJ.out
              have hxN : x ∉ sortS N := fun hm => by
                have hmN := (sortS_perm N).mem_iff.1 hm
                have := HNX.out.nn
                rw [if_pos hz, List.nodup_append] at this
                exact this.2.2 x hmN x (by simp) rfl
              have hNl := HAT.out.nlen
              have hsl : (sortS N).length = N.length := (sortS_perm N).length_eq
              obtain ⟨a7, c7, rfl, hS7⟩ := hr7.o7.strs (by rw [hsl]; omega)
              have hcap : (sortS N).length ≤ c7 := by
                rcases hr7.o7.2 with ⟨h1, h2⟩ | ⟨g, cap, cur, h1, _, _, h2, _⟩
                · omega
                · injection h1 with _ _ h1; omega
              have HADD := Lib.hid (add60 a7 _ c7 (sortS N) x wj hS7 hcap (by rw [hsl]; omega) hxN)
              obtain ⟨sl, hsl2⟩ : ∃ sl, (sortS N).length = sl := ⟨_, rfl⟩
              have HSL := Lib.hid hsl2
              have HADo := HADD.out
              rw [hsl2] at HADo ⊢
              have HAD2 := Lib.hid HADo
              clear hr7 hxN hNl hsl hS7 hcap hz HADD HADo hsl2 e0
              go_wp2_with (fail)
              refine HAD2.out.mono ?_
              rintro e w5 ⟨v, rfl, ho, hb⟩
              have HO := Lib.hid ho
              have HB := Lib.hid hb
              clear ho hb
              go_wp2_with (fail)
              go_roundw
              case rel =>
                have h1 := HNX.out
                rw [if_pos HZ.out] at h1
                refine ⟨i + 1, _, N ++ [x], by go_num, ⟨?_, ?_, ?_, bstep HRJ.out.bel HB.out⟩, h1⟩
                · have := owns_below HRJ.out.o6 HB.out
                  unfold OwnS
                  rw [HLN.out] at this ⊢
                  exact this
                · rw [← insS_sort]; exact owns_mono HO.out HRJ.out.bel.size
                · intro k hk hk7
                  have h6 := owns_lt HRJ.out.o6 k (by rw [HLN.out]; exact hk)
                  have := (World.ownsRow.lt HO.out k hk7).1
                  omega
              case measure => simp [intOf]; omega
            · have e0 : decide (resL rs x = []) = false := by simpa using hz
              have HZ := Lib.hid hz
              rw [e0]
              clear hz e0
              go_wp2_with (fail)
              go_roundw
              case rel =>
                have h1 := HNX.out
                rw [if_neg HZ.out] at h1
                exact ⟨i + 1, _, N, by go_num, by have := HRJ.out; rw [HLN.out] at this; exact this, h1⟩
              case measure => simp [intOf]; omega
    · obtain rfl : i = len := by omega
      have HD := Lib.hid (HAT.out.nr HLEN.out.symm)
      have HO7 := Lib.hid HR.out.o7
      have HBE := Lib.hid HR.out.bel
      go_wp2_with (fail)
      go_ret2
      exact nr_ret HD.out HO7.out HBE.out
end Go.Proofs.Ytamdonlncfmmmaa
