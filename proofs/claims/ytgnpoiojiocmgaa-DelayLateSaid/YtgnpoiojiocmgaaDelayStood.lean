/-
  DelayStood: what counts turns just at a See of the other value, when all since one that is On (or Off) ticks ahead were so, of times that do not fall. For every input, with no condition.
-/
import Derived.Test.YtgnpoiojiocmgaaDelayPlays
namespace Go.Proofs.Ytgnpoiojiocmgaa
open Go.RowKit Delay Go.ChangeShapes Go.WideShapes

/-- a See at a time that does not fall, nor is too late -/
theorem see_le {c r b : Bool} {on off s t t' : Int} (h : t ≤ t') (h1 : t' ≤ 1099511627776) : (D.mk c on off r s t).see b t' =
    if b = c then ⟨c, on, off, false, 0, t'⟩ else if (if b then on else off) ≤ t' - (if r then s else t') then ⟨b, on, off, false, 0, t'⟩ else ⟨c, on, off, true, if r then s else t', t'⟩ := by
  have e : clamp t' t = t' := by unfold clamp; omega
  simp only [D.see, D.need, D.from_, e]
theorem ok_of {c r : Bool} {on off s t : Int} (h1 : 0 ≤ on ∧ on ≤ 1000) (h2 : 0 ≤ off ∧ off ≤ 1000) (h3 : 0 ≤ t ∧ t ≤ 1099511627776) (h4 : 0 ≤ s ∧ s ≤ t) (h5 : r = false → s = 0) : (D.mk c on off r s t).ok := ⟨by simp only; omega, by simp only; omega, h3, h4, h5⟩
abbrev BoolsAt (w : World) (l : List Bool) (v : Value) : Prop := LawFrame.RowsAt w 1 (fun x => [.bool x]) l v
abbrev BytesAt (w : World) (l : List UInt8) (v : Value) : Prop := LawFrame.RowsAt w 1 (fun x => [.int .u8 (x.toNat : Int)]) l v
theorem u8_lt (x : UInt8) : x.toNat < 256 := x.toNat_lt
/-- the time that a See has told: 0, where it has not seen the other value -/
def told (r : Bool) (from_ : Int) : Int := if r then from_ else 0

set_option maxHeartbeats 4000000 in
set_option maxRecDepth 100000 in
theorem stood_walk (on off : Int) (hon : 0 ≤ on ∧ on ≤ 255) (hoff : 0 ≤ off ∧ off ≤ 255) (l : List Bool) (m : List UInt8) (v x : Value) (w : World) (hl : l.length ≤ 300) (_hm : m.length ≤ 9223372036854775807) (h : BoolsAt w l v) (hx : BytesAt w m x) :
    Calls Try.prog 4 #[.int .u8 on, .int .u8 off, v, x] w fun e w' => e = .returned (.bool true) ∧ Below w.heap.size w w' := by
  have hv := h
  have hvx := hx
  obtain ⟨A, c, rfl, hc, -⟩ := hv
  obtain ⟨A2, c2, rfl, hc2, -⟩ := hvx
  have H := Lib.hid h
  have HX := Lib.hid hx
  clear h hx
  go_enter Try.func4, Try.ntmps4
  go_wp2_with fail
  refine (head_any _).mono ?_
  rintro e w1 ⟨rfl, hb1⟩
  go_wp2_with fail
  have o0 : (new on off) = ⟨false, on, off, false, 0, 0⟩ := by
    have e1 : clamp on 0 = on := by unfold clamp; omega
    have e2 : clamp off 0 = off := by unfold clamp; omega
    simp [new, e1, e2]
  have HO0 := Lib.hid o0
  clear o0
  refine (New_is on off _ HO0.out _).mono ?_
  rintro e w2 ⟨rfl, hA2, hb2⟩
  have hs1 := hb1.size
  have hB2 := hb1.trans (hb2.mono hs1)
  have HA2 := Lib.hid hA2
  clear hA2 hb2 hb1 HO0
  go_wp2_with fail
  go_loopw [11, 12, 13, 14, 15] (fun u11 u12 u13 u14 u15 wr => ∃ (k : Nat) (c r : Bool) (fr now : Int), k ≤ l.length ∧ u15 = .int .i64 k ∧ u11 = .bool c ∧ u14 = .bool r ∧ u13 = .int .i64 fr ∧ u12 = .int .i64 now ∧ 0 ≤ fr ∧ fr ≤ now ∧ now ≤ 255 * k ∧
      DAt wr w1.heap.size ⟨c, on, off, r, told r fr, now⟩ ∧ Below w.heap.size w wr) (fun _ _ _ _ u15 _ => l.length - (intOf u15).toNat)
  case atStart => exact ⟨0, false, false, 0, 0, Nat.zero_le _, rfl, rfl, rfl, rfl, rfl, by omega, by omega, by omega, HA2.out, hB2⟩
  case round =>
    clear HA2 hB2
    obtain ⟨k, c, r, fr, now, hk, rfl, rfl, rfl, rfl, rfl, hf0, hf1, hn, hA, hB⟩ := hrel
    have HA := Lib.hid hA
    clear hA
    by_cases hlt : k < l.length
    · by_cases hlt2 : k < m.length
      · obtain ⟨b, hxb⟩ : ∃ b, l[k]? = some b := ⟨_, List.getElem?_eq_getElem hlt⟩
        obtain ⟨st, hxs⟩ : ∃ st, m[k]? = some st := ⟨_, List.getElem?_eq_getElem hlt2⟩
        obtain ⟨b1, o1, c1, hv, hbl, hcell⟩ := H.out.at_ hxb
        obtain ⟨b2, o2, c2', hv2, hbl2, hcell2⟩ := HX.out.at_ hxs
        have E0 := Lib.hid (hcell 0 _ rfl)
        simp only [Nat.add_zero, Nat.mul_one] at E0
        have e0 := (hB.cell (p := ⟨b1, o1 + k, none⟩) hbl).trans E0.out
        have e1 := (hB.cell (p := ⟨b2, o2 + k * 1 + 0, none⟩) hbl2).trans (hcell2 0 _ rfl)
        simp only [Nat.add_zero, Nat.mul_one] at e1
        injection hv with hAa e2 e3
        injection hv2 with hAb e4 e5
        subst hAa hAb
        clear e2 e3 e4 e5 hcell hcell2 hxb hxs
        have hst := u8_lt st
        have hB' := Lib.hid hB
        clear hB
        have hs := hB'.out.size
        cases b <;> cases c <;> cases r
        · have HS := Lib.hid (show (D.mk false on off false (told false fr) now).see false (now + (st.toNat : Int)) = ⟨false, on, off, false, 0, (now + (st.toNat : Int))⟩ by rw [see_le (by omega) (by omega)]; simp)
          have hok : (D.mk false on off false (told false fr) now).ok := ok_of (by omega) (by omega) (by omega) (by simp only [told, Bool.false_eq_true, if_false]; omega) (by intro h; rfl)
          have HK := Lib.hid hok
          clear hok
          go_wp2_with fail
          refine (See_is _ _ _ false _ HS.out _ HA.out HK.out).mono ?_
          rintro e w4 ⟨rfl, hA4, hg4⟩
          have HA4 := Lib.hid hA4
          have hB4 := below_grown hB'.out hg4 hs hs1
          clear hA4 hg4 e0
          have e0 := (hB4.cell (p := ⟨b1, o1 + k, none⟩) hbl).trans E0.out
          go_wp2_with fail
          refine (Value_any _ _ _ HA4.out).mono ?_
          rintro e w5 ⟨rfl, rfl⟩
          go_wp2_with fail
          go_roundw
          case rel => exact ⟨k + 1, false, false, fr, (now + (st.toNat : Int)), by omega, by go_num, rfl, rfl, rfl, rfl, by omega, by omega, by omega, HA4.out, hB4⟩
          case measure => simp [intOf]; omega
        · have HS := Lib.hid (show (D.mk false on off true (told true fr) now).see false (now + (st.toNat : Int)) = ⟨false, on, off, false, 0, (now + (st.toNat : Int))⟩ by rw [see_le (by omega) (by omega)]; simp)
          have hok : (D.mk false on off true (told true fr) now).ok := ok_of (by omega) (by omega) (by omega) (by simp only [told, if_true]; omega) (by intro h; cases h)
          have HK := Lib.hid hok
          clear hok
          go_wp2_with fail
          refine (See_is _ _ _ false _ HS.out _ HA.out HK.out).mono ?_
          rintro e w4 ⟨rfl, hA4, hg4⟩
          have HA4 := Lib.hid hA4
          have hB4 := below_grown hB'.out hg4 hs hs1
          clear hA4 hg4 e0
          have e0 := (hB4.cell (p := ⟨b1, o1 + k, none⟩) hbl).trans E0.out
          go_wp2_with fail
          refine (Value_any _ _ _ HA4.out).mono ?_
          rintro e w5 ⟨rfl, rfl⟩
          go_wp2_with fail
          go_roundw
          case rel => exact ⟨k + 1, false, false, fr, (now + (st.toNat : Int)), by omega, by go_num, rfl, rfl, rfl, rfl, by omega, by omega, by omega, HA4.out, hB4⟩
          case measure => simp [intOf]; omega
        · by_cases hn1 : off ≤ 0
          · have HS := Lib.hid (show (D.mk true on off false (told false fr) now).see false (now + (st.toNat : Int)) = ⟨false, on, off, false, 0, (now + (st.toNat : Int))⟩ by rw [see_le (by omega) (by omega)]; simp [hn1])
            have hok : (D.mk true on off false (told false fr) now).ok := ok_of (by omega) (by omega) (by omega) (by simp only [told, Bool.false_eq_true, if_false]; omega) (by intro h; rfl)
            have HK := Lib.hid hok
            clear hok
            go_wp2_with fail
            refine (See_is _ _ _ false _ HS.out _ HA.out HK.out).mono ?_
            rintro e w4 ⟨rfl, hA4, hg4⟩
            have HA4 := Lib.hid hA4
            have hB4 := below_grown hB'.out hg4 hs hs1
            clear hA4 hg4 e0
            have e0 := (hB4.cell (p := ⟨b1, o1 + k, none⟩) hbl).trans E0.out
            go_wp2_with fail
            refine (Value_any _ _ _ HA4.out).mono ?_
            rintro e w5 ⟨rfl, rfl⟩
            go_wp2_with fail
            go_roundw
            case rel => exact ⟨k + 1, false, false, (now + (st.toNat : Int)), (now + (st.toNat : Int)), by omega, by go_num, rfl, rfl, rfl, rfl, by omega, by omega, by omega, HA4.out, hB4⟩
            case measure => simp [intOf]; omega
          · have HS := Lib.hid (show (D.mk true on off false (told false fr) now).see false (now + (st.toNat : Int)) = ⟨true, on, off, true, (now + (st.toNat : Int)), (now + (st.toNat : Int))⟩ by rw [see_le (by omega) (by omega)]; simp [hn1])
            have hok : (D.mk true on off false (told false fr) now).ok := ok_of (by omega) (by omega) (by omega) (by simp only [told, Bool.false_eq_true, if_false]; omega) (by intro h; rfl)
            have HK := Lib.hid hok
            clear hok
            go_wp2_with fail
            refine (See_is _ _ _ false _ HS.out _ HA.out HK.out).mono ?_
            rintro e w4 ⟨rfl, hA4, hg4⟩
            have HA4 := Lib.hid hA4
            have hB4 := below_grown hB'.out hg4 hs hs1
            clear hA4 hg4 e0
            have e0 := (hB4.cell (p := ⟨b1, o1 + k, none⟩) hbl).trans E0.out
            go_wp2_with fail
            refine (Value_any _ _ _ HA4.out).mono ?_
            rintro e w5 ⟨rfl, rfl⟩
            go_wp2_with fail
            go_roundw
            case rel => exact ⟨k + 1, true, true, (now + (st.toNat : Int)), (now + (st.toNat : Int)), by omega, by go_num, rfl, rfl, rfl, rfl, by omega, by omega, by omega, HA4.out, hB4⟩
            case measure => simp [intOf]; omega
        · by_cases hn1 : off ≤ (now + (st.toNat : Int)) - fr
          · have HS := Lib.hid (show (D.mk true on off true (told true fr) now).see false (now + (st.toNat : Int)) = ⟨false, on, off, false, 0, (now + (st.toNat : Int))⟩ by rw [see_le (by omega) (by omega)]; simp [told, hn1])
            have hok : (D.mk true on off true (told true fr) now).ok := ok_of (by omega) (by omega) (by omega) (by simp only [told, if_true]; omega) (by intro h; cases h)
            have HK := Lib.hid hok
            clear hok
            go_wp2_with fail
            refine (See_is _ _ _ false _ HS.out _ HA.out HK.out).mono ?_
            rintro e w4 ⟨rfl, hA4, hg4⟩
            have HA4 := Lib.hid hA4
            have hB4 := below_grown hB'.out hg4 hs hs1
            clear hA4 hg4 e0
            have e0 := (hB4.cell (p := ⟨b1, o1 + k, none⟩) hbl).trans E0.out
            go_wp2_with fail
            refine (Value_any _ _ _ HA4.out).mono ?_
            rintro e w5 ⟨rfl, rfl⟩
            go_wp2_with fail
            go_roundw
            case rel => exact ⟨k + 1, false, false, fr, (now + (st.toNat : Int)), by omega, by go_num, rfl, rfl, rfl, rfl, by omega, by omega, by omega, HA4.out, hB4⟩
            case measure => simp [intOf]; omega
          · have HS := Lib.hid (show (D.mk true on off true (told true fr) now).see false (now + (st.toNat : Int)) = ⟨true, on, off, true, fr, (now + (st.toNat : Int))⟩ by rw [see_le (by omega) (by omega)]; simp [told, hn1])
            have hok : (D.mk true on off true (told true fr) now).ok := ok_of (by omega) (by omega) (by omega) (by simp only [told, if_true]; omega) (by intro h; cases h)
            have HK := Lib.hid hok
            clear hok
            go_wp2_with fail
            refine (See_is _ _ _ false _ HS.out _ HA.out HK.out).mono ?_
            rintro e w4 ⟨rfl, hA4, hg4⟩
            have HA4 := Lib.hid hA4
            have hB4 := below_grown hB'.out hg4 hs hs1
            clear hA4 hg4 e0
            have e0 := (hB4.cell (p := ⟨b1, o1 + k, none⟩) hbl).trans E0.out
            go_wp2_with fail
            refine (Value_any _ _ _ HA4.out).mono ?_
            rintro e w5 ⟨rfl, rfl⟩
            go_wp2_with fail
            go_roundw
            case rel => exact ⟨k + 1, true, true, fr, (now + (st.toNat : Int)), by omega, by go_num, rfl, rfl, rfl, rfl, by omega, by omega, by omega, HA4.out, hB4⟩
            case measure => simp [intOf]; omega
        · by_cases hn1 : on ≤ 0
          · have HS := Lib.hid (show (D.mk false on off false (told false fr) now).see true (now + (st.toNat : Int)) = ⟨true, on, off, false, 0, (now + (st.toNat : Int))⟩ by rw [see_le (by omega) (by omega)]; simp [hn1])
            have hok : (D.mk false on off false (told false fr) now).ok := ok_of (by omega) (by omega) (by omega) (by simp only [told, Bool.false_eq_true, if_false]; omega) (by intro h; rfl)
            have HK := Lib.hid hok
            clear hok
            go_wp2_with fail
            refine (See_is _ _ _ true _ HS.out _ HA.out HK.out).mono ?_
            rintro e w4 ⟨rfl, hA4, hg4⟩
            have HA4 := Lib.hid hA4
            have hB4 := below_grown hB'.out hg4 hs hs1
            clear hA4 hg4 e0
            have e0 := (hB4.cell (p := ⟨b1, o1 + k, none⟩) hbl).trans E0.out
            go_wp2_with fail
            refine (Value_any _ _ _ HA4.out).mono ?_
            rintro e w5 ⟨rfl, rfl⟩
            go_wp2_with fail
            go_roundw
            case rel => exact ⟨k + 1, true, false, (now + (st.toNat : Int)), (now + (st.toNat : Int)), by omega, by go_num, rfl, rfl, rfl, rfl, by omega, by omega, by omega, HA4.out, hB4⟩
            case measure => simp [intOf]; omega
          · have HS := Lib.hid (show (D.mk false on off false (told false fr) now).see true (now + (st.toNat : Int)) = ⟨false, on, off, true, (now + (st.toNat : Int)), (now + (st.toNat : Int))⟩ by rw [see_le (by omega) (by omega)]; simp [hn1])
            have hok : (D.mk false on off false (told false fr) now).ok := ok_of (by omega) (by omega) (by omega) (by simp only [told, Bool.false_eq_true, if_false]; omega) (by intro h; rfl)
            have HK := Lib.hid hok
            clear hok
            go_wp2_with fail
            refine (See_is _ _ _ true _ HS.out _ HA.out HK.out).mono ?_
            rintro e w4 ⟨rfl, hA4, hg4⟩
            have HA4 := Lib.hid hA4
            have hB4 := below_grown hB'.out hg4 hs hs1
            clear hA4 hg4 e0
            have e0 := (hB4.cell (p := ⟨b1, o1 + k, none⟩) hbl).trans E0.out
            go_wp2_with fail
            refine (Value_any _ _ _ HA4.out).mono ?_
            rintro e w5 ⟨rfl, rfl⟩
            go_wp2_with fail
            go_roundw
            case rel => exact ⟨k + 1, false, true, (now + (st.toNat : Int)), (now + (st.toNat : Int)), by omega, by go_num, rfl, rfl, rfl, rfl, by omega, by omega, by omega, HA4.out, hB4⟩
            case measure => simp [intOf]; omega
        · by_cases hn1 : on ≤ (now + (st.toNat : Int)) - fr
          · have HS := Lib.hid (show (D.mk false on off true (told true fr) now).see true (now + (st.toNat : Int)) = ⟨true, on, off, false, 0, (now + (st.toNat : Int))⟩ by rw [see_le (by omega) (by omega)]; simp [told, hn1])
            have hok : (D.mk false on off true (told true fr) now).ok := ok_of (by omega) (by omega) (by omega) (by simp only [told, if_true]; omega) (by intro h; cases h)
            have HK := Lib.hid hok
            clear hok
            go_wp2_with fail
            refine (See_is _ _ _ true _ HS.out _ HA.out HK.out).mono ?_
            rintro e w4 ⟨rfl, hA4, hg4⟩
            have HA4 := Lib.hid hA4
            have hB4 := below_grown hB'.out hg4 hs hs1
            clear hA4 hg4 e0
            have e0 := (hB4.cell (p := ⟨b1, o1 + k, none⟩) hbl).trans E0.out
            go_wp2_with fail
            refine (Value_any _ _ _ HA4.out).mono ?_
            rintro e w5 ⟨rfl, rfl⟩
            go_wp2_with fail
            go_roundw
            case rel => exact ⟨k + 1, true, false, fr, (now + (st.toNat : Int)), by omega, by go_num, rfl, rfl, rfl, rfl, by omega, by omega, by omega, HA4.out, hB4⟩
            case measure => simp [intOf]; omega
          · have HS := Lib.hid (show (D.mk false on off true (told true fr) now).see true (now + (st.toNat : Int)) = ⟨false, on, off, true, fr, (now + (st.toNat : Int))⟩ by rw [see_le (by omega) (by omega)]; simp [told, hn1])
            have hok : (D.mk false on off true (told true fr) now).ok := ok_of (by omega) (by omega) (by omega) (by simp only [told, if_true]; omega) (by intro h; cases h)
            have HK := Lib.hid hok
            clear hok
            go_wp2_with fail
            refine (See_is _ _ _ true _ HS.out _ HA.out HK.out).mono ?_
            rintro e w4 ⟨rfl, hA4, hg4⟩
            have HA4 := Lib.hid hA4
            have hB4 := below_grown hB'.out hg4 hs hs1
            clear hA4 hg4 e0
            have e0 := (hB4.cell (p := ⟨b1, o1 + k, none⟩) hbl).trans E0.out
            go_wp2_with fail
            refine (Value_any _ _ _ HA4.out).mono ?_
            rintro e w5 ⟨rfl, rfl⟩
            go_wp2_with fail
            go_roundw
            case rel => exact ⟨k + 1, false, true, fr, (now + (st.toNat : Int)), by omega, by go_num, rfl, rfl, rfl, rfl, by omega, by omega, by omega, HA4.out, hB4⟩
            case measure => simp [intOf]; omega
        · have HS := Lib.hid (show (D.mk true on off false (told false fr) now).see true (now + (st.toNat : Int)) = ⟨true, on, off, false, 0, (now + (st.toNat : Int))⟩ by rw [see_le (by omega) (by omega)]; simp)
          have hok : (D.mk true on off false (told false fr) now).ok := ok_of (by omega) (by omega) (by omega) (by simp only [told, Bool.false_eq_true, if_false]; omega) (by intro h; rfl)
          have HK := Lib.hid hok
          clear hok
          go_wp2_with fail
          refine (See_is _ _ _ true _ HS.out _ HA.out HK.out).mono ?_
          rintro e w4 ⟨rfl, hA4, hg4⟩
          have HA4 := Lib.hid hA4
          have hB4 := below_grown hB'.out hg4 hs hs1
          clear hA4 hg4 e0
          have e0 := (hB4.cell (p := ⟨b1, o1 + k, none⟩) hbl).trans E0.out
          go_wp2_with fail
          refine (Value_any _ _ _ HA4.out).mono ?_
          rintro e w5 ⟨rfl, rfl⟩
          go_wp2_with fail
          go_roundw
          case rel => exact ⟨k + 1, true, false, fr, (now + (st.toNat : Int)), by omega, by go_num, rfl, rfl, rfl, rfl, by omega, by omega, by omega, HA4.out, hB4⟩
          case measure => simp [intOf]; omega
        · have HS := Lib.hid (show (D.mk true on off true (told true fr) now).see true (now + (st.toNat : Int)) = ⟨true, on, off, false, 0, (now + (st.toNat : Int))⟩ by rw [see_le (by omega) (by omega)]; simp)
          have hok : (D.mk true on off true (told true fr) now).ok := ok_of (by omega) (by omega) (by omega) (by simp only [told, if_true]; omega) (by intro h; cases h)
          have HK := Lib.hid hok
          clear hok
          go_wp2_with fail
          refine (See_is _ _ _ true _ HS.out _ HA.out HK.out).mono ?_
          rintro e w4 ⟨rfl, hA4, hg4⟩
          have HA4 := Lib.hid hA4
          have hB4 := below_grown hB'.out hg4 hs hs1
          clear hA4 hg4 e0
          have e0 := (hB4.cell (p := ⟨b1, o1 + k, none⟩) hbl).trans E0.out
          go_wp2_with fail
          refine (Value_any _ _ _ HA4.out).mono ?_
          rintro e w5 ⟨rfl, rfl⟩
          go_wp2_with fail
          go_roundw
          case rel => exact ⟨k + 1, true, false, fr, (now + (st.toNat : Int)), by omega, by go_num, rfl, rfl, rfl, rfl, by omega, by omega, by omega, HA4.out, hB4⟩
          case measure => simp [intOf]; omega
      · go_wp2_with fail
        go_ret
        exact ⟨rfl, hB⟩
    · go_wp2_with fail
      go_ret
      exact ⟨rfl, hB⟩
theorem stood_big (on off : Int) (hon : 0 ≤ on ∧ on ≤ 255) (hoff : 0 ≤ off ∧ off ≤ 255) (A : Option Addr) (k c : Nat) (x : Value) (w : World) (hl : 300 < k) :
    Calls Try.prog 4 #[.int .u8 on, .int .u8 off, .slice A k c, x] w fun e w' => e = .returned (.bool true) ∧ Below w.heap.size w w' := by
  go_enter Try.func4, Try.ntmps4
  go_wp2_with fail
  refine (head_any _).mono ?_
  rintro e w1 ⟨rfl, hb1⟩
  go_wp2_with fail
  refine (New_any on off _).mono ?_
  rintro e w2 ⟨rfl, hA2, hb2⟩
  have hB2 := hb1.trans (hb2.mono hb1.size)
  go_wp2_with fail
  go_ret
  exact ⟨rfl, hB2⟩
set_option maxRecDepth 100000 in
theorem stood_lifted (os : Os) (started : os.Started) (H : Type) (enc : TypeId × Value → H) :
    ReturnsInHanded {} Try.checked os 4 .any (Rows.delayStoodSpec.pre6 enc Try.prog Try.f4 Rows.delayStoodRow.domain false) (Rows.delayStoodSpec.post enc Try.prog Try.f4 false true false false) := by
  refine LawFrame.handed (C := Try.checked) (tb := 4) (by kernel_rfl) (by kernel_rfl) (by kernel_rfl) Try.underlying4 rfl (fun ds hd => ?_) own started (by kernel_rfl) Try.func4
    (ChangeSpec.witness6 (enc := enc) (C := Try.checked) false ⟨#[], #[.int .u8 0, .int .u8 0, .slice none 0 0, .slice none 0 0], []⟩ 8 (by kernel_rfl) (by kernel_rfl) (by kernel_rfl) (by kernel_rfl)) ?_
  · rw [Try.params4] at hd
    match ds, hd with
    | [d1, d2, d3, d4], _ => rfl
  · intro W args ds before base hval hA hlt hsz
    rw [Try.params4] at hval hA
    obtain ⟨v0, vs0, d0, ds0, p0, q0, hargs, rfl, rfl, h0, r0⟩ := trodAll_cons hA
    obtain ⟨v1, vs1, d1, ds1, p1, q1, rfl, rfl, rfl, h1, r1⟩ := trodAll_cons r0
    obtain ⟨v2, vs2, d2, ds2, p2, q2, rfl, rfl, rfl, h2, r2⟩ := trodAll_cons r1
    obtain ⟨v3, vs3, d3, ds3, p3, q3, rfl, rfl, rfl, h3, r3⟩ := trodAll_cons r2
    obtain ⟨rfl, rfl, rfl⟩ := trodAll_nil r3
    obtain rfl : args = #[v0, v1, v2, v3] := by cases args; simp_all
    obtain ⟨on, rfl, rfl, rfl, w0⟩ := open_int Try.underlying5 (hval 0 5 v0 rfl rfl) h0
    obtain ⟨off, rfl, rfl, rfl, w1⟩ := open_int Try.underlying5 (hval 1 5 v1 rfl rfl) h1
    obtain ⟨l, hl, _⟩ := LawFrame.open_bools Try.underlying34 Try.underlying4 (by kernel_rfl) (hval 2 34 v2 rfl rfl) h2
    obtain ⟨m, hm, hml⟩ := LawFrame.open_bytes Try.underlying35 Try.underlying5 (by kernel_rfl) (hval 3 35 v3 rfl rfl) h3
    obtain ⟨a0, a1⟩ := bounds_u8 w0
    obtain ⟨c0, c1⟩ := bounds_u8 w1
    unfold maxLen at hml
    rcases Nat.lt_or_ge 300 l.length with h5 | h5
    · obtain ⟨A, c, rfl, hc, -⟩ := hl
      exact stood_big on off ⟨a0, a1⟩ ⟨c0, c1⟩ A _ c _ W h5
    · exact stood_walk on off ⟨a0, a1⟩ ⟨c0, c1⟩ l m v2 v3 W h5 hml hl hm
theorem stood_holds : Rows.DelayStoodSaid :=
  OpenClaim.holds_of_wide 4 Try.f4 rfl rfl rfl rfl rfl rfl rfl ⟨rfl, rfl, rfl, rfl, rfl⟩ rfl rfl rfl rfl rfl (by kernel_rfl) Try.func4 (by kernel_rfl)
    (of_decide_eq_true (by kernel_rfl)) (by unfold Func.isWrapper; first | (rw [if_pos (by decide +kernel)]; kernel_rfl) | (rw [if_neg (by decide +kernel)]; exact ⟨rfl, rfl⟩))
    (fun os started H enc _ => stood_lifted os started H enc)
#print axioms stood_holds
end Go.Proofs.Ytgnpoiojiocmgaa
