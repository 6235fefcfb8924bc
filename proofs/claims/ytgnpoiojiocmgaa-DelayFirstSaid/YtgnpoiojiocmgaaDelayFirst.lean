/-
  DelayFirst: a value that is seen again and again counts first at the first See that is On ticks behind the first one, or later; then the other one, likewise, Off ticks behind its first. For every input, with no condition.
-/
import Derived.Test.YtgnpoiojiocmgaaDelayBack
namespace Go.Proofs.Ytgnpoiojiocmgaa
open Go.RowKit Delay Go.ChangeShapes Go.WideShapes

/-- what a delay is that has seen true from 3 on: whether it counts by now -/
def upD (on off now : Int) : D := if on ≤ now - 3 then ⟨true, on, off, false, 0, now⟩ else ⟨false, on, off, true, 3, now⟩
/-- what a delay is that counts and has seen false from fr on -/
def downD (on off fr now : Int) : D := if off ≤ now - fr then ⟨false, on, off, false, 0, now⟩ else ⟨true, on, off, true, fr, now⟩
theorem upD_ok {on off now : Int} (hon : 0 ≤ on ∧ on ≤ 255) (hoff : 0 ≤ off ∧ off ≤ 255) (h3 : 3 ≤ now) (h4 : now ≤ 1099511627776) : (upD on off now).ok := by
  unfold upD
  split
  · exact ok_of (by omega) (by omega) (by omega) (by omega) (by simp)
  · exact ok_of (by omega) (by omega) (by omega) (by omega) (by intro h; cases h)
theorem downD_ok {on off fr now : Int} (hon : 0 ≤ on ∧ on ≤ 255) (hoff : 0 ≤ off ∧ off ≤ 255) (h3 : 0 ≤ fr ∧ fr ≤ now) (h4 : now ≤ 1099511627776) : (downD on off fr now).ok := by
  unfold downD
  split
  · exact ok_of (by omega) (by omega) (by omega) (by omega) (by simp)
  · exact ok_of (by omega) (by omega) (by omega) (by omega) (by intro h; cases h)
theorem up_step {on off now t' : Int} (h : now ≤ t') (h1 : t' ≤ 1099511627776) (_h3 : 3 ≤ now) : (upD on off now).see true t' = upD on off t' := by
  unfold upD
  split
  · rw [see_le h h1, if_pos rfl, if_pos (by omega)]
  · rw [see_le h h1, if_neg (by simp)]
    simp only [if_true]
theorem down_step {on off fr now t' : Int} (h : now ≤ t') (h1 : t' ≤ 1099511627776) : (downD on off fr now).see false t' = downD on off fr t' := by
  unfold downD
  split
  · rw [see_le h h1, if_pos rfl, if_pos (by omega)]
  · rw [see_le h h1, if_neg (by simp)]
    simp only [if_true, Bool.false_eq_true, if_false]
theorem upD_v (on off now : Int) : (upD on off now).v = decide (on ≤ now - 3) := by unfold upD; split <;> simp [*]
theorem downD_v (on off fr now : Int) : (downD on off fr now).v = !decide (off ≤ now - fr) := by unfold downD; split <;> simp [*]

set_option maxHeartbeats 4000000 in
set_option maxRecDepth 100000 in
theorem first_walk (on off : Int) (hon : 0 ≤ on ∧ on ≤ 255) (hoff : 0 ≤ off ∧ off ≤ 255) (l m : List UInt8) (v x : Value) (w : World) (hl : l.length ≤ 300) (hm : m.length ≤ 300) (h : BytesAt w l v) (hx : BytesAt w m x) :
    Calls Try.prog 7 #[.int .u8 on, .int .u8 off, v, x] w fun e w' => e = .returned (.bool true) ∧ Below w.heap.size w w' := by
  have hv := h
  have hvx := hx
  obtain ⟨A, c, rfl, hc, -⟩ := hv
  obtain ⟨A2, c2, rfl, hc2, -⟩ := hvx
  have H := Lib.hid h
  have HX := Lib.hid hx
  clear h hx
  go_enter Try.func7, Try.ntmps7
  go_wp2_with fail
  refine (head_any _).mono ?_
  rintro e w1 ⟨rfl, hb1⟩
  have hs1 := hb1.size
  have HO0 := Lib.hid (show new on off = ⟨false, on, off, false, 0, 0⟩ by
    have e1 : clamp on 0 = on := by unfold clamp; omega
    have e2 : clamp off 0 = off := by unfold clamp; omega
    simp [new, e1, e2])
  go_wp2_with fail
  refine (New_is on off _ HO0.out _).mono ?_
  rintro e w2 ⟨rfl, hA2, hb2⟩
  have hB2 := hb1.trans (hb2.mono hs1)
  have hs2 := hB2.size
  have HA2 := Lib.hid hA2
  clear hA2 hb1 hb2 HO0
  have HU := Lib.hid (show (D.mk false on off false 0 0).see true 3 = upD on off 3 by rw [see_le (by omega) (by omega)]; unfold upD; simp)
  have HV := Lib.hid (upD_v on off 3)
  have HK0 := Lib.hid (show (D.mk false on off false 0 0).ok from ok_of (by omega) (by omega) (by omega) (by omega) (by simp))
  go_wp2_with fail
  refine (See_is w1.heap.size _ _ true 3 HU.out _ HA2.out HK0.out).mono ?_
  rintro e w3 ⟨rfl, hA, hg⟩
  have HA3 := Lib.hid hA
  have hB3 := below_grown hB2 hg hs2 hs1
  clear hA hg HA2 hB2 HU HK0 hs2
  rw [HV.out]
  clear HV
  by_cases hz : on ≤ 0
  · have e3 : decide (on ≤ 3 - 3) = true := by simp; omega
    have e4 : (on == 0) = true := by simp; omega
    rw [e3]
    clear e3
    go_wp2_with fail
    clear e4 hz
    go_loopw [11, 14] (fun un ui wr => ∃ (k : Nat) (now : Int), k ≤ l.length ∧ ui = .int .i64 k ∧ un = .int .i64 now ∧ 3 ≤ now ∧ now ≤ 3 + 255 * k ∧ DAt wr w1.heap.size (upD on off now) ∧ Below w.heap.size w wr) (fun _ ui _ => l.length - (intOf ui).toNat)
    case atStart => exact ⟨0, 3, Nat.zero_le _, rfl, rfl, by omega, by omega, HA3.out, hB3⟩
    case round =>
      clear HA3 hB3
      obtain ⟨k, now, hk, rfl, rfl, hn0, hn, hA, hB⟩ := hrel
      have HA := Lib.hid hA
      have HB := Lib.hid hB
      have hs := hB.size
      clear hA hB
      by_cases hlt : k < l.length
      · obtain ⟨st, hxs⟩ : ∃ st, l[k]? = some st := ⟨_, List.getElem?_eq_getElem hlt⟩
        obtain ⟨b2, o2, c2', hv2, hbl2, hcell2⟩ := H.out.at_ hxs
        have e1 := (HB.out.cell (p := ⟨b2, o2 + k * 1 + 0, none⟩) hbl2).trans (hcell2 0 _ rfl)
        simp only [Nat.add_zero, Nat.mul_one] at e1
        injection hv2 with hAb e4 e5
        subst hAb
        clear e4 e5 hcell2 hxs
        have hst := u8_lt st
        have HS := Lib.hid (up_step (on := on) (off := off) (now := now) (t' := now + (st.toNat : Int)) (by omega) (by omega) hn0)
        have HK := Lib.hid (upD_ok hon hoff hn0 (by omega : now ≤ 1099511627776))
        have HV := Lib.hid (upD_v on off (now + (st.toNat : Int)))
        go_wp2_with fail
        refine (See_is w1.heap.size _ _ true _ HS.out _ HA.out HK.out).mono ?_
        rintro e w4 ⟨rfl, hA, hg⟩
        have HA4 := Lib.hid hA
        have HB4 := Lib.hid (below_grown HB.out hg hs hs1)
        clear hA hg
        rw [HV.out]
        go_wp2_with fail
        go_roundw
        case rel => exact ⟨k + 1, now + (st.toNat : Int), by omega, by go_num, rfl, by omega, by omega, HA4.out, HB4.out⟩
        case measure => simp [intOf]; omega
      · have HV := Lib.hid (upD_v on off now)
        by_cases hon3 : on ≤ now - 3
        · have HT := Lib.hid (show upD on off now = ⟨true, on, off, false, 0, now⟩ by unfold upD; rw [if_pos hon3])
          have HD := Lib.hid (show (D.mk true on off false 0 now).see false now = downD on off now now by rw [see_le (by omega) (by omega)]; unfold downD; simp)
          have HK := Lib.hid (show (D.mk true on off false 0 now).ok from ok_of (by omega) (by omega) (by omega) (by omega) (by simp))
          have hA' := HA.out
          rw [HT.out] at hA'
          have HA' := Lib.hid hA'
          clear hA' hon3 HV HA
          go_wp2_with fail
          refine (Value_any w1.heap.size _ _ HA'.out).mono ?_
          rintro e w4 ⟨rfl, rfl⟩
          go_wp2_with fail
          refine (See_is w1.heap.size _ _ false _ HD.out _ HA'.out HK.out).mono ?_
          rintro e w5 ⟨rfl, hA, hg⟩
          have HA5 := Lib.hid hA
          have HB5 := Lib.hid (below_grown HB.out hg hs hs1)
          have HW := Lib.hid (downD_v on off now now)
          clear hA hg HA' HD HK
          rw [HW.out]
          by_cases hz : off ≤ 0
          · have e3 : (!decide (off ≤ now - now)) = false := by simp; omega
            have e4 : (off != 0) = false := by simp; omega
            rw [e3]
            clear e3
            go_wp2_with fail
            clear e4 hz
            go_loopw [11, 15] (fun un ui wr => ∃ (j : Nat) (t : Int), j ≤ m.length ∧ ui = .int .i64 j ∧ un = .int .i64 t ∧ now ≤ t ∧ t ≤ now + 255 * j ∧ DAt wr w1.heap.size (downD on off now t) ∧ Below w.heap.size w wr) (fun _ ui _ => m.length - (intOf ui).toNat)
            case atStart => exact ⟨0, now, Nat.zero_le _, rfl, rfl, by omega, by omega, HA5.out, HB5.out⟩
            case round =>
              clear HA5 HB5
              obtain ⟨j, t, hj, rfl, rfl, ht0, ht, hA, hB⟩ := hrel
              have HA := Lib.hid hA
              have HB := Lib.hid hB
              have hsj := hB.size
              clear hA hB
              by_cases hltj : j < m.length
              · obtain ⟨st, hxs⟩ : ∃ st, m[j]? = some st := ⟨_, List.getElem?_eq_getElem hltj⟩
                obtain ⟨b2, o2, c2', hv2, hbl2, hcell2⟩ := HX.out.at_ hxs
                have e1 := (HB.out.cell (p := ⟨b2, o2 + j * 1 + 0, none⟩) hbl2).trans (hcell2 0 _ rfl)
                simp only [Nat.add_zero, Nat.mul_one] at e1
                injection hv2 with hAb e4 e5
                subst hAb
                clear e4 e5 hcell2 hxs
                have hst := u8_lt st
                have HS := Lib.hid (down_step (on := on) (off := off) (fr := now) (now := t) (t' := t + (st.toNat : Int)) (by omega) (by omega))
                have HK := Lib.hid (downD_ok (on := on) (off := off) (fr := now) (now := t) hon hoff (by omega) (by omega))
                have HV := Lib.hid (downD_v on off now (t + (st.toNat : Int)))
                go_wp2_with fail
                refine (See_is w1.heap.size _ _ false _ HS.out _ HA.out HK.out).mono ?_
                rintro e w6 ⟨rfl, hA, hg⟩
                have HA6 := Lib.hid hA
                have HB6 := Lib.hid (below_grown HB.out hg hsj hs1)
                clear hA hg
                rw [HV.out]
                by_cases hq : off ≤ t + (st.toNat : Int) - now
                · have e5 : (!decide (off ≤ t + (st.toNat : Int) - now)) = false := by simp [hq]
                  have e6 : ¬ t + (st.toNat : Int) - now < off := by omega
                  rw [e5]
                  clear e5
                  go_wp2_with fail
                  go_roundw
                  case rel => exact ⟨j + 1, t + (st.toNat : Int), by omega, by go_num, rfl, by omega, by omega, HA6.out, HB6.out⟩
                  case measure => simp [intOf]; omega
                · have e5 : (!decide (off ≤ t + (st.toNat : Int) - now)) = true := by simp [hq]
                  have e6 : t + (st.toNat : Int) - now < off := by omega
                  rw [e5]
                  clear e5
                  go_wp2_with fail
                  go_roundw
                  case rel => exact ⟨j + 1, t + (st.toNat : Int), by omega, by go_num, rfl, by omega, by omega, HA6.out, HB6.out⟩
                  case measure => simp [intOf]; omega
              · go_wp2_with fail
                go_ret
                exact ⟨rfl, HB.out⟩
          · have e3 : (!decide (off ≤ now - now)) = true := by simp; omega
            have e4 : (off != 0) = true := by simp; omega
            rw [e3]
            clear e3
            go_wp2_with fail
            clear e4 hz
            go_loopw [11, 15] (fun un ui wr => ∃ (j : Nat) (t : Int), j ≤ m.length ∧ ui = .int .i64 j ∧ un = .int .i64 t ∧ now ≤ t ∧ t ≤ now + 255 * j ∧ DAt wr w1.heap.size (downD on off now t) ∧ Below w.heap.size w wr) (fun _ ui _ => m.length - (intOf ui).toNat)
            case atStart => exact ⟨0, now, Nat.zero_le _, rfl, rfl, by omega, by omega, HA5.out, HB5.out⟩
            case round =>
              clear HA5 HB5
              obtain ⟨j, t, hj, rfl, rfl, ht0, ht, hA, hB⟩ := hrel
              have HA := Lib.hid hA
              have HB := Lib.hid hB
              have hsj := hB.size
              clear hA hB
              by_cases hltj : j < m.length
              · obtain ⟨st, hxs⟩ : ∃ st, m[j]? = some st := ⟨_, List.getElem?_eq_getElem hltj⟩
                obtain ⟨b2, o2, c2', hv2, hbl2, hcell2⟩ := HX.out.at_ hxs
                have e1 := (HB.out.cell (p := ⟨b2, o2 + j * 1 + 0, none⟩) hbl2).trans (hcell2 0 _ rfl)
                simp only [Nat.add_zero, Nat.mul_one] at e1
                injection hv2 with hAb e4 e5
                subst hAb
                clear e4 e5 hcell2 hxs
                have hst := u8_lt st
                have HS := Lib.hid (down_step (on := on) (off := off) (fr := now) (now := t) (t' := t + (st.toNat : Int)) (by omega) (by omega))
                have HK := Lib.hid (downD_ok (on := on) (off := off) (fr := now) (now := t) hon hoff (by omega) (by omega))
                have HV := Lib.hid (downD_v on off now (t + (st.toNat : Int)))
                go_wp2_with fail
                refine (See_is w1.heap.size _ _ false _ HS.out _ HA.out HK.out).mono ?_
                rintro e w6 ⟨rfl, hA, hg⟩
                have HA6 := Lib.hid hA
                have HB6 := Lib.hid (below_grown HB.out hg hsj hs1)
                clear hA hg
                rw [HV.out]
                by_cases hq : off ≤ t + (st.toNat : Int) - now
                · have e5 : (!decide (off ≤ t + (st.toNat : Int) - now)) = false := by simp [hq]
                  have e6 : ¬ t + (st.toNat : Int) - now < off := by omega
                  rw [e5]
                  clear e5
                  go_wp2_with fail
                  go_roundw
                  case rel => exact ⟨j + 1, t + (st.toNat : Int), by omega, by go_num, rfl, by omega, by omega, HA6.out, HB6.out⟩
                  case measure => simp [intOf]; omega
                · have e5 : (!decide (off ≤ t + (st.toNat : Int) - now)) = true := by simp [hq]
                  have e6 : t + (st.toNat : Int) - now < off := by omega
                  rw [e5]
                  clear e5
                  go_wp2_with fail
                  go_roundw
                  case rel => exact ⟨j + 1, t + (st.toNat : Int), by omega, by go_num, rfl, by omega, by omega, HA6.out, HB6.out⟩
                  case measure => simp [intOf]; omega
              · go_wp2_with fail
                go_ret
                exact ⟨rfl, HB.out⟩
        · have HT := Lib.hid (show upD on off now = ⟨false, on, off, true, 3, now⟩ by unfold upD; rw [if_neg hon3])
          have hA' := HA.out
          rw [HT.out] at hA'
          have HA' := Lib.hid hA'
          clear hA' HV HA
          go_wp2_with fail
          refine (Value_any w1.heap.size _ _ HA'.out).mono ?_
          rintro e w4 ⟨rfl, rfl⟩
          go_wp2_with fail
          go_ret
          exact ⟨ret_bool (by first | (simp; done) | (simp; omega)), HB.out⟩
  · have e3 : decide (on ≤ 3 - 3) = false := by simp; omega
    have e4 : (on == 0) = false := by simp; omega
    rw [e3]
    clear e3
    go_wp2_with fail
    clear e4 hz
    go_loopw [11, 14] (fun un ui wr => ∃ (k : Nat) (now : Int), k ≤ l.length ∧ ui = .int .i64 k ∧ un = .int .i64 now ∧ 3 ≤ now ∧ now ≤ 3 + 255 * k ∧ DAt wr w1.heap.size (upD on off now) ∧ Below w.heap.size w wr) (fun _ ui _ => l.length - (intOf ui).toNat)
    case atStart => exact ⟨0, 3, Nat.zero_le _, rfl, rfl, by omega, by omega, HA3.out, hB3⟩
    case round =>
      clear HA3 hB3
      obtain ⟨k, now, hk, rfl, rfl, hn0, hn, hA, hB⟩ := hrel
      have HA := Lib.hid hA
      have HB := Lib.hid hB
      have hs := hB.size
      clear hA hB
      by_cases hlt : k < l.length
      · obtain ⟨st, hxs⟩ : ∃ st, l[k]? = some st := ⟨_, List.getElem?_eq_getElem hlt⟩
        obtain ⟨b2, o2, c2', hv2, hbl2, hcell2⟩ := H.out.at_ hxs
        have e1 := (HB.out.cell (p := ⟨b2, o2 + k * 1 + 0, none⟩) hbl2).trans (hcell2 0 _ rfl)
        simp only [Nat.add_zero, Nat.mul_one] at e1
        injection hv2 with hAb e4 e5
        subst hAb
        clear e4 e5 hcell2 hxs
        have hst := u8_lt st
        have HS := Lib.hid (up_step (on := on) (off := off) (now := now) (t' := now + (st.toNat : Int)) (by omega) (by omega) hn0)
        have HK := Lib.hid (upD_ok hon hoff hn0 (by omega : now ≤ 1099511627776))
        have HV := Lib.hid (upD_v on off (now + (st.toNat : Int)))
        go_wp2_with fail
        refine (See_is w1.heap.size _ _ true _ HS.out _ HA.out HK.out).mono ?_
        rintro e w4 ⟨rfl, hA, hg⟩
        have HA4 := Lib.hid hA
        have HB4 := Lib.hid (below_grown HB.out hg hs hs1)
        clear hA hg
        rw [HV.out]
        go_wp2_with fail
        go_roundw
        case rel => exact ⟨k + 1, now + (st.toNat : Int), by omega, by go_num, rfl, by omega, by omega, HA4.out, HB4.out⟩
        case measure => simp [intOf]; omega
      · have HV := Lib.hid (upD_v on off now)
        by_cases hon3 : on ≤ now - 3
        · have HT := Lib.hid (show upD on off now = ⟨true, on, off, false, 0, now⟩ by unfold upD; rw [if_pos hon3])
          have HD := Lib.hid (show (D.mk true on off false 0 now).see false now = downD on off now now by rw [see_le (by omega) (by omega)]; unfold downD; simp)
          have HK := Lib.hid (show (D.mk true on off false 0 now).ok from ok_of (by omega) (by omega) (by omega) (by omega) (by simp))
          have hA' := HA.out
          rw [HT.out] at hA'
          have HA' := Lib.hid hA'
          clear hA' hon3 HV HA
          go_wp2_with fail
          refine (Value_any w1.heap.size _ _ HA'.out).mono ?_
          rintro e w4 ⟨rfl, rfl⟩
          go_wp2_with fail
          refine (See_is w1.heap.size _ _ false _ HD.out _ HA'.out HK.out).mono ?_
          rintro e w5 ⟨rfl, hA, hg⟩
          have HA5 := Lib.hid hA
          have HB5 := Lib.hid (below_grown HB.out hg hs hs1)
          have HW := Lib.hid (downD_v on off now now)
          clear hA hg HA' HD HK
          rw [HW.out]
          by_cases hz : off ≤ 0
          · have e3 : (!decide (off ≤ now - now)) = false := by simp; omega
            have e4 : (off != 0) = false := by simp; omega
            rw [e3]
            clear e3
            go_wp2_with fail
            clear e4 hz
            go_loopw [11, 15] (fun un ui wr => ∃ (j : Nat) (t : Int), j ≤ m.length ∧ ui = .int .i64 j ∧ un = .int .i64 t ∧ now ≤ t ∧ t ≤ now + 255 * j ∧ DAt wr w1.heap.size (downD on off now t) ∧ Below w.heap.size w wr) (fun _ ui _ => m.length - (intOf ui).toNat)
            case atStart => exact ⟨0, now, Nat.zero_le _, rfl, rfl, by omega, by omega, HA5.out, HB5.out⟩
            case round =>
              clear HA5 HB5
              obtain ⟨j, t, hj, rfl, rfl, ht0, ht, hA, hB⟩ := hrel
              have HA := Lib.hid hA
              have HB := Lib.hid hB
              have hsj := hB.size
              clear hA hB
              by_cases hltj : j < m.length
              · obtain ⟨st, hxs⟩ : ∃ st, m[j]? = some st := ⟨_, List.getElem?_eq_getElem hltj⟩
                obtain ⟨b2, o2, c2', hv2, hbl2, hcell2⟩ := HX.out.at_ hxs
                have e1 := (HB.out.cell (p := ⟨b2, o2 + j * 1 + 0, none⟩) hbl2).trans (hcell2 0 _ rfl)
                simp only [Nat.add_zero, Nat.mul_one] at e1
                injection hv2 with hAb e4 e5
                subst hAb
                clear e4 e5 hcell2 hxs
                have hst := u8_lt st
                have HS := Lib.hid (down_step (on := on) (off := off) (fr := now) (now := t) (t' := t + (st.toNat : Int)) (by omega) (by omega))
                have HK := Lib.hid (downD_ok (on := on) (off := off) (fr := now) (now := t) hon hoff (by omega) (by omega))
                have HV := Lib.hid (downD_v on off now (t + (st.toNat : Int)))
                go_wp2_with fail
                refine (See_is w1.heap.size _ _ false _ HS.out _ HA.out HK.out).mono ?_
                rintro e w6 ⟨rfl, hA, hg⟩
                have HA6 := Lib.hid hA
                have HB6 := Lib.hid (below_grown HB.out hg hsj hs1)
                clear hA hg
                rw [HV.out]
                by_cases hq : off ≤ t + (st.toNat : Int) - now
                · have e5 : (!decide (off ≤ t + (st.toNat : Int) - now)) = false := by simp [hq]
                  have e6 : ¬ t + (st.toNat : Int) - now < off := by omega
                  rw [e5]
                  clear e5
                  go_wp2_with fail
                  go_roundw
                  case rel => exact ⟨j + 1, t + (st.toNat : Int), by omega, by go_num, rfl, by omega, by omega, HA6.out, HB6.out⟩
                  case measure => simp [intOf]; omega
                · have e5 : (!decide (off ≤ t + (st.toNat : Int) - now)) = true := by simp [hq]
                  have e6 : t + (st.toNat : Int) - now < off := by omega
                  rw [e5]
                  clear e5
                  go_wp2_with fail
                  go_roundw
                  case rel => exact ⟨j + 1, t + (st.toNat : Int), by omega, by go_num, rfl, by omega, by omega, HA6.out, HB6.out⟩
                  case measure => simp [intOf]; omega
              · go_wp2_with fail
                go_ret
                exact ⟨rfl, HB.out⟩
          · have e3 : (!decide (off ≤ now - now)) = true := by simp; omega
            have e4 : (off != 0) = true := by simp; omega
            rw [e3]
            clear e3
            go_wp2_with fail
            clear e4 hz
            go_loopw [11, 15] (fun un ui wr => ∃ (j : Nat) (t : Int), j ≤ m.length ∧ ui = .int .i64 j ∧ un = .int .i64 t ∧ now ≤ t ∧ t ≤ now + 255 * j ∧ DAt wr w1.heap.size (downD on off now t) ∧ Below w.heap.size w wr) (fun _ ui _ => m.length - (intOf ui).toNat)
            case atStart => exact ⟨0, now, Nat.zero_le _, rfl, rfl, by omega, by omega, HA5.out, HB5.out⟩
            case round =>
              clear HA5 HB5
              obtain ⟨j, t, hj, rfl, rfl, ht0, ht, hA, hB⟩ := hrel
              have HA := Lib.hid hA
              have HB := Lib.hid hB
              have hsj := hB.size
              clear hA hB
              by_cases hltj : j < m.length
              · obtain ⟨st, hxs⟩ : ∃ st, m[j]? = some st := ⟨_, List.getElem?_eq_getElem hltj⟩
                obtain ⟨b2, o2, c2', hv2, hbl2, hcell2⟩ := HX.out.at_ hxs
                have e1 := (HB.out.cell (p := ⟨b2, o2 + j * 1 + 0, none⟩) hbl2).trans (hcell2 0 _ rfl)
                simp only [Nat.add_zero, Nat.mul_one] at e1
                injection hv2 with hAb e4 e5
                subst hAb
                clear e4 e5 hcell2 hxs
                have hst := u8_lt st
                have HS := Lib.hid (down_step (on := on) (off := off) (fr := now) (now := t) (t' := t + (st.toNat : Int)) (by omega) (by omega))
                have HK := Lib.hid (downD_ok (on := on) (off := off) (fr := now) (now := t) hon hoff (by omega) (by omega))
                have HV := Lib.hid (downD_v on off now (t + (st.toNat : Int)))
                go_wp2_with fail
                refine (See_is w1.heap.size _ _ false _ HS.out _ HA.out HK.out).mono ?_
                rintro e w6 ⟨rfl, hA, hg⟩
                have HA6 := Lib.hid hA
                have HB6 := Lib.hid (below_grown HB.out hg hsj hs1)
                clear hA hg
                rw [HV.out]
                by_cases hq : off ≤ t + (st.toNat : Int) - now
                · have e5 : (!decide (off ≤ t + (st.toNat : Int) - now)) = false := by simp [hq]
                  have e6 : ¬ t + (st.toNat : Int) - now < off := by omega
                  rw [e5]
                  clear e5
                  go_wp2_with fail
                  go_roundw
                  case rel => exact ⟨j + 1, t + (st.toNat : Int), by omega, by go_num, rfl, by omega, by omega, HA6.out, HB6.out⟩
                  case measure => simp [intOf]; omega
                · have e5 : (!decide (off ≤ t + (st.toNat : Int) - now)) = true := by simp [hq]
                  have e6 : t + (st.toNat : Int) - now < off := by omega
                  rw [e5]
                  clear e5
                  go_wp2_with fail
                  go_roundw
                  case rel => exact ⟨j + 1, t + (st.toNat : Int), by omega, by go_num, rfl, by omega, by omega, HA6.out, HB6.out⟩
                  case measure => simp [intOf]; omega
              · go_wp2_with fail
                go_ret
                exact ⟨rfl, HB.out⟩
        · have HT := Lib.hid (show upD on off now = ⟨false, on, off, true, 3, now⟩ by unfold upD; rw [if_neg hon3])
          have hA' := HA.out
          rw [HT.out] at hA'
          have HA' := Lib.hid hA'
          clear hA' HV HA
          go_wp2_with fail
          refine (Value_any w1.heap.size _ _ HA'.out).mono ?_
          rintro e w4 ⟨rfl, rfl⟩
          go_wp2_with fail
          go_ret
          exact ⟨ret_bool (by first | (simp; done) | (simp; omega)), HB.out⟩
theorem first_bigA (on off : Int) (hon : 0 ≤ on ∧ on ≤ 255) (hoff : 0 ≤ off ∧ off ≤ 255) (A B : Option Addr) (k c j d : Nat) (w : World) (hl : 300 < k) :
    Calls Try.prog 7 #[.int .u8 on, .int .u8 off, .slice A k c, .slice B j d] w fun e w' => e = .returned (.bool true) ∧ Below w.heap.size w w' := by
  go_enter Try.func7, Try.ntmps7
  go_wp2_with fail
  refine (head_any _).mono ?_
  rintro e w1 ⟨rfl, hb1⟩
  have hs1 := hb1.size
  go_wp2_with fail
  refine (New_any on off _).mono ?_
  rintro e w2 ⟨rfl, hA2, hb2⟩
  have hB2 := hb1.trans (hb2.mono hs1)
  go_wp2_with fail
  go_ret
  exact ⟨rfl, hB2⟩
theorem first_bigB (on off : Int) (hon : 0 ≤ on ∧ on ≤ 255) (hoff : 0 ≤ off ∧ off ≤ 255) (A B : Option Addr) (k c j d : Nat) (w : World) (_hk : k ≤ 300) (hl : 300 < j) :
    Calls Try.prog 7 #[.int .u8 on, .int .u8 off, .slice A k c, .slice B j d] w fun e w' => e = .returned (.bool true) ∧ Below w.heap.size w w' := by
  go_enter Try.func7, Try.ntmps7
  go_wp2_with fail
  refine (head_any _).mono ?_
  rintro e w1 ⟨rfl, hb1⟩
  have hs1 := hb1.size
  go_wp2_with fail
  refine (New_any on off _).mono ?_
  rintro e w2 ⟨rfl, hA2, hb2⟩
  have hB2 := hb1.trans (hb2.mono hs1)
  go_wp2_with fail
  go_ret
  exact ⟨rfl, hB2⟩
set_option maxRecDepth 100000 in
theorem first_lifted (os : Os) (started : os.Started) (H : Type) (enc : TypeId × Value → H) :
    ReturnsInHanded {} Try.checked os 7 .any (Rows.delayFirstSpec.pre6 enc Try.prog Try.f7 Rows.delayFirstRow.domain false) (Rows.delayFirstSpec.post enc Try.prog Try.f7 false true false false) := by
  refine LawFrame.handed (C := Try.checked) (tb := 4) (by kernel_rfl) (by kernel_rfl) (by kernel_rfl) Try.underlying4 rfl (fun ds hd => ?_) own started (by kernel_rfl) Try.func7
    (ChangeSpec.witness6 (enc := enc) (C := Try.checked) false ⟨#[], #[.int .u8 0, .int .u8 0, .slice none 0 0, .slice none 0 0], []⟩ 8 (by kernel_rfl) (by kernel_rfl) (by kernel_rfl) (by kernel_rfl)) ?_
  · rw [Try.params7] at hd
    match ds, hd with
    | [d1, d2, d3, d4], _ => rfl
  · intro W args ds before base hval hA hlt hsz
    rw [Try.params7] at hval hA
    obtain ⟨v0, vs0, d0, ds0, p0, q0, hargs, rfl, rfl, h0, r0⟩ := trodAll_cons hA
    obtain ⟨v1, vs1, d1, ds1, p1, q1, rfl, rfl, rfl, h1, r1⟩ := trodAll_cons r0
    obtain ⟨v2, vs2, d2, ds2, p2, q2, rfl, rfl, rfl, h2, r2⟩ := trodAll_cons r1
    obtain ⟨v3, vs3, d3, ds3, p3, q3, rfl, rfl, rfl, h3, r3⟩ := trodAll_cons r2
    obtain ⟨rfl, rfl, rfl⟩ := trodAll_nil r3
    obtain rfl : args = #[v0, v1, v2, v3] := by cases args; simp_all
    obtain ⟨on, rfl, rfl, rfl, w0⟩ := open_int Try.underlying5 (hval 0 5 v0 rfl rfl) h0
    obtain ⟨off, rfl, rfl, rfl, w1⟩ := open_int Try.underlying5 (hval 1 5 v1 rfl rfl) h1
    obtain ⟨l, hl, _⟩ := LawFrame.open_bytes Try.underlying35 Try.underlying5 (by kernel_rfl) (hval 2 35 v2 rfl rfl) h2
    obtain ⟨m, hm, _⟩ := LawFrame.open_bytes Try.underlying35 Try.underlying5 (by kernel_rfl) (hval 3 35 v3 rfl rfl) h3
    rcases Nat.lt_or_ge 300 l.length with h5 | h5
    · obtain ⟨A, c, rfl, hc, -⟩ := hl
      obtain ⟨B, d, rfl, hc, -⟩ := hm
      exact first_bigA on off (bounds_u8 w0) (bounds_u8 w1) A B _ c _ d W h5
    · rcases Nat.lt_or_ge 300 m.length with h6 | h6
      · obtain ⟨A, c, rfl, hc, -⟩ := hl
        obtain ⟨B, d, rfl, hc, -⟩ := hm
        exact first_bigB on off (bounds_u8 w0) (bounds_u8 w1) A B _ c _ d W h5 h6
      · exact first_walk on off (bounds_u8 w0) (bounds_u8 w1) l m v2 v3 W h5 h6 hl hm
theorem first_holds : Rows.DelayFirstSaid :=
  OpenClaim.holds_of_wide 7 Try.f7 rfl rfl rfl rfl rfl rfl rfl ⟨rfl, rfl, rfl, rfl, rfl⟩ rfl rfl rfl rfl rfl (by kernel_rfl) Try.func7 (by kernel_rfl)
    (of_decide_eq_true (by kernel_rfl)) (by unfold Func.isWrapper; first | (rw [if_pos (by decide +kernel)]; kernel_rfl) | (rw [if_neg (by decide +kernel)]; exact ⟨rfl, rfl⟩))
    (fun os started H enc _ => first_lifted os started H enc)
#print axioms first_holds
end Go.Proofs.Ytgnpoiojiocmgaa
