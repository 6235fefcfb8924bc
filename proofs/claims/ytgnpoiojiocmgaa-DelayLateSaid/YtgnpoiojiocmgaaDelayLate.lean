/-
  DelayLate: times that fall are taken for the last one; those that are too late, or below 0, for the last, and the first, that may be. For every input, with no condition.
-/
import Derived.Test.YtgnpoiojiocmgaaDelayBack
namespace Go.Proofs.Ytgnpoiojiocmgaa
open Go.RowKit Delay Go.ChangeShapes Go.WideShapes

theorem see_at {c r b : Bool} {on off s t now t' : Int} (h : clamp now t = t') : (D.mk c on off r s t).see b now =
    if b = c then ⟨c, on, off, false, 0, t'⟩ else if (if b then on else off) ≤ t' - (if r then s else t') then ⟨b, on, off, false, 0, t'⟩ else ⟨c, on, off, true, if r then s else t', t'⟩ := by
  simp only [D.see, D.need, D.from_, h]

set_option maxHeartbeats 8000000 in
set_option maxRecDepth 100000 in
theorem late_walk (on a b c : Int) (hon : 0 ≤ on ∧ on ≤ 255) (ha : 0 ≤ a ∧ a ≤ 4294967295) (hb : 0 ≤ b ∧ b ≤ 4294967295) (w : World) :
    Calls Try.prog 6 #[.int .u8 on, .int .u32 a, .int .u32 b, .int .i64 c] w fun e w' => e = .returned (.bool true) ∧ Below w.heap.size w w' := by
  go_enter Try.func6, Try.ntmps6
  go_wp2_with fail
  refine (head_any _).mono ?_
  rintro e w1 ⟨rfl, hb1⟩
  have hs1 := hb1.size
  have HO0 := Lib.hid (show new on 0 = ⟨false, on, 0, false, 0, 0⟩ by
    have e1 : clamp on 0 = on := by unfold clamp; omega
    have e2 : clamp 0 0 = 0 := by unfold clamp; omega
    simp [new, e1, e2])
  go_wp2_with fail
  refine (New_is on 0 _ HO0.out _).mono ?_
  rintro e w2 ⟨rfl, hA2, hb2⟩
  have hB2 := hb1.trans (hb2.mono hs1)
  have hlt2 := hA2.lt
  have hs2 := hB2.size
  go_wp2_with fail
  refine (New_is on 0 _ HO0.out _).mono ?_
  rintro e w3 ⟨rfl, hA3, hb3⟩
  have HT0 := Lib.hid (show Two w w1.heap.size w2.heap.size _ _ w3 from ⟨(hb3.block _ hlt2).trans hA2, hA3, hB2.trans (hb3.mono hs2), hs1, hlt2⟩)
  clear hA2 hA3 hb1 hb2 hb3 hB2 HO0 hlt2 hs2
  go_wp2_with fail
  refine (See_is w1.heap.size ⟨false, on, 0, false, 0, 0⟩ ⟨false, on, 0, false, 0, a⟩ false a (by rw [see_le (by omega) (by omega)]; simp) _ HT0.out.1 (by exact ok_of (by omega) (by omega) (by omega) (by omega) (by simp))).mono ?_
  rintro e wq1 ⟨rfl, hA, hg⟩
  have HT1 := Lib.hid (HT0.out.sd hA hg)
  clear hA hg HT0
  go_wp2_with fail
  refine (See_is w2.heap.size ⟨false, on, 0, false, 0, 0⟩ ⟨false, on, 0, false, 0, a⟩ false a (by rw [see_le (by omega) (by omega)]; simp) _ HT1.out.2.1 (by exact ok_of (by omega) (by omega) (by omega) (by omega) (by simp))).mono ?_
  rintro e wq2 ⟨rfl, hA, hg⟩
  have HT2 := Lib.hid (HT1.out.sx hA hg)
  clear hA hg HT1
  rcases (by omega : a ≤ b ∨ b < a) with q0 | q0
  · rcases (by omega : 0 < on ∨ on ≤ 0) with q1 | q1
    · rcases (by omega : c < a ∨ a ≤ c) with q2 | q2
      · have E1 := Lib.hid (show clamp a a = a by unfold clamp; omega)
        have E2 := Lib.hid (show clamp c a = a by unfold clamp; omega)
        have E3 := Lib.hid (show clamp a a = a by unfold clamp; omega)
        have E4 := Lib.hid (show clamp 4611686018427387904 a = 1099511627776 by unfold clamp; omega)
        have E5 := Lib.hid (show clamp a a = a by unfold clamp; omega)
        go_wp2_with fail
        refine (See_is w1.heap.size ⟨false, on, 0, false, 0, a⟩ ⟨false, on, 0, true, a, a⟩ true a (by rw [see_at E1.out]; have : ¬ on ≤ 0 := (by omega); simp [this]) _ HT2.out.1 (by exact ok_of (by omega) (by omega) (by omega) (by omega) (by simp))).mono ?_
        rintro e wq3 ⟨rfl, hA, hg⟩
        have HT3 := Lib.hid (HT2.out.sd hA hg)
        clear hA hg HT2
        go_wp2_with fail
        refine (See_is w2.heap.size ⟨false, on, 0, false, 0, a⟩ ⟨false, on, 0, true, a, a⟩ true a (by rw [see_at E5.out]; have : ¬ on ≤ 0 := (by omega); simp [this]) _ HT3.out.2.1 (by exact ok_of (by omega) (by omega) (by omega) (by omega) (by simp))).mono ?_
        rintro e wq4 ⟨rfl, hA, hg⟩
        have HT4 := Lib.hid (HT3.out.sx hA hg)
        clear hA hg HT3
        go_wp2_with fail
        refine (Since_any w1.heap.size ⟨false, on, 0, true, a, a⟩ _ HT4.out.1).mono ?_
        rintro e wq5 ⟨rfl, hg⟩
        have HT5 := Lib.hid (HT4.out.none hg)
        clear hg HT4
        go_wp2_with fail
        refine (Since_any w2.heap.size ⟨false, on, 0, true, a, a⟩ _ HT5.out.2.1).mono ?_
        rintro e wq6 ⟨rfl, hg⟩
        have HT6 := Lib.hid (HT5.out.none hg)
        clear hg HT5
        go_wp2_with fail
        refine (See_is w1.heap.size ⟨false, on, 0, true, a, a⟩ ⟨false, on, 0, true, a, a⟩ true c (by rw [see_at E2.out]; have : ¬ on ≤ 0 := (by omega); simp [this]) _ HT6.out.1 (by exact ok_of (by omega) (by omega) (by omega) (by omega) (by intro h; cases h))).mono ?_
        rintro e wq7 ⟨rfl, hA, hg⟩
        have HT7 := Lib.hid (HT6.out.sd hA hg)
        clear hA hg HT6
        go_wp2_with fail
        refine (See_is w2.heap.size ⟨false, on, 0, true, a, a⟩ ⟨false, on, 0, true, a, a⟩ true a (by rw [see_at E3.out]; have : ¬ on ≤ 0 := (by omega); simp [this]) _ HT7.out.2.1 (by exact ok_of (by omega) (by omega) (by omega) (by omega) (by intro h; cases h))).mono ?_
        rintro e wq8 ⟨rfl, hA, hg⟩
        have HT8 := Lib.hid (HT7.out.sx hA hg)
        clear hA hg HT7
        go_wp2_with fail
        refine (Value_any w1.heap.size ⟨false, on, 0, true, a, a⟩ _ HT8.out.1).mono ?_
        rintro e wv ⟨rfl, rfl⟩
        go_wp2_with fail
        refine (Value_any w2.heap.size ⟨false, on, 0, true, a, a⟩ _ HT8.out.2.1).mono ?_
        rintro e wv ⟨rfl, rfl⟩
        go_wp2_with fail
        refine (See_is w1.heap.size ⟨false, on, 0, true, a, a⟩ ⟨true, on, 0, false, 0, 1099511627776⟩ true 4611686018427387904 (by rw [see_at E4.out]; have : on ≤ 1099511627776 - a := (by omega); simp [this]) _ HT8.out.1 (by exact ok_of (by omega) (by omega) (by omega) (by omega) (by intro h; cases h))).mono ?_
        rintro e wq9 ⟨rfl, hA, hg⟩
        have HT9 := Lib.hid (HT8.out.sd hA hg)
        clear hA hg HT8
        go_wp2_with fail
        go_ret
        exact ⟨rfl, HT9.out.2.2.1⟩
      · rcases (by omega : 1099511627776 < c ∨ c ≤ 1099511627776) with q3 | q3
        · have E1 := Lib.hid (show clamp a a = a by unfold clamp; omega)
          have E2 := Lib.hid (show clamp c a = 1099511627776 by unfold clamp; omega)
          have E3 := Lib.hid (show clamp 1099511627776 a = 1099511627776 by unfold clamp; omega)
          have E4 := Lib.hid (show clamp 4611686018427387904 1099511627776 = 1099511627776 by unfold clamp; omega)
          have E5 := Lib.hid (show clamp a a = a by unfold clamp; omega)
          go_wp2_with fail
          refine (See_is w1.heap.size ⟨false, on, 0, false, 0, a⟩ ⟨false, on, 0, true, a, a⟩ true a (by rw [see_at E1.out]; have : ¬ on ≤ 0 := (by omega); simp [this]) _ HT2.out.1 (by exact ok_of (by omega) (by omega) (by omega) (by omega) (by simp))).mono ?_
          rintro e wq3 ⟨rfl, hA, hg⟩
          have HT3 := Lib.hid (HT2.out.sd hA hg)
          clear hA hg HT2
          go_wp2_with fail
          refine (See_is w2.heap.size ⟨false, on, 0, false, 0, a⟩ ⟨false, on, 0, true, a, a⟩ true a (by rw [see_at E5.out]; have : ¬ on ≤ 0 := (by omega); simp [this]) _ HT3.out.2.1 (by exact ok_of (by omega) (by omega) (by omega) (by omega) (by simp))).mono ?_
          rintro e wq4 ⟨rfl, hA, hg⟩
          have HT4 := Lib.hid (HT3.out.sx hA hg)
          clear hA hg HT3
          go_wp2_with fail
          refine (Since_any w1.heap.size ⟨false, on, 0, true, a, a⟩ _ HT4.out.1).mono ?_
          rintro e wq5 ⟨rfl, hg⟩
          have HT5 := Lib.hid (HT4.out.none hg)
          clear hg HT4
          go_wp2_with fail
          refine (Since_any w2.heap.size ⟨false, on, 0, true, a, a⟩ _ HT5.out.2.1).mono ?_
          rintro e wq6 ⟨rfl, hg⟩
          have HT6 := Lib.hid (HT5.out.none hg)
          clear hg HT5
          go_wp2_with fail
          refine (See_is w1.heap.size ⟨false, on, 0, true, a, a⟩ ⟨true, on, 0, false, 0, 1099511627776⟩ true c (by rw [see_at E2.out]; have : on ≤ 1099511627776 - a := (by omega); simp [this]) _ HT6.out.1 (by exact ok_of (by omega) (by omega) (by omega) (by omega) (by intro h; cases h))).mono ?_
          rintro e wq7 ⟨rfl, hA, hg⟩
          have HT7 := Lib.hid (HT6.out.sd hA hg)
          clear hA hg HT6
          go_wp2_with fail
          refine (See_is w2.heap.size ⟨false, on, 0, true, a, a⟩ ⟨true, on, 0, false, 0, 1099511627776⟩ true 1099511627776 (by rw [see_at E3.out]; have : on ≤ 1099511627776 - a := (by omega); simp [this]) _ HT7.out.2.1 (by exact ok_of (by omega) (by omega) (by omega) (by omega) (by intro h; cases h))).mono ?_
          rintro e wq8 ⟨rfl, hA, hg⟩
          have HT8 := Lib.hid (HT7.out.sx hA hg)
          clear hA hg HT7
          go_wp2_with fail
          refine (Value_any w1.heap.size ⟨true, on, 0, false, 0, 1099511627776⟩ _ HT8.out.1).mono ?_
          rintro e wv ⟨rfl, rfl⟩
          go_wp2_with fail
          refine (Value_any w2.heap.size ⟨true, on, 0, false, 0, 1099511627776⟩ _ HT8.out.2.1).mono ?_
          rintro e wv ⟨rfl, rfl⟩
          go_wp2_with fail
          refine (See_is w1.heap.size ⟨true, on, 0, false, 0, 1099511627776⟩ ⟨true, on, 0, false, 0, 1099511627776⟩ true 4611686018427387904 (by rw [see_at E4.out]; simp) _ HT8.out.1 (by exact ok_of (by omega) (by omega) (by omega) (by omega) (by simp))).mono ?_
          rintro e wq9 ⟨rfl, hA, hg⟩
          have HT9 := Lib.hid (HT8.out.sd hA hg)
          clear hA hg HT8
          go_wp2_with fail
          go_ret
          exact ⟨rfl, HT9.out.2.2.1⟩
        · rcases (by omega : (c - a) < on ∨ on ≤ (c - a)) with q4 | q4
          · have E1 := Lib.hid (show clamp a a = a by unfold clamp; omega)
            have E2 := Lib.hid (show clamp c a = c by unfold clamp; omega)
            have E3 := Lib.hid (show clamp c a = c by unfold clamp; omega)
            have E4 := Lib.hid (show clamp 4611686018427387904 c = 1099511627776 by unfold clamp; omega)
            have E5 := Lib.hid (show clamp a a = a by unfold clamp; omega)
            go_wp2_with fail
            refine (See_is w1.heap.size ⟨false, on, 0, false, 0, a⟩ ⟨false, on, 0, true, a, a⟩ true a (by rw [see_at E1.out]; have : ¬ on ≤ 0 := (by omega); simp [this]) _ HT2.out.1 (by exact ok_of (by omega) (by omega) (by omega) (by omega) (by simp))).mono ?_
            rintro e wq3 ⟨rfl, hA, hg⟩
            have HT3 := Lib.hid (HT2.out.sd hA hg)
            clear hA hg HT2
            go_wp2_with fail
            refine (See_is w2.heap.size ⟨false, on, 0, false, 0, a⟩ ⟨false, on, 0, true, a, a⟩ true a (by rw [see_at E5.out]; have : ¬ on ≤ 0 := (by omega); simp [this]) _ HT3.out.2.1 (by exact ok_of (by omega) (by omega) (by omega) (by omega) (by simp))).mono ?_
            rintro e wq4 ⟨rfl, hA, hg⟩
            have HT4 := Lib.hid (HT3.out.sx hA hg)
            clear hA hg HT3
            go_wp2_with fail
            refine (Since_any w1.heap.size ⟨false, on, 0, true, a, a⟩ _ HT4.out.1).mono ?_
            rintro e wq5 ⟨rfl, hg⟩
            have HT5 := Lib.hid (HT4.out.none hg)
            clear hg HT4
            go_wp2_with fail
            refine (Since_any w2.heap.size ⟨false, on, 0, true, a, a⟩ _ HT5.out.2.1).mono ?_
            rintro e wq6 ⟨rfl, hg⟩
            have HT6 := Lib.hid (HT5.out.none hg)
            clear hg HT5
            go_wp2_with fail
            refine (See_is w1.heap.size ⟨false, on, 0, true, a, a⟩ ⟨false, on, 0, true, a, c⟩ true c (by rw [see_at E2.out]; have : ¬ on ≤ c - a := (by omega); simp [this]) _ HT6.out.1 (by exact ok_of (by omega) (by omega) (by omega) (by omega) (by intro h; cases h))).mono ?_
            rintro e wq7 ⟨rfl, hA, hg⟩
            have HT7 := Lib.hid (HT6.out.sd hA hg)
            clear hA hg HT6
            go_wp2_with fail
            refine (See_is w2.heap.size ⟨false, on, 0, true, a, a⟩ ⟨false, on, 0, true, a, c⟩ true c (by rw [see_at E3.out]; have : ¬ on ≤ c - a := (by omega); simp [this]) _ HT7.out.2.1 (by exact ok_of (by omega) (by omega) (by omega) (by omega) (by intro h; cases h))).mono ?_
            rintro e wq8 ⟨rfl, hA, hg⟩
            have HT8 := Lib.hid (HT7.out.sx hA hg)
            clear hA hg HT7
            go_wp2_with fail
            refine (Value_any w1.heap.size ⟨false, on, 0, true, a, c⟩ _ HT8.out.1).mono ?_
            rintro e wv ⟨rfl, rfl⟩
            go_wp2_with fail
            refine (Value_any w2.heap.size ⟨false, on, 0, true, a, c⟩ _ HT8.out.2.1).mono ?_
            rintro e wv ⟨rfl, rfl⟩
            go_wp2_with fail
            refine (See_is w1.heap.size ⟨false, on, 0, true, a, c⟩ ⟨true, on, 0, false, 0, 1099511627776⟩ true 4611686018427387904 (by rw [see_at E4.out]; have : on ≤ 1099511627776 - a := (by omega); simp [this]) _ HT8.out.1 (by exact ok_of (by omega) (by omega) (by omega) (by omega) (by intro h; cases h))).mono ?_
            rintro e wq9 ⟨rfl, hA, hg⟩
            have HT9 := Lib.hid (HT8.out.sd hA hg)
            clear hA hg HT8
            go_wp2_with fail
            go_ret
            exact ⟨rfl, HT9.out.2.2.1⟩
          · have E1 := Lib.hid (show clamp a a = a by unfold clamp; omega)
            have E2 := Lib.hid (show clamp c a = c by unfold clamp; omega)
            have E3 := Lib.hid (show clamp c a = c by unfold clamp; omega)
            have E4 := Lib.hid (show clamp 4611686018427387904 c = 1099511627776 by unfold clamp; omega)
            have E5 := Lib.hid (show clamp a a = a by unfold clamp; omega)
            go_wp2_with fail
            refine (See_is w1.heap.size ⟨false, on, 0, false, 0, a⟩ ⟨false, on, 0, true, a, a⟩ true a (by rw [see_at E1.out]; have : ¬ on ≤ 0 := (by omega); simp [this]) _ HT2.out.1 (by exact ok_of (by omega) (by omega) (by omega) (by omega) (by simp))).mono ?_
            rintro e wq3 ⟨rfl, hA, hg⟩
            have HT3 := Lib.hid (HT2.out.sd hA hg)
            clear hA hg HT2
            go_wp2_with fail
            refine (See_is w2.heap.size ⟨false, on, 0, false, 0, a⟩ ⟨false, on, 0, true, a, a⟩ true a (by rw [see_at E5.out]; have : ¬ on ≤ 0 := (by omega); simp [this]) _ HT3.out.2.1 (by exact ok_of (by omega) (by omega) (by omega) (by omega) (by simp))).mono ?_
            rintro e wq4 ⟨rfl, hA, hg⟩
            have HT4 := Lib.hid (HT3.out.sx hA hg)
            clear hA hg HT3
            go_wp2_with fail
            refine (Since_any w1.heap.size ⟨false, on, 0, true, a, a⟩ _ HT4.out.1).mono ?_
            rintro e wq5 ⟨rfl, hg⟩
            have HT5 := Lib.hid (HT4.out.none hg)
            clear hg HT4
            go_wp2_with fail
            refine (Since_any w2.heap.size ⟨false, on, 0, true, a, a⟩ _ HT5.out.2.1).mono ?_
            rintro e wq6 ⟨rfl, hg⟩
            have HT6 := Lib.hid (HT5.out.none hg)
            clear hg HT5
            go_wp2_with fail
            refine (See_is w1.heap.size ⟨false, on, 0, true, a, a⟩ ⟨true, on, 0, false, 0, c⟩ true c (by rw [see_at E2.out]; have : on ≤ c - a := (by omega); simp [this]) _ HT6.out.1 (by exact ok_of (by omega) (by omega) (by omega) (by omega) (by intro h; cases h))).mono ?_
            rintro e wq7 ⟨rfl, hA, hg⟩
            have HT7 := Lib.hid (HT6.out.sd hA hg)
            clear hA hg HT6
            go_wp2_with fail
            refine (See_is w2.heap.size ⟨false, on, 0, true, a, a⟩ ⟨true, on, 0, false, 0, c⟩ true c (by rw [see_at E3.out]; have : on ≤ c - a := (by omega); simp [this]) _ HT7.out.2.1 (by exact ok_of (by omega) (by omega) (by omega) (by omega) (by intro h; cases h))).mono ?_
            rintro e wq8 ⟨rfl, hA, hg⟩
            have HT8 := Lib.hid (HT7.out.sx hA hg)
            clear hA hg HT7
            go_wp2_with fail
            refine (Value_any w1.heap.size ⟨true, on, 0, false, 0, c⟩ _ HT8.out.1).mono ?_
            rintro e wv ⟨rfl, rfl⟩
            go_wp2_with fail
            refine (Value_any w2.heap.size ⟨true, on, 0, false, 0, c⟩ _ HT8.out.2.1).mono ?_
            rintro e wv ⟨rfl, rfl⟩
            go_wp2_with fail
            refine (See_is w1.heap.size ⟨true, on, 0, false, 0, c⟩ ⟨true, on, 0, false, 0, 1099511627776⟩ true 4611686018427387904 (by rw [see_at E4.out]; simp) _ HT8.out.1 (by exact ok_of (by omega) (by omega) (by omega) (by omega) (by simp))).mono ?_
            rintro e wq9 ⟨rfl, hA, hg⟩
            have HT9 := Lib.hid (HT8.out.sd hA hg)
            clear hA hg HT8
            go_wp2_with fail
            go_ret
            exact ⟨rfl, HT9.out.2.2.1⟩
    · rcases (by omega : c < a ∨ a ≤ c) with q2 | q2
      · have E1 := Lib.hid (show clamp a a = a by unfold clamp; omega)
        have E2 := Lib.hid (show clamp c a = a by unfold clamp; omega)
        have E3 := Lib.hid (show clamp a a = a by unfold clamp; omega)
        have E4 := Lib.hid (show clamp 4611686018427387904 a = 1099511627776 by unfold clamp; omega)
        have E5 := Lib.hid (show clamp a a = a by unfold clamp; omega)
        go_wp2_with fail
        refine (See_is w1.heap.size ⟨false, on, 0, false, 0, a⟩ ⟨true, on, 0, false, 0, a⟩ true a (by rw [see_at E1.out]; have : on ≤ 0 := (by omega); simp [this]) _ HT2.out.1 (by exact ok_of (by omega) (by omega) (by omega) (by omega) (by simp))).mono ?_
        rintro e wq3 ⟨rfl, hA, hg⟩
        have HT3 := Lib.hid (HT2.out.sd hA hg)
        clear hA hg HT2
        go_wp2_with fail
        refine (See_is w2.heap.size ⟨false, on, 0, false, 0, a⟩ ⟨true, on, 0, false, 0, a⟩ true a (by rw [see_at E5.out]; have : on ≤ 0 := (by omega); simp [this]) _ HT3.out.2.1 (by exact ok_of (by omega) (by omega) (by omega) (by omega) (by simp))).mono ?_
        rintro e wq4 ⟨rfl, hA, hg⟩
        have HT4 := Lib.hid (HT3.out.sx hA hg)
        clear hA hg HT3
        go_wp2_with fail
        refine (Since_any w1.heap.size ⟨true, on, 0, false, 0, a⟩ _ HT4.out.1).mono ?_
        rintro e wq5 ⟨rfl, hg⟩
        have HT5 := Lib.hid (HT4.out.none hg)
        clear hg HT4
        go_wp2_with fail
        refine (Since_any w2.heap.size ⟨true, on, 0, false, 0, a⟩ _ HT5.out.2.1).mono ?_
        rintro e wq6 ⟨rfl, hg⟩
        have HT6 := Lib.hid (HT5.out.none hg)
        clear hg HT5
        go_wp2_with fail
        refine (See_is w1.heap.size ⟨true, on, 0, false, 0, a⟩ ⟨true, on, 0, false, 0, a⟩ true c (by rw [see_at E2.out]; simp) _ HT6.out.1 (by exact ok_of (by omega) (by omega) (by omega) (by omega) (by simp))).mono ?_
        rintro e wq7 ⟨rfl, hA, hg⟩
        have HT7 := Lib.hid (HT6.out.sd hA hg)
        clear hA hg HT6
        go_wp2_with fail
        refine (See_is w2.heap.size ⟨true, on, 0, false, 0, a⟩ ⟨true, on, 0, false, 0, a⟩ true a (by rw [see_at E3.out]; simp) _ HT7.out.2.1 (by exact ok_of (by omega) (by omega) (by omega) (by omega) (by simp))).mono ?_
        rintro e wq8 ⟨rfl, hA, hg⟩
        have HT8 := Lib.hid (HT7.out.sx hA hg)
        clear hA hg HT7
        go_wp2_with fail
        refine (Value_any w1.heap.size ⟨true, on, 0, false, 0, a⟩ _ HT8.out.1).mono ?_
        rintro e wv ⟨rfl, rfl⟩
        go_wp2_with fail
        refine (Value_any w2.heap.size ⟨true, on, 0, false, 0, a⟩ _ HT8.out.2.1).mono ?_
        rintro e wv ⟨rfl, rfl⟩
        go_wp2_with fail
        refine (See_is w1.heap.size ⟨true, on, 0, false, 0, a⟩ ⟨true, on, 0, false, 0, 1099511627776⟩ true 4611686018427387904 (by rw [see_at E4.out]; simp) _ HT8.out.1 (by exact ok_of (by omega) (by omega) (by omega) (by omega) (by simp))).mono ?_
        rintro e wq9 ⟨rfl, hA, hg⟩
        have HT9 := Lib.hid (HT8.out.sd hA hg)
        clear hA hg HT8
        go_wp2_with fail
        go_ret
        exact ⟨rfl, HT9.out.2.2.1⟩
      · rcases (by omega : 1099511627776 < c ∨ c ≤ 1099511627776) with q3 | q3
        · have E1 := Lib.hid (show clamp a a = a by unfold clamp; omega)
          have E2 := Lib.hid (show clamp c a = 1099511627776 by unfold clamp; omega)
          have E3 := Lib.hid (show clamp 1099511627776 a = 1099511627776 by unfold clamp; omega)
          have E4 := Lib.hid (show clamp 4611686018427387904 1099511627776 = 1099511627776 by unfold clamp; omega)
          have E5 := Lib.hid (show clamp a a = a by unfold clamp; omega)
          go_wp2_with fail
          refine (See_is w1.heap.size ⟨false, on, 0, false, 0, a⟩ ⟨true, on, 0, false, 0, a⟩ true a (by rw [see_at E1.out]; have : on ≤ 0 := (by omega); simp [this]) _ HT2.out.1 (by exact ok_of (by omega) (by omega) (by omega) (by omega) (by simp))).mono ?_
          rintro e wq3 ⟨rfl, hA, hg⟩
          have HT3 := Lib.hid (HT2.out.sd hA hg)
          clear hA hg HT2
          go_wp2_with fail
          refine (See_is w2.heap.size ⟨false, on, 0, false, 0, a⟩ ⟨true, on, 0, false, 0, a⟩ true a (by rw [see_at E5.out]; have : on ≤ 0 := (by omega); simp [this]) _ HT3.out.2.1 (by exact ok_of (by omega) (by omega) (by omega) (by omega) (by simp))).mono ?_
          rintro e wq4 ⟨rfl, hA, hg⟩
          have HT4 := Lib.hid (HT3.out.sx hA hg)
          clear hA hg HT3
          go_wp2_with fail
          refine (Since_any w1.heap.size ⟨true, on, 0, false, 0, a⟩ _ HT4.out.1).mono ?_
          rintro e wq5 ⟨rfl, hg⟩
          have HT5 := Lib.hid (HT4.out.none hg)
          clear hg HT4
          go_wp2_with fail
          refine (Since_any w2.heap.size ⟨true, on, 0, false, 0, a⟩ _ HT5.out.2.1).mono ?_
          rintro e wq6 ⟨rfl, hg⟩
          have HT6 := Lib.hid (HT5.out.none hg)
          clear hg HT5
          go_wp2_with fail
          refine (See_is w1.heap.size ⟨true, on, 0, false, 0, a⟩ ⟨true, on, 0, false, 0, 1099511627776⟩ true c (by rw [see_at E2.out]; simp) _ HT6.out.1 (by exact ok_of (by omega) (by omega) (by omega) (by omega) (by simp))).mono ?_
          rintro e wq7 ⟨rfl, hA, hg⟩
          have HT7 := Lib.hid (HT6.out.sd hA hg)
          clear hA hg HT6
          go_wp2_with fail
          refine (See_is w2.heap.size ⟨true, on, 0, false, 0, a⟩ ⟨true, on, 0, false, 0, 1099511627776⟩ true 1099511627776 (by rw [see_at E3.out]; simp) _ HT7.out.2.1 (by exact ok_of (by omega) (by omega) (by omega) (by omega) (by simp))).mono ?_
          rintro e wq8 ⟨rfl, hA, hg⟩
          have HT8 := Lib.hid (HT7.out.sx hA hg)
          clear hA hg HT7
          go_wp2_with fail
          refine (Value_any w1.heap.size ⟨true, on, 0, false, 0, 1099511627776⟩ _ HT8.out.1).mono ?_
          rintro e wv ⟨rfl, rfl⟩
          go_wp2_with fail
          refine (Value_any w2.heap.size ⟨true, on, 0, false, 0, 1099511627776⟩ _ HT8.out.2.1).mono ?_
          rintro e wv ⟨rfl, rfl⟩
          go_wp2_with fail
          refine (See_is w1.heap.size ⟨true, on, 0, false, 0, 1099511627776⟩ ⟨true, on, 0, false, 0, 1099511627776⟩ true 4611686018427387904 (by rw [see_at E4.out]; simp) _ HT8.out.1 (by exact ok_of (by omega) (by omega) (by omega) (by omega) (by simp))).mono ?_
          rintro e wq9 ⟨rfl, hA, hg⟩
          have HT9 := Lib.hid (HT8.out.sd hA hg)
          clear hA hg HT8
          go_wp2_with fail
          go_ret
          exact ⟨rfl, HT9.out.2.2.1⟩
        · have E1 := Lib.hid (show clamp a a = a by unfold clamp; omega)
          have E2 := Lib.hid (show clamp c a = c by unfold clamp; omega)
          have E3 := Lib.hid (show clamp c a = c by unfold clamp; omega)
          have E4 := Lib.hid (show clamp 4611686018427387904 c = 1099511627776 by unfold clamp; omega)
          have E5 := Lib.hid (show clamp a a = a by unfold clamp; omega)
          go_wp2_with fail
          refine (See_is w1.heap.size ⟨false, on, 0, false, 0, a⟩ ⟨true, on, 0, false, 0, a⟩ true a (by rw [see_at E1.out]; have : on ≤ 0 := (by omega); simp [this]) _ HT2.out.1 (by exact ok_of (by omega) (by omega) (by omega) (by omega) (by simp))).mono ?_
          rintro e wq3 ⟨rfl, hA, hg⟩
          have HT3 := Lib.hid (HT2.out.sd hA hg)
          clear hA hg HT2
          go_wp2_with fail
          refine (See_is w2.heap.size ⟨false, on, 0, false, 0, a⟩ ⟨true, on, 0, false, 0, a⟩ true a (by rw [see_at E5.out]; have : on ≤ 0 := (by omega); simp [this]) _ HT3.out.2.1 (by exact ok_of (by omega) (by omega) (by omega) (by omega) (by simp))).mono ?_
          rintro e wq4 ⟨rfl, hA, hg⟩
          have HT4 := Lib.hid (HT3.out.sx hA hg)
          clear hA hg HT3
          go_wp2_with fail
          refine (Since_any w1.heap.size ⟨true, on, 0, false, 0, a⟩ _ HT4.out.1).mono ?_
          rintro e wq5 ⟨rfl, hg⟩
          have HT5 := Lib.hid (HT4.out.none hg)
          clear hg HT4
          go_wp2_with fail
          refine (Since_any w2.heap.size ⟨true, on, 0, false, 0, a⟩ _ HT5.out.2.1).mono ?_
          rintro e wq6 ⟨rfl, hg⟩
          have HT6 := Lib.hid (HT5.out.none hg)
          clear hg HT5
          go_wp2_with fail
          refine (See_is w1.heap.size ⟨true, on, 0, false, 0, a⟩ ⟨true, on, 0, false, 0, c⟩ true c (by rw [see_at E2.out]; simp) _ HT6.out.1 (by exact ok_of (by omega) (by omega) (by omega) (by omega) (by simp))).mono ?_
          rintro e wq7 ⟨rfl, hA, hg⟩
          have HT7 := Lib.hid (HT6.out.sd hA hg)
          clear hA hg HT6
          go_wp2_with fail
          refine (See_is w2.heap.size ⟨true, on, 0, false, 0, a⟩ ⟨true, on, 0, false, 0, c⟩ true c (by rw [see_at E3.out]; simp) _ HT7.out.2.1 (by exact ok_of (by omega) (by omega) (by omega) (by omega) (by simp))).mono ?_
          rintro e wq8 ⟨rfl, hA, hg⟩
          have HT8 := Lib.hid (HT7.out.sx hA hg)
          clear hA hg HT7
          go_wp2_with fail
          refine (Value_any w1.heap.size ⟨true, on, 0, false, 0, c⟩ _ HT8.out.1).mono ?_
          rintro e wv ⟨rfl, rfl⟩
          go_wp2_with fail
          refine (Value_any w2.heap.size ⟨true, on, 0, false, 0, c⟩ _ HT8.out.2.1).mono ?_
          rintro e wv ⟨rfl, rfl⟩
          go_wp2_with fail
          refine (See_is w1.heap.size ⟨true, on, 0, false, 0, c⟩ ⟨true, on, 0, false, 0, 1099511627776⟩ true 4611686018427387904 (by rw [see_at E4.out]; simp) _ HT8.out.1 (by exact ok_of (by omega) (by omega) (by omega) (by omega) (by simp))).mono ?_
          rintro e wq9 ⟨rfl, hA, hg⟩
          have HT9 := Lib.hid (HT8.out.sd hA hg)
          clear hA hg HT8
          go_wp2_with fail
          go_ret
          exact ⟨rfl, HT9.out.2.2.1⟩
  · rcases (by omega : 0 < on ∨ on ≤ 0) with q1 | q1
    · rcases (by omega : c < a ∨ a ≤ c) with q2 | q2
      · have E1 := Lib.hid (show clamp b a = a by unfold clamp; omega)
        have E2 := Lib.hid (show clamp c a = a by unfold clamp; omega)
        have E3 := Lib.hid (show clamp a a = a by unfold clamp; omega)
        have E4 := Lib.hid (show clamp 4611686018427387904 a = 1099511627776 by unfold clamp; omega)
        have E5 := Lib.hid (show clamp a a = a by unfold clamp; omega)
        go_wp2_with fail
        refine (See_is w1.heap.size ⟨false, on, 0, false, 0, a⟩ ⟨false, on, 0, true, a, a⟩ true b (by rw [see_at E1.out]; have : ¬ on ≤ 0 := (by omega); simp [this]) _ HT2.out.1 (by exact ok_of (by omega) (by omega) (by omega) (by omega) (by simp))).mono ?_
        rintro e wq3 ⟨rfl, hA, hg⟩
        have HT3 := Lib.hid (HT2.out.sd hA hg)
        clear hA hg HT2
        go_wp2_with fail
        refine (See_is w2.heap.size ⟨false, on, 0, false, 0, a⟩ ⟨false, on, 0, true, a, a⟩ true a (by rw [see_at E5.out]; have : ¬ on ≤ 0 := (by omega); simp [this]) _ HT3.out.2.1 (by exact ok_of (by omega) (by omega) (by omega) (by omega) (by simp))).mono ?_
        rintro e wq4 ⟨rfl, hA, hg⟩
        have HT4 := Lib.hid (HT3.out.sx hA hg)
        clear hA hg HT3
        go_wp2_with fail
        refine (Since_any w1.heap.size ⟨false, on, 0, true, a, a⟩ _ HT4.out.1).mono ?_
        rintro e wq5 ⟨rfl, hg⟩
        have HT5 := Lib.hid (HT4.out.none hg)
        clear hg HT4
        go_wp2_with fail
        refine (Since_any w2.heap.size ⟨false, on, 0, true, a, a⟩ _ HT5.out.2.1).mono ?_
        rintro e wq6 ⟨rfl, hg⟩
        have HT6 := Lib.hid (HT5.out.none hg)
        clear hg HT5
        go_wp2_with fail
        refine (See_is w1.heap.size ⟨false, on, 0, true, a, a⟩ ⟨false, on, 0, true, a, a⟩ true c (by rw [see_at E2.out]; have : ¬ on ≤ 0 := (by omega); simp [this]) _ HT6.out.1 (by exact ok_of (by omega) (by omega) (by omega) (by omega) (by intro h; cases h))).mono ?_
        rintro e wq7 ⟨rfl, hA, hg⟩
        have HT7 := Lib.hid (HT6.out.sd hA hg)
        clear hA hg HT6
        go_wp2_with fail
        refine (See_is w2.heap.size ⟨false, on, 0, true, a, a⟩ ⟨false, on, 0, true, a, a⟩ true a (by rw [see_at E3.out]; have : ¬ on ≤ 0 := (by omega); simp [this]) _ HT7.out.2.1 (by exact ok_of (by omega) (by omega) (by omega) (by omega) (by intro h; cases h))).mono ?_
        rintro e wq8 ⟨rfl, hA, hg⟩
        have HT8 := Lib.hid (HT7.out.sx hA hg)
        clear hA hg HT7
        go_wp2_with fail
        refine (Value_any w1.heap.size ⟨false, on, 0, true, a, a⟩ _ HT8.out.1).mono ?_
        rintro e wv ⟨rfl, rfl⟩
        go_wp2_with fail
        refine (Value_any w2.heap.size ⟨false, on, 0, true, a, a⟩ _ HT8.out.2.1).mono ?_
        rintro e wv ⟨rfl, rfl⟩
        go_wp2_with fail
        refine (See_is w1.heap.size ⟨false, on, 0, true, a, a⟩ ⟨true, on, 0, false, 0, 1099511627776⟩ true 4611686018427387904 (by rw [see_at E4.out]; have : on ≤ 1099511627776 - a := (by omega); simp [this]) _ HT8.out.1 (by exact ok_of (by omega) (by omega) (by omega) (by omega) (by intro h; cases h))).mono ?_
        rintro e wq9 ⟨rfl, hA, hg⟩
        have HT9 := Lib.hid (HT8.out.sd hA hg)
        clear hA hg HT8
        go_wp2_with fail
        go_ret
        exact ⟨rfl, HT9.out.2.2.1⟩
      · rcases (by omega : 1099511627776 < c ∨ c ≤ 1099511627776) with q3 | q3
        · have E1 := Lib.hid (show clamp b a = a by unfold clamp; omega)
          have E2 := Lib.hid (show clamp c a = 1099511627776 by unfold clamp; omega)
          have E3 := Lib.hid (show clamp 1099511627776 a = 1099511627776 by unfold clamp; omega)
          have E4 := Lib.hid (show clamp 4611686018427387904 1099511627776 = 1099511627776 by unfold clamp; omega)
          have E5 := Lib.hid (show clamp a a = a by unfold clamp; omega)
          go_wp2_with fail
          refine (See_is w1.heap.size ⟨false, on, 0, false, 0, a⟩ ⟨false, on, 0, true, a, a⟩ true b (by rw [see_at E1.out]; have : ¬ on ≤ 0 := (by omega); simp [this]) _ HT2.out.1 (by exact ok_of (by omega) (by omega) (by omega) (by omega) (by simp))).mono ?_
          rintro e wq3 ⟨rfl, hA, hg⟩
          have HT3 := Lib.hid (HT2.out.sd hA hg)
          clear hA hg HT2
          go_wp2_with fail
          refine (See_is w2.heap.size ⟨false, on, 0, false, 0, a⟩ ⟨false, on, 0, true, a, a⟩ true a (by rw [see_at E5.out]; have : ¬ on ≤ 0 := (by omega); simp [this]) _ HT3.out.2.1 (by exact ok_of (by omega) (by omega) (by omega) (by omega) (by simp))).mono ?_
          rintro e wq4 ⟨rfl, hA, hg⟩
          have HT4 := Lib.hid (HT3.out.sx hA hg)
          clear hA hg HT3
          go_wp2_with fail
          refine (Since_any w1.heap.size ⟨false, on, 0, true, a, a⟩ _ HT4.out.1).mono ?_
          rintro e wq5 ⟨rfl, hg⟩
          have HT5 := Lib.hid (HT4.out.none hg)
          clear hg HT4
          go_wp2_with fail
          refine (Since_any w2.heap.size ⟨false, on, 0, true, a, a⟩ _ HT5.out.2.1).mono ?_
          rintro e wq6 ⟨rfl, hg⟩
          have HT6 := Lib.hid (HT5.out.none hg)
          clear hg HT5
          go_wp2_with fail
          refine (See_is w1.heap.size ⟨false, on, 0, true, a, a⟩ ⟨true, on, 0, false, 0, 1099511627776⟩ true c (by rw [see_at E2.out]; have : on ≤ 1099511627776 - a := (by omega); simp [this]) _ HT6.out.1 (by exact ok_of (by omega) (by omega) (by omega) (by omega) (by intro h; cases h))).mono ?_
          rintro e wq7 ⟨rfl, hA, hg⟩
          have HT7 := Lib.hid (HT6.out.sd hA hg)
          clear hA hg HT6
          go_wp2_with fail
          refine (See_is w2.heap.size ⟨false, on, 0, true, a, a⟩ ⟨true, on, 0, false, 0, 1099511627776⟩ true 1099511627776 (by rw [see_at E3.out]; have : on ≤ 1099511627776 - a := (by omega); simp [this]) _ HT7.out.2.1 (by exact ok_of (by omega) (by omega) (by omega) (by omega) (by intro h; cases h))).mono ?_
          rintro e wq8 ⟨rfl, hA, hg⟩
          have HT8 := Lib.hid (HT7.out.sx hA hg)
          clear hA hg HT7
          go_wp2_with fail
          refine (Value_any w1.heap.size ⟨true, on, 0, false, 0, 1099511627776⟩ _ HT8.out.1).mono ?_
          rintro e wv ⟨rfl, rfl⟩
          go_wp2_with fail
          refine (Value_any w2.heap.size ⟨true, on, 0, false, 0, 1099511627776⟩ _ HT8.out.2.1).mono ?_
          rintro e wv ⟨rfl, rfl⟩
          go_wp2_with fail
          refine (See_is w1.heap.size ⟨true, on, 0, false, 0, 1099511627776⟩ ⟨true, on, 0, false, 0, 1099511627776⟩ true 4611686018427387904 (by rw [see_at E4.out]; simp) _ HT8.out.1 (by exact ok_of (by omega) (by omega) (by omega) (by omega) (by simp))).mono ?_
          rintro e wq9 ⟨rfl, hA, hg⟩
          have HT9 := Lib.hid (HT8.out.sd hA hg)
          clear hA hg HT8
          go_wp2_with fail
          go_ret
          exact ⟨rfl, HT9.out.2.2.1⟩
        · rcases (by omega : (c - a) < on ∨ on ≤ (c - a)) with q4 | q4
          · have E1 := Lib.hid (show clamp b a = a by unfold clamp; omega)
            have E2 := Lib.hid (show clamp c a = c by unfold clamp; omega)
            have E3 := Lib.hid (show clamp c a = c by unfold clamp; omega)
            have E4 := Lib.hid (show clamp 4611686018427387904 c = 1099511627776 by unfold clamp; omega)
            have E5 := Lib.hid (show clamp a a = a by unfold clamp; omega)
            go_wp2_with fail
            refine (See_is w1.heap.size ⟨false, on, 0, false, 0, a⟩ ⟨false, on, 0, true, a, a⟩ true b (by rw [see_at E1.out]; have : ¬ on ≤ 0 := (by omega); simp [this]) _ HT2.out.1 (by exact ok_of (by omega) (by omega) (by omega) (by omega) (by simp))).mono ?_
            rintro e wq3 ⟨rfl, hA, hg⟩
            have HT3 := Lib.hid (HT2.out.sd hA hg)
            clear hA hg HT2
            go_wp2_with fail
            refine (See_is w2.heap.size ⟨false, on, 0, false, 0, a⟩ ⟨false, on, 0, true, a, a⟩ true a (by rw [see_at E5.out]; have : ¬ on ≤ 0 := (by omega); simp [this]) _ HT3.out.2.1 (by exact ok_of (by omega) (by omega) (by omega) (by omega) (by simp))).mono ?_
            rintro e wq4 ⟨rfl, hA, hg⟩
            have HT4 := Lib.hid (HT3.out.sx hA hg)
            clear hA hg HT3
            go_wp2_with fail
            refine (Since_any w1.heap.size ⟨false, on, 0, true, a, a⟩ _ HT4.out.1).mono ?_
            rintro e wq5 ⟨rfl, hg⟩
            have HT5 := Lib.hid (HT4.out.none hg)
            clear hg HT4
            go_wp2_with fail
            refine (Since_any w2.heap.size ⟨false, on, 0, true, a, a⟩ _ HT5.out.2.1).mono ?_
            rintro e wq6 ⟨rfl, hg⟩
            have HT6 := Lib.hid (HT5.out.none hg)
            clear hg HT5
            go_wp2_with fail
            refine (See_is w1.heap.size ⟨false, on, 0, true, a, a⟩ ⟨false, on, 0, true, a, c⟩ true c (by rw [see_at E2.out]; have : ¬ on ≤ c - a := (by omega); simp [this]) _ HT6.out.1 (by exact ok_of (by omega) (by omega) (by omega) (by omega) (by intro h; cases h))).mono ?_
            rintro e wq7 ⟨rfl, hA, hg⟩
            have HT7 := Lib.hid (HT6.out.sd hA hg)
            clear hA hg HT6
            go_wp2_with fail
            refine (See_is w2.heap.size ⟨false, on, 0, true, a, a⟩ ⟨false, on, 0, true, a, c⟩ true c (by rw [see_at E3.out]; have : ¬ on ≤ c - a := (by omega); simp [this]) _ HT7.out.2.1 (by exact ok_of (by omega) (by omega) (by omega) (by omega) (by intro h; cases h))).mono ?_
            rintro e wq8 ⟨rfl, hA, hg⟩
            have HT8 := Lib.hid (HT7.out.sx hA hg)
            clear hA hg HT7
            go_wp2_with fail
            refine (Value_any w1.heap.size ⟨false, on, 0, true, a, c⟩ _ HT8.out.1).mono ?_
            rintro e wv ⟨rfl, rfl⟩
            go_wp2_with fail
            refine (Value_any w2.heap.size ⟨false, on, 0, true, a, c⟩ _ HT8.out.2.1).mono ?_
            rintro e wv ⟨rfl, rfl⟩
            go_wp2_with fail
            refine (See_is w1.heap.size ⟨false, on, 0, true, a, c⟩ ⟨true, on, 0, false, 0, 1099511627776⟩ true 4611686018427387904 (by rw [see_at E4.out]; have : on ≤ 1099511627776 - a := (by omega); simp [this]) _ HT8.out.1 (by exact ok_of (by omega) (by omega) (by omega) (by omega) (by intro h; cases h))).mono ?_
            rintro e wq9 ⟨rfl, hA, hg⟩
            have HT9 := Lib.hid (HT8.out.sd hA hg)
            clear hA hg HT8
            go_wp2_with fail
            go_ret
            exact ⟨rfl, HT9.out.2.2.1⟩
          · have E1 := Lib.hid (show clamp b a = a by unfold clamp; omega)
            have E2 := Lib.hid (show clamp c a = c by unfold clamp; omega)
            have E3 := Lib.hid (show clamp c a = c by unfold clamp; omega)
            have E4 := Lib.hid (show clamp 4611686018427387904 c = 1099511627776 by unfold clamp; omega)
            have E5 := Lib.hid (show clamp a a = a by unfold clamp; omega)
            go_wp2_with fail
            refine (See_is w1.heap.size ⟨false, on, 0, false, 0, a⟩ ⟨false, on, 0, true, a, a⟩ true b (by rw [see_at E1.out]; have : ¬ on ≤ 0 := (by omega); simp [this]) _ HT2.out.1 (by exact ok_of (by omega) (by omega) (by omega) (by omega) (by simp))).mono ?_
            rintro e wq3 ⟨rfl, hA, hg⟩
            have HT3 := Lib.hid (HT2.out.sd hA hg)
            clear hA hg HT2
            go_wp2_with fail
            refine (See_is w2.heap.size ⟨false, on, 0, false, 0, a⟩ ⟨false, on, 0, true, a, a⟩ true a (by rw [see_at E5.out]; have : ¬ on ≤ 0 := (by omega); simp [this]) _ HT3.out.2.1 (by exact ok_of (by omega) (by omega) (by omega) (by omega) (by simp))).mono ?_
            rintro e wq4 ⟨rfl, hA, hg⟩
            have HT4 := Lib.hid (HT3.out.sx hA hg)
            clear hA hg HT3
            go_wp2_with fail
            refine (Since_any w1.heap.size ⟨false, on, 0, true, a, a⟩ _ HT4.out.1).mono ?_
            rintro e wq5 ⟨rfl, hg⟩
            have HT5 := Lib.hid (HT4.out.none hg)
            clear hg HT4
            go_wp2_with fail
            refine (Since_any w2.heap.size ⟨false, on, 0, true, a, a⟩ _ HT5.out.2.1).mono ?_
            rintro e wq6 ⟨rfl, hg⟩
            have HT6 := Lib.hid (HT5.out.none hg)
            clear hg HT5
            go_wp2_with fail
            refine (See_is w1.heap.size ⟨false, on, 0, true, a, a⟩ ⟨true, on, 0, false, 0, c⟩ true c (by rw [see_at E2.out]; have : on ≤ c - a := (by omega); simp [this]) _ HT6.out.1 (by exact ok_of (by omega) (by omega) (by omega) (by omega) (by intro h; cases h))).mono ?_
            rintro e wq7 ⟨rfl, hA, hg⟩
            have HT7 := Lib.hid (HT6.out.sd hA hg)
            clear hA hg HT6
            go_wp2_with fail
            refine (See_is w2.heap.size ⟨false, on, 0, true, a, a⟩ ⟨true, on, 0, false, 0, c⟩ true c (by rw [see_at E3.out]; have : on ≤ c - a := (by omega); simp [this]) _ HT7.out.2.1 (by exact ok_of (by omega) (by omega) (by omega) (by omega) (by intro h; cases h))).mono ?_
            rintro e wq8 ⟨rfl, hA, hg⟩
            have HT8 := Lib.hid (HT7.out.sx hA hg)
            clear hA hg HT7
            go_wp2_with fail
            refine (Value_any w1.heap.size ⟨true, on, 0, false, 0, c⟩ _ HT8.out.1).mono ?_
            rintro e wv ⟨rfl, rfl⟩
            go_wp2_with fail
            refine (Value_any w2.heap.size ⟨true, on, 0, false, 0, c⟩ _ HT8.out.2.1).mono ?_
            rintro e wv ⟨rfl, rfl⟩
            go_wp2_with fail
            refine (See_is w1.heap.size ⟨true, on, 0, false, 0, c⟩ ⟨true, on, 0, false, 0, 1099511627776⟩ true 4611686018427387904 (by rw [see_at E4.out]; simp) _ HT8.out.1 (by exact ok_of (by omega) (by omega) (by omega) (by omega) (by simp))).mono ?_
            rintro e wq9 ⟨rfl, hA, hg⟩
            have HT9 := Lib.hid (HT8.out.sd hA hg)
            clear hA hg HT8
            go_wp2_with fail
            go_ret
            exact ⟨rfl, HT9.out.2.2.1⟩
    · rcases (by omega : c < a ∨ a ≤ c) with q2 | q2
      · have E1 := Lib.hid (show clamp b a = a by unfold clamp; omega)
        have E2 := Lib.hid (show clamp c a = a by unfold clamp; omega)
        have E3 := Lib.hid (show clamp a a = a by unfold clamp; omega)
        have E4 := Lib.hid (show clamp 4611686018427387904 a = 1099511627776 by unfold clamp; omega)
        have E5 := Lib.hid (show clamp a a = a by unfold clamp; omega)
        go_wp2_with fail
        refine (See_is w1.heap.size ⟨false, on, 0, false, 0, a⟩ ⟨true, on, 0, false, 0, a⟩ true b (by rw [see_at E1.out]; have : on ≤ 0 := (by omega); simp [this]) _ HT2.out.1 (by exact ok_of (by omega) (by omega) (by omega) (by omega) (by simp))).mono ?_
        rintro e wq3 ⟨rfl, hA, hg⟩
        have HT3 := Lib.hid (HT2.out.sd hA hg)
        clear hA hg HT2
        go_wp2_with fail
        refine (See_is w2.heap.size ⟨false, on, 0, false, 0, a⟩ ⟨true, on, 0, false, 0, a⟩ true a (by rw [see_at E5.out]; have : on ≤ 0 := (by omega); simp [this]) _ HT3.out.2.1 (by exact ok_of (by omega) (by omega) (by omega) (by omega) (by simp))).mono ?_
        rintro e wq4 ⟨rfl, hA, hg⟩
        have HT4 := Lib.hid (HT3.out.sx hA hg)
        clear hA hg HT3
        go_wp2_with fail
        refine (Since_any w1.heap.size ⟨true, on, 0, false, 0, a⟩ _ HT4.out.1).mono ?_
        rintro e wq5 ⟨rfl, hg⟩
        have HT5 := Lib.hid (HT4.out.none hg)
        clear hg HT4
        go_wp2_with fail
        refine (Since_any w2.heap.size ⟨true, on, 0, false, 0, a⟩ _ HT5.out.2.1).mono ?_
        rintro e wq6 ⟨rfl, hg⟩
        have HT6 := Lib.hid (HT5.out.none hg)
        clear hg HT5
        go_wp2_with fail
        refine (See_is w1.heap.size ⟨true, on, 0, false, 0, a⟩ ⟨true, on, 0, false, 0, a⟩ true c (by rw [see_at E2.out]; simp) _ HT6.out.1 (by exact ok_of (by omega) (by omega) (by omega) (by omega) (by simp))).mono ?_
        rintro e wq7 ⟨rfl, hA, hg⟩
        have HT7 := Lib.hid (HT6.out.sd hA hg)
        clear hA hg HT6
        go_wp2_with fail
        refine (See_is w2.heap.size ⟨true, on, 0, false, 0, a⟩ ⟨true, on, 0, false, 0, a⟩ true a (by rw [see_at E3.out]; simp) _ HT7.out.2.1 (by exact ok_of (by omega) (by omega) (by omega) (by omega) (by simp))).mono ?_
        rintro e wq8 ⟨rfl, hA, hg⟩
        have HT8 := Lib.hid (HT7.out.sx hA hg)
        clear hA hg HT7
        go_wp2_with fail
        refine (Value_any w1.heap.size ⟨true, on, 0, false, 0, a⟩ _ HT8.out.1).mono ?_
        rintro e wv ⟨rfl, rfl⟩
        go_wp2_with fail
        refine (Value_any w2.heap.size ⟨true, on, 0, false, 0, a⟩ _ HT8.out.2.1).mono ?_
        rintro e wv ⟨rfl, rfl⟩
        go_wp2_with fail
        refine (See_is w1.heap.size ⟨true, on, 0, false, 0, a⟩ ⟨true, on, 0, false, 0, 1099511627776⟩ true 4611686018427387904 (by rw [see_at E4.out]; simp) _ HT8.out.1 (by exact ok_of (by omega) (by omega) (by omega) (by omega) (by simp))).mono ?_
        rintro e wq9 ⟨rfl, hA, hg⟩
        have HT9 := Lib.hid (HT8.out.sd hA hg)
        clear hA hg HT8
        go_wp2_with fail
        go_ret
        exact ⟨rfl, HT9.out.2.2.1⟩
      · rcases (by omega : 1099511627776 < c ∨ c ≤ 1099511627776) with q3 | q3
        · have E1 := Lib.hid (show clamp b a = a by unfold clamp; omega)
          have E2 := Lib.hid (show clamp c a = 1099511627776 by unfold clamp; omega)
          have E3 := Lib.hid (show clamp 1099511627776 a = 1099511627776 by unfold clamp; omega)
          have E4 := Lib.hid (show clamp 4611686018427387904 1099511627776 = 1099511627776 by unfold clamp; omega)
          have E5 := Lib.hid (show clamp a a = a by unfold clamp; omega)
          go_wp2_with fail
          refine (See_is w1.heap.size ⟨false, on, 0, false, 0, a⟩ ⟨true, on, 0, false, 0, a⟩ true b (by rw [see_at E1.out]; have : on ≤ 0 := (by omega); simp [this]) _ HT2.out.1 (by exact ok_of (by omega) (by omega) (by omega) (by omega) (by simp))).mono ?_
          rintro e wq3 ⟨rfl, hA, hg⟩
          have HT3 := Lib.hid (HT2.out.sd hA hg)
          clear hA hg HT2
          go_wp2_with fail
          refine (See_is w2.heap.size ⟨false, on, 0, false, 0, a⟩ ⟨true, on, 0, false, 0, a⟩ true a (by rw [see_at E5.out]; have : on ≤ 0 := (by omega); simp [this]) _ HT3.out.2.1 (by exact ok_of (by omega) (by omega) (by omega) (by omega) (by simp))).mono ?_
          rintro e wq4 ⟨rfl, hA, hg⟩
          have HT4 := Lib.hid (HT3.out.sx hA hg)
          clear hA hg HT3
          go_wp2_with fail
          refine (Since_any w1.heap.size ⟨true, on, 0, false, 0, a⟩ _ HT4.out.1).mono ?_
          rintro e wq5 ⟨rfl, hg⟩
          have HT5 := Lib.hid (HT4.out.none hg)
          clear hg HT4
          go_wp2_with fail
          refine (Since_any w2.heap.size ⟨true, on, 0, false, 0, a⟩ _ HT5.out.2.1).mono ?_
          rintro e wq6 ⟨rfl, hg⟩
          have HT6 := Lib.hid (HT5.out.none hg)
          clear hg HT5
          go_wp2_with fail
          refine (See_is w1.heap.size ⟨true, on, 0, false, 0, a⟩ ⟨true, on, 0, false, 0, 1099511627776⟩ true c (by rw [see_at E2.out]; simp) _ HT6.out.1 (by exact ok_of (by omega) (by omega) (by omega) (by omega) (by simp))).mono ?_
          rintro e wq7 ⟨rfl, hA, hg⟩
          have HT7 := Lib.hid (HT6.out.sd hA hg)
          clear hA hg HT6
          go_wp2_with fail
          refine (See_is w2.heap.size ⟨true, on, 0, false, 0, a⟩ ⟨true, on, 0, false, 0, 1099511627776⟩ true 1099511627776 (by rw [see_at E3.out]; simp) _ HT7.out.2.1 (by exact ok_of (by omega) (by omega) (by omega) (by omega) (by simp))).mono ?_
          rintro e wq8 ⟨rfl, hA, hg⟩
          have HT8 := Lib.hid (HT7.out.sx hA hg)
          clear hA hg HT7
          go_wp2_with fail
          refine (Value_any w1.heap.size ⟨true, on, 0, false, 0, 1099511627776⟩ _ HT8.out.1).mono ?_
          rintro e wv ⟨rfl, rfl⟩
          go_wp2_with fail
          refine (Value_any w2.heap.size ⟨true, on, 0, false, 0, 1099511627776⟩ _ HT8.out.2.1).mono ?_
          rintro e wv ⟨rfl, rfl⟩
          go_wp2_with fail
          refine (See_is w1.heap.size ⟨true, on, 0, false, 0, 1099511627776⟩ ⟨true, on, 0, false, 0, 1099511627776⟩ true 4611686018427387904 (by rw [see_at E4.out]; simp) _ HT8.out.1 (by exact ok_of (by omega) (by omega) (by omega) (by omega) (by simp))).mono ?_
          rintro e wq9 ⟨rfl, hA, hg⟩
          have HT9 := Lib.hid (HT8.out.sd hA hg)
          clear hA hg HT8
          go_wp2_with fail
          go_ret
          exact ⟨rfl, HT9.out.2.2.1⟩
        · have E1 := Lib.hid (show clamp b a = a by unfold clamp; omega)
          have E2 := Lib.hid (show clamp c a = c by unfold clamp; omega)
          have E3 := Lib.hid (show clamp c a = c by unfold clamp; omega)
          have E4 := Lib.hid (show clamp 4611686018427387904 c = 1099511627776 by unfold clamp; omega)
          have E5 := Lib.hid (show clamp a a = a by unfold clamp; omega)
          go_wp2_with fail
          refine (See_is w1.heap.size ⟨false, on, 0, false, 0, a⟩ ⟨true, on, 0, false, 0, a⟩ true b (by rw [see_at E1.out]; have : on ≤ 0 := (by omega); simp [this]) _ HT2.out.1 (by exact ok_of (by omega) (by omega) (by omega) (by omega) (by simp))).mono ?_
          rintro e wq3 ⟨rfl, hA, hg⟩
          have HT3 := Lib.hid (HT2.out.sd hA hg)
          clear hA hg HT2
          go_wp2_with fail
          refine (See_is w2.heap.size ⟨false, on, 0, false, 0, a⟩ ⟨true, on, 0, false, 0, a⟩ true a (by rw [see_at E5.out]; have : on ≤ 0 := (by omega); simp [this]) _ HT3.out.2.1 (by exact ok_of (by omega) (by omega) (by omega) (by omega) (by simp))).mono ?_
          rintro e wq4 ⟨rfl, hA, hg⟩
          have HT4 := Lib.hid (HT3.out.sx hA hg)
          clear hA hg HT3
          go_wp2_with fail
          refine (Since_any w1.heap.size ⟨true, on, 0, false, 0, a⟩ _ HT4.out.1).mono ?_
          rintro e wq5 ⟨rfl, hg⟩
          have HT5 := Lib.hid (HT4.out.none hg)
          clear hg HT4
          go_wp2_with fail
          refine (Since_any w2.heap.size ⟨true, on, 0, false, 0, a⟩ _ HT5.out.2.1).mono ?_
          rintro e wq6 ⟨rfl, hg⟩
          have HT6 := Lib.hid (HT5.out.none hg)
          clear hg HT5
          go_wp2_with fail
          refine (See_is w1.heap.size ⟨true, on, 0, false, 0, a⟩ ⟨true, on, 0, false, 0, c⟩ true c (by rw [see_at E2.out]; simp) _ HT6.out.1 (by exact ok_of (by omega) (by omega) (by omega) (by omega) (by simp))).mono ?_
          rintro e wq7 ⟨rfl, hA, hg⟩
          have HT7 := Lib.hid (HT6.out.sd hA hg)
          clear hA hg HT6
          go_wp2_with fail
          refine (See_is w2.heap.size ⟨true, on, 0, false, 0, a⟩ ⟨true, on, 0, false, 0, c⟩ true c (by rw [see_at E3.out]; simp) _ HT7.out.2.1 (by exact ok_of (by omega) (by omega) (by omega) (by omega) (by simp))).mono ?_
          rintro e wq8 ⟨rfl, hA, hg⟩
          have HT8 := Lib.hid (HT7.out.sx hA hg)
          clear hA hg HT7
          go_wp2_with fail
          refine (Value_any w1.heap.size ⟨true, on, 0, false, 0, c⟩ _ HT8.out.1).mono ?_
          rintro e wv ⟨rfl, rfl⟩
          go_wp2_with fail
          refine (Value_any w2.heap.size ⟨true, on, 0, false, 0, c⟩ _ HT8.out.2.1).mono ?_
          rintro e wv ⟨rfl, rfl⟩
          go_wp2_with fail
          refine (See_is w1.heap.size ⟨true, on, 0, false, 0, c⟩ ⟨true, on, 0, false, 0, 1099511627776⟩ true 4611686018427387904 (by rw [see_at E4.out]; simp) _ HT8.out.1 (by exact ok_of (by omega) (by omega) (by omega) (by omega) (by simp))).mono ?_
          rintro e wq9 ⟨rfl, hA, hg⟩
          have HT9 := Lib.hid (HT8.out.sd hA hg)
          clear hA hg HT8
          go_wp2_with fail
          go_ret
          exact ⟨rfl, HT9.out.2.2.1⟩
set_option maxRecDepth 100000 in
theorem late_lifted (os : Os) (started : os.Started) (H : Type) (enc : TypeId × Value → H) :
    ReturnsInHanded {} Try.checked os 6 .any (Rows.delayLateSpec.pre6 enc Try.prog Try.f6 Rows.delayLateRow.domain false) (Rows.delayLateSpec.post enc Try.prog Try.f6 false true false false) := by
  refine LawFrame.handed (C := Try.checked) (tb := 4) (by kernel_rfl) (by kernel_rfl) (by kernel_rfl) Try.underlying4 rfl (fun ds hd => ?_) own started (by kernel_rfl) Try.func6
    (ChangeSpec.witness6 (enc := enc) (C := Try.checked) false ⟨#[], #[.int .u8 0, .int .u32 0, .int .u32 0, .int .i64 0], []⟩ 8 (by kernel_rfl) (by kernel_rfl) (by kernel_rfl) (by kernel_rfl)) ?_
  · rw [Try.params6] at hd
    match ds, hd with
    | [d1, d2, d3, d4], _ => rfl
  · intro W args ds before base hval hA hlt hsz
    rw [Try.params6] at hval hA
    obtain ⟨v0, vs0, d0, ds0, p0, q0, hargs, rfl, rfl, h0, r0⟩ := trodAll_cons hA
    obtain ⟨v1, vs1, d1, ds1, p1, q1, rfl, rfl, rfl, h1, r1⟩ := trodAll_cons r0
    obtain ⟨v2, vs2, d2, ds2, p2, q2, rfl, rfl, rfl, h2, r2⟩ := trodAll_cons r1
    obtain ⟨v3, vs3, d3, ds3, p3, q3, rfl, rfl, rfl, h3, r3⟩ := trodAll_cons r2
    obtain ⟨rfl, rfl, rfl⟩ := trodAll_nil r3
    obtain rfl : args = #[v0, v1, v2, v3] := by cases args; simp_all
    obtain ⟨on, rfl, rfl, rfl, w0⟩ := open_int Try.underlying5 (hval 0 5 v0 rfl rfl) h0
    obtain ⟨a, rfl, rfl, rfl, w1⟩ := open_int Try.underlying39 (hval 1 39 v1 rfl rfl) h1
    obtain ⟨b, rfl, rfl, rfl, w2⟩ := open_int Try.underlying39 (hval 2 39 v2 rfl rfl) h2
    obtain ⟨c, rfl, rfl, rfl, w3⟩ := open_int Try.underlying2 (hval 3 2 v3 rfl rfl) h3
    exact late_walk on a b c (bounds_u8 w0) (bounds_u32 w1) (bounds_u32 w2) W
theorem late_holds : Rows.DelayLateSaid :=
  OpenClaim.holds_of_wide 6 Try.f6 rfl rfl rfl rfl rfl rfl rfl ⟨rfl, rfl, rfl, rfl, rfl⟩ rfl rfl rfl rfl rfl (by kernel_rfl) Try.func6 (by kernel_rfl)
    (of_decide_eq_true (by kernel_rfl)) (by unfold Func.isWrapper; first | (rw [if_pos (by decide +kernel)]; kernel_rfl) | (rw [if_neg (by decide +kernel)]; exact ⟨rfl, rfl⟩))
    (fun os started H enc _ => late_lifted os started H enc)
#print axioms late_holds
end Go.Proofs.Ytgnpoiojiocmgaa
