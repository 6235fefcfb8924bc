/-
  DelayBack: a value that is not seen for as long as it must stand, and then the other one again, changes nothing: what is seen then is answered as if it had not been. For every input, with no condition.
-/
import Derived.Test.YtgnpoiojiocmgaaDelayStood
import Derived.Deep.RegionHeld3
namespace Go.Proofs.Ytgnpoiojiocmgaa
open Go.RowKit Delay Go.ChangeShapes Go.WideShapes

def Two (w : World) (gd gx : Nat) (d x : D) (wx : World) : Prop := DAt wx gd d ∧ DAt wx gx x ∧ Below w.heap.size w wx ∧ (w.heap.size ≤ gd ∧ gd < gx)
theorem Two.sd {w wx wy : World} {gd gx : Nat} {d x d2 : D} (h : Two w gd gx d x wx) (hA : DAt wy gd d2) (hg : wx.grownBy wy (some gd)) : Two w gd gx d2 x wy :=
  ⟨hA, h.2.1.keep hg (by have := h.2.2.2.2; simp; omega), below_grown h.2.2.1 hg h.2.2.1.size h.2.2.2.1, h.2.2.2⟩
theorem Two.sx {w wx wy : World} {gd gx : Nat} {d x x2 : D} (h : Two w gd gx d x wx) (hA : DAt wy gx x2) (hg : wx.grownBy wy (some gx)) : Two w gd gx d x2 wy :=
  ⟨h.1.keep hg (by have := h.2.2.2.2; simp; omega), hA, below_grown h.2.2.1 hg h.2.2.1.size (by have := h.2.2.2; omega), h.2.2.2⟩
theorem Two.drew {w wx : World} {gd gx : Nat} {d x : D} (h : Two w gd gx d x wx) : Two w gd gx d x wx.drew := ⟨h.1, h.2.1, h.2.2.1.drew, h.2.2.2⟩
theorem Two.none {w wx wy : World} {gd gx : Nat} {d x : D} (h : Two w gd gx d x wx) (hg : wx.grownBy wy none) : Two w gd gx d x wy :=
  ⟨h.1.keep hg (by simp), h.2.1.keep hg (by simp), below_none h.2.2.1 hg h.2.2.1.size, h.2.2.2⟩
theorem ok_of' {c r : Bool} {on off s t : Int} (h1 : 0 ≤ on ∧ on ≤ 1000) (h2 : 0 ≤ off ∧ off ≤ 1000) (h3 : 0 ≤ t ∧ t ≤ 1099511627776) (h4 : 0 ≤ s ∧ s ≤ t) (h5 : r = false → s = 0) : (D.mk c on off r s t).ok := ok_of h1 h2 h3 h4 h5

set_option maxHeartbeats 2000000 in
set_option maxRecDepth 100000 in
theorem back_walk (on off at_ : Int) (hon : 0 ≤ on ∧ on ≤ 255) (hoff : 0 ≤ off ∧ off ≤ 255) (hat : 0 ≤ at_ ∧ at_ ≤ 65535) (l : List Bool) (m : List UInt8) (v x : Value) (w : World) (hl : l.length ≤ 300) (_hm : m.length ≤ 9223372036854775807) (h : BoolsAt w l v) (hx : BytesAt w m x) :
    Calls Try.prog 5 #[.int .u8 on, .int .u8 off, .int .u16 at_, v, x] w fun e w' => e = .returned (.bool true) ∧ Below w.heap.size w w' := by
  have hv := h
  have hvx := hx
  obtain ⟨A, c, rfl, hc, -⟩ := hv
  obtain ⟨A2, c2, rfl, hc2, -⟩ := hvx
  have H := Lib.hid h
  have HX := Lib.hid hx
  clear h hx
  go_enter Try.func5, Try.ntmps5
  go_wp2_with fail
  refine (head_any _).mono ?_
  rintro e w1 ⟨rfl, hb1⟩
  have hs1 := hb1.size
  have HO0 := Lib.hid (show new (1 + on) off = ⟨false, 1 + on, off, false, 0, 0⟩ by
    have e1 : clamp (1 + on) 0 = 1 + on := by unfold clamp; omega
    have e2 : clamp off 0 = off := by unfold clamp; omega
    simp [new, e1, e2])
  go_wp2_with fail
  refine (New_is (1 + on) off _ HO0.out _).mono ?_
  rintro e w2 ⟨rfl, hA2, hb2⟩
  have hB2 := hb1.trans (hb2.mono hs1)
  have hlt2 := hA2.lt
  have hs2 := hB2.size
  go_wp2_with fail
  refine (New_is (1 + on) off _ HO0.out _).mono ?_
  rintro e w3 ⟨rfl, hA3, hb3⟩
  have HT0 := Lib.hid (show Two w w1.heap.size w2.heap.size _ _ w3 from ⟨(hb3.block _ hlt2).trans hA2, hA3, hB2.trans (hb3.mono hs2), hs1, hlt2⟩)
  clear hA2 hA3 hb1 hb2 hb3 hB2 HO0 hlt2 hs2
  go_wp2_with fail
  refine (See_is w1.heap.size ⟨false, 1 + on, off, false, 0, 0⟩ ⟨false, 1 + on, off, true, at_, at_⟩ true at_ (by rw [see_le (by omega) (by omega)]; have : ¬ 1 + on ≤ 0 := (by omega); simp [this]) _ HT0.out.1 (by exact ok_of (by omega) (by omega) (by omega) (by omega) (by simp))).mono ?_
  rintro e wq1 ⟨rfl, hA, hg⟩
  have HT1 := Lib.hid (HT0.out.sd hA hg)
  clear hA hg HT0
  go_wp2_with fail
  refine (See_is w1.heap.size ⟨false, 1 + on, off, true, at_, at_⟩ ⟨false, 1 + on, off, true, at_, at_ + on⟩ true (at_ + on) (by rw [see_le (by omega) (by omega)]; have : ¬ 1 + on ≤ at_ + on - at_ := (by omega); simp [this]) _ HT1.out.1 (by exact ok_of (by omega) (by omega) (by omega) (by omega) (by intro h; cases h))).mono ?_
  rintro e wq2 ⟨rfl, hA, hg⟩
  have HT2 := Lib.hid (HT1.out.sd hA hg)
  clear hA hg HT1
  go_wp2_with fail
  refine (See_is w1.heap.size ⟨false, 1 + on, off, true, at_, at_ + on⟩ ⟨false, 1 + on, off, false, 0, at_ + on⟩ false (at_ + on) (by rw [see_le (by omega) (by omega)]; simp) _ HT2.out.1 (by exact ok_of (by omega) (by omega) (by omega) (by omega) (by intro h; cases h))).mono ?_
  rintro e wq3 ⟨rfl, hA, hg⟩
  have HT3 := Lib.hid (HT2.out.sd hA hg)
  clear hA hg HT2
  go_wp2_with fail
  refine (See_is w2.heap.size ⟨false, 1 + on, off, false, 0, 0⟩ ⟨false, 1 + on, off, false, 0, at_ + on⟩ false (at_ + on) (by rw [see_le (by omega) (by omega)]; simp) _ HT3.out.2.1 (by exact ok_of (by omega) (by omega) (by omega) (by omega) (by simp))).mono ?_
  rintro e wq4 ⟨rfl, hA, hg⟩
  have HT4 := Lib.hid (HT3.out.sx hA hg)
  clear hA hg HT3
  have HOK := Lib.hid (show (D.mk false (1 + on) off false 0 (at_ + on)).ok from ok_of (by omega) (by omega) (by omega) (by omega) (by simp))
  go_wp2_with fail
  go_loopw [15, 16] (fun un ui wr => ∃ (k : Nat) (d : D) (now : Int), k ≤ l.length ∧ ui = .int .i64 k ∧ un = .int .i64 now ∧ 0 ≤ now ∧ now ≤ 65535 + 255 + 255 * k ∧ d.ok ∧ Two w w1.heap.size w2.heap.size d d wr) (fun _ ui _ => l.length - (intOf ui).toNat)
  case atStart => exact ⟨0, _, _, Nat.zero_le _, rfl, rfl, by omega, by omega, HOK.out, HT4.out⟩
  case round =>
    clear HT4 HOK
    obtain ⟨k, d, now, hk, rfl, rfl, hn0, hn, hd, hT⟩ := hrel
    have HT := Lib.hid hT
    have HD := Lib.hid hd
    clear hT hd
    by_cases hlt : k < l.length
    · by_cases hlt2 : k < m.length
      · obtain ⟨b, hxb⟩ : ∃ b, l[k]? = some b := ⟨_, List.getElem?_eq_getElem hlt⟩
        obtain ⟨st, hxs⟩ : ∃ st, m[k]? = some st := ⟨_, List.getElem?_eq_getElem hlt2⟩
        obtain ⟨b1, o1, c1, hv, hbl, hcell⟩ := H.out.at_ hxb
        obtain ⟨b2, o2, c2', hv2, hbl2, hcell2⟩ := HX.out.at_ hxs
        have E0 := Lib.hid (hcell 0 _ rfl)
        have E1 := Lib.hid (hcell2 0 _ rfl)
        simp only [Nat.add_zero, Nat.mul_one] at E0 E1
        injection hv with hAa e2 e3
        injection hv2 with hAb e4 e5
        subst hAa hAb
        clear e2 e3 e4 e5 hcell hcell2 hxb hxs
        have hst := u8_lt st
        have e0 := (HT.out.2.2.1.cell (p := ⟨b1, o1 + k, none⟩) hbl).trans E0.out
        have e1 := (HT.out.2.2.1.cell (p := ⟨b2, o2 + k, none⟩) hbl2).trans E1.out
        go_upto_region 16 with fail
        have HDW := Lib.hid (HT.out.drew)
        have HD6 := Lib.hid (see_ok HD.out b (now + (st.toNat : Int)))
        go_region_held3 (fun w' : World => w'.cell? ⟨b1, o1 + k, none⟩ = some (.bool b)) (first | exact e0 | exact e5 | exact e6) (first
          | (go_at_call_of 11 (Value.pointer (some ⟨w1.heap.size, 0, none⟩)); refine (See_any _ d b _ _ (by exact HDW.out.1) HD.out).mono ?_; rintro e w4 ⟨rfl, hA, hg⟩; have HT5 := Lib.hid (HDW.out.sd hA hg); have e5 := (HT5.out.2.2.1.cell (p := ⟨b1, o1 + k, none⟩) hbl).trans E0.out; clear hA hg)
          | (go_at_call_of 11 (Value.pointer (some ⟨w2.heap.size, 0, none⟩)); refine (See_any _ d b _ _ (by exact HT5.out.2.1) HD.out).mono ?_; rintro e w5 ⟨rfl, hA, hg⟩; have HT6 := Lib.hid (HT5.out.sx hA hg); have e6 := (HT6.out.2.2.1.cell (p := ⟨b1, o1 + k, none⟩) hbl).trans E0.out; clear hA hg))
        generalize d.see b (now + (st.toNat : Int)) = d2 at *
        go_wp2_with fail
        go_roundw
        case rel => exact ⟨k + 1, d2, now + (st.toNat : Int), by omega, by go_num, rfl, by omega, by omega, HD6.out, HT6.out⟩
        case measure => simp [intOf]; omega
      · go_wp2_with fail
        refine (Value_any _ _ _ HT.out.1).mono ?_
        rintro e w5 ⟨rfl, rfl⟩
        go_wp2_with fail
        refine (Value_any _ _ _ HT.out.2.1).mono ?_
        rintro e w5 ⟨rfl, rfl⟩
        go_wp2_with fail
        go_ret
        exact ⟨rfl, HT.out.2.2.1⟩
    · go_wp2_with fail
      refine (Value_any _ _ _ HT.out.1).mono ?_
      rintro e w5 ⟨rfl, rfl⟩
      go_wp2_with fail
      refine (Value_any _ _ _ HT.out.2.1).mono ?_
      rintro e w5 ⟨rfl, rfl⟩
      go_wp2_with fail
      go_ret
      exact ⟨rfl, HT.out.2.2.1⟩
theorem back_big (on off at_ : Int) (hon : 0 ≤ on ∧ on ≤ 255) (hoff : 0 ≤ off ∧ off ≤ 255) (A : Option Addr) (k c : Nat) (x : Value) (w : World) (hl : 300 < k) :
    Calls Try.prog 5 #[.int .u8 on, .int .u8 off, .int .u16 at_, .slice A k c, x] w fun e w' => e = .returned (.bool true) ∧ Below w.heap.size w w' := by
  go_enter Try.func5, Try.ntmps5
  go_wp2_with fail
  refine (head_any _).mono ?_
  rintro e w1 ⟨rfl, hb1⟩
  go_wp2_with fail
  refine (New_any (1 + on) off _).mono ?_
  rintro e w2 ⟨rfl, hA2, hb2⟩
  have hB2 := hb1.trans (hb2.mono hb1.size)
  go_wp2_with fail
  refine (New_any (1 + on) off _).mono ?_
  rintro e w3 ⟨rfl, hA3, hb3⟩
  have hB3 := hB2.trans (hb3.mono hB2.size)
  go_wp2_with fail
  go_ret
  exact ⟨rfl, hB3⟩
set_option maxRecDepth 100000 in
theorem back_lifted (os : Os) (started : os.Started) (H : Type) (enc : TypeId × Value → H) :
    ReturnsInHanded {} Try.checked os 5 .any (Rows.delayBackSpec.pre6 enc Try.prog Try.f5 Rows.delayBackRow.domain false) (Rows.delayBackSpec.post enc Try.prog Try.f5 false true false false) := by
  refine LawFrame.handed (C := Try.checked) (tb := 4) (by kernel_rfl) (by kernel_rfl) (by kernel_rfl) Try.underlying4 rfl (fun ds hd => ?_) own started (by kernel_rfl) Try.func5
    (ChangeSpec.witness6 (enc := enc) (C := Try.checked) false ⟨#[], #[.int .u8 0, .int .u8 0, .int .u16 0, .slice none 0 0, .slice none 0 0], []⟩ 8 (by kernel_rfl) (by kernel_rfl) (by kernel_rfl) (by kernel_rfl)) ?_
  · rw [Try.params5] at hd
    match ds, hd with
    | [d1, d2, d3, d4, d5], _ => rfl
  · intro W args ds before base hval hA hlt hsz
    rw [Try.params5] at hval hA
    obtain ⟨v0, vs0, d0, ds0, p0, q0, hargs, rfl, rfl, h0, r0⟩ := trodAll_cons hA
    obtain ⟨v1, vs1, d1, ds1, p1, q1, rfl, rfl, rfl, h1, r1⟩ := trodAll_cons r0
    obtain ⟨v2, vs2, d2, ds2, p2, q2, rfl, rfl, rfl, h2, r2⟩ := trodAll_cons r1
    obtain ⟨v3, vs3, d3, ds3, p3, q3, rfl, rfl, rfl, h3, r3⟩ := trodAll_cons r2
    obtain ⟨v4, vs4, d4, ds4, p4, q4, rfl, rfl, rfl, h4, r4⟩ := trodAll_cons r3
    obtain ⟨rfl, rfl, rfl⟩ := trodAll_nil r4
    obtain rfl : args = #[v0, v1, v2, v3, v4] := by cases args; simp_all
    obtain ⟨on, rfl, rfl, rfl, w0⟩ := open_int Try.underlying5 (hval 0 5 v0 rfl rfl) h0
    obtain ⟨off, rfl, rfl, rfl, w1⟩ := open_int Try.underlying5 (hval 1 5 v1 rfl rfl) h1
    obtain ⟨at_, rfl, rfl, rfl, w2⟩ := open_int Try.underlying37 (hval 2 37 v2 rfl rfl) h2
    obtain ⟨l, hl, _⟩ := LawFrame.open_bools Try.underlying34 Try.underlying4 (by kernel_rfl) (hval 3 34 v3 rfl rfl) h3
    obtain ⟨m, hm, hml⟩ := LawFrame.open_bytes Try.underlying35 Try.underlying5 (by kernel_rfl) (hval 4 35 v4 rfl rfl) h4
    unfold maxLen at hml
    rcases Nat.lt_or_ge 300 l.length with h5 | h5
    · obtain ⟨A, c, rfl, hc, -⟩ := hl
      exact back_big on off at_ (bounds_u8 w0) (bounds_u8 w1) A _ c _ W h5
    · exact back_walk on off at_ (bounds_u8 w0) (bounds_u8 w1) (bounds_u16 w2) l m v3 v4 W h5 hml hl hm
theorem back_holds : Rows.DelayBackSaid :=
  OpenClaim.holds_of_wide 5 Try.f5 rfl rfl rfl rfl rfl rfl rfl ⟨rfl, rfl, rfl, rfl, rfl⟩ rfl rfl rfl rfl rfl (by kernel_rfl) Try.func5 (by kernel_rfl)
    (of_decide_eq_true (by kernel_rfl)) (by unfold Func.isWrapper; first | (rw [if_pos (by decide +kernel)]; kernel_rfl) | (rw [if_neg (by decide +kernel)]; exact ⟨rfl, rfl⟩))
    (fun os started H enc _ => back_lifted os started H enc)
#print axioms back_holds
end Go.Proofs.Ytgnpoiojiocmgaa
