/-
  THE WALK of the laws' own head: a live question.
-/
import Derived.Test.YtgnpoiojiocmgaaDelayRef
namespace Go.Proofs.Ytgnpoiojiocmgaa
open Go.RowKit Delay

theorem See_is (g : Nat) (d d' : D) (v : Bool) (now : Int) (he : d.see v now = d') (w : World) (h : DAt w g d) (hd : d.ok) :
    Calls Try.prog 11 #[.pointer (some ⟨g, 0, none⟩), .bool v, .int .i64 now] w fun e w' => e = .returned (.bool d'.v) ∧ DAt w' g d' ∧ w.grownBy w' (some g) := by
  subst he; exact See_any g d v now w h hd
theorem New_is (on off : Int) (d : D) (he : new on off = d) (w : World) : Calls Try.prog 9 #[.int .i64 on, .int .i64 off] w fun e w' => e = .returned (.pointer (some ⟨w.heap.size, 0, none⟩)) ∧ DAt w' w.heap.size d ∧ Below w.heap.size w w' := by
  subst he; exact New_any on off w
theorem below_grown {B g : Nat} {a w w' : World} (h : Below B a w) (hg : w.grownBy w' (some g)) (hB : B ≤ w.heap.size) (hr : B ≤ g) : Below B a w' := h.grown hg hB (fun k hk => by injection hk with hk; omega)
theorem below_none {B : Nat} {a w w' : World} (h : Below B a w) (hg : w.grownBy w' none) (hB : B ≤ w.heap.size) : Below B a w' := h.grown hg hB (fun k hk => by cases hk)
theorem head_any (w : World) : Calls Try.prog 8 #[] w fun e w' => e = .returned (.bool true) ∧ Below w.heap.size w w' := by
  have o0 : (D.mk false 3 1 false 0 0).ok := new_ok 3 1
  have HO0 := Lib.hid o0
  clear o0
  go_enter Try.func8, Try.ntmps8
  go_wp2_with fail
  refine (New_is 3 1 ⟨false, 3, 1, false, 0, 0⟩ rfl _).mono ?_
  rintro e w1 ⟨rfl, hA1, hb1⟩
  have HA1 := Lib.hid hA1
  have hs1 := hb1.size
  clear hA1
  go_wp2_with fail
  refine (See_is w.heap.size ⟨false, 3, 1, false, 0, 0⟩ ⟨false, 3, 1, true, 5, 5⟩ true 5 rfl _ HA1.out HO0.out).mono ?_
  rintro e w2 ⟨rfl, hA2, hg2⟩
  have HA2 := Lib.hid hA2
  have hb2 := below_grown hb1 hg2 hs1 (Nat.le_refl _)
  have hs2 := hb2.size
  have HO1 := Lib.hid (see_ok HO0.out true 5)
  clear hA2 hg2 hb1 hs1 HA1 HO0
  go_wp2_with fail
  refine (Since_any w.heap.size ⟨false, 3, 1, true, 5, 5⟩ _ HA2.out).mono ?_
  rintro e w3 ⟨rfl, hg3⟩
  have HA3 := Lib.hid (HA2.out.keep hg3 (by simp))
  have hb3 := below_none hb2 hg3 hs2
  have hs3 := hb3.size
  clear hg3 hb2 hs2 HA2
  go_wp2_with fail
  refine (See_is w.heap.size ⟨false, 3, 1, true, 5, 5⟩ ⟨false, 3, 1, true, 5, 7⟩ true 7 rfl _ HA3.out HO1.out).mono ?_
  rintro e w4 ⟨rfl, hA4, hg4⟩
  have HA4 := Lib.hid hA4
  have hb4 := below_grown hb3 hg4 hs3 (Nat.le_refl _)
  have hs4 := hb4.size
  have HO2 := Lib.hid (see_ok HO1.out true 7)
  clear hA4 hg4 hb3 hs3 HA3 HO1
  go_wp2_with fail
  refine (See_is w.heap.size ⟨false, 3, 1, true, 5, 7⟩ ⟨true, 3, 1, false, 0, 8⟩ true 8 rfl _ HA4.out HO2.out).mono ?_
  rintro e w5 ⟨rfl, hA5, hg5⟩
  have HA5 := Lib.hid hA5
  have hb5 := below_grown hb4 hg5 hs4 (Nat.le_refl _)
  have hs5 := hb5.size
  have HO3 := Lib.hid (see_ok HO2.out true 8)
  clear hA5 hg5 hb4 hs4 HA4 HO2
  go_wp2_with fail
  refine (Since_any w.heap.size ⟨true, 3, 1, false, 0, 8⟩ _ HA5.out).mono ?_
  rintro e w6 ⟨rfl, hg6⟩
  have HA6 := Lib.hid (HA5.out.keep hg6 (by simp))
  have hb6 := below_none hb5 hg6 hs5
  have hs6 := hb6.size
  clear hg6 hb5 hs5 HA5
  go_wp2_with fail
  refine (See_is w.heap.size ⟨true, 3, 1, false, 0, 8⟩ ⟨true, 3, 1, true, 8, 8⟩ false 8 rfl _ HA6.out HO3.out).mono ?_
  rintro e w7 ⟨rfl, hA7, hg7⟩
  have HA7 := Lib.hid hA7
  have hb7 := below_grown hb6 hg7 hs6 (Nat.le_refl _)
  have hs7 := hb7.size
  have HO4 := Lib.hid (see_ok HO3.out false 8)
  clear hA7 hg7 hb6 hs6 HA6 HO3
  go_wp2_with fail
  refine (See_is w.heap.size ⟨true, 3, 1, true, 8, 8⟩ ⟨true, 3, 1, false, 0, 9⟩ true 9 rfl _ HA7.out HO4.out).mono ?_
  rintro e w8 ⟨rfl, hA8, hg8⟩
  have HA8 := Lib.hid hA8
  have hb8 := below_grown hb7 hg8 hs7 (Nat.le_refl _)
  have hs8 := hb8.size
  have HO5 := Lib.hid (see_ok HO4.out true 9)
  clear hA8 hg8 hb7 hs7 HA7 HO4
  go_wp2_with fail
  refine (See_is w.heap.size ⟨true, 3, 1, false, 0, 9⟩ ⟨true, 3, 1, true, 9, 9⟩ false 9 rfl _ HA8.out HO5.out).mono ?_
  rintro e w9 ⟨rfl, hA9, hg9⟩
  have HA9 := Lib.hid hA9
  have hb9 := below_grown hb8 hg9 hs8 (Nat.le_refl _)
  have hs9 := hb9.size
  have HO6 := Lib.hid (see_ok HO5.out false 9)
  clear hA9 hg9 hb8 hs8 HA8 HO5
  go_wp2_with fail
  refine (See_is w.heap.size ⟨true, 3, 1, true, 9, 9⟩ ⟨false, 3, 1, false, 0, 10⟩ false 10 rfl _ HA9.out HO6.out).mono ?_
  rintro e w10 ⟨rfl, hA10, hg10⟩
  have HA10 := Lib.hid hA10
  have hb10 := below_grown hb9 hg10 hs9 (Nat.le_refl _)
  have hs10 := hb10.size
  have HO7 := Lib.hid (see_ok HO6.out false 10)
  clear hA10 hg10 hb9 hs9 HA9 HO6
  go_wp2_with fail
  refine (New_is 0 0 ⟨false, 0, 0, false, 0, 0⟩ rfl _).mono ?_
  rintro e wx ⟨rfl, hX, hbx⟩
  have hlt : w.heap.size < w10.heap.size := HA10.out.lt
  have HA0 := Lib.hid (show DAt wx w.heap.size ⟨false, 3, 1, false, 0, 10⟩ from (hbx.block _ hlt).trans HA10.out)
  have hby := hb10.trans (hbx.mono hs10)
  have hsy := hby.size
  have hsx := hbx.size
  clear hb10 hs10
  go_wp2_with fail
  refine (See_is w10.heap.size ⟨false, 0, 0, false, 0, 0⟩ ⟨true, 0, 0, false, 0, 0⟩ true 0 rfl _ hX (new_ok 0 0)).mono ?_
  rintro e wz ⟨rfl, -, hgz⟩
  have HAz := Lib.hid (HA0.out.keep hgz (by simp; omega))
  have hbz := below_grown hby hgz hsy (by omega)
  clear hX hgz hby
  go_wp2_with fail
  refine (Value_any w.heap.size _ _ HAz.out).mono ?_
  rintro e wv ⟨rfl, rfl⟩
  go_wp2_with fail
  go_ret
  exact ⟨rfl, hbz⟩
end Go.Proofs.Ytgnpoiojiocmgaa
