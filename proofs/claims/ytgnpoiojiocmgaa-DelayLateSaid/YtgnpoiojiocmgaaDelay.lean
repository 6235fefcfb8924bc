/-
  THE WALKS of package delay: what a See, Since, Value, New come to.
-/
import Derived.Test.YtgnpoiojiocmgaaRows
import Derived.Test.YtgnpoiojiocmgaaDelayPlain
import Derived.Handy
import Derived.WalkLawsBesides
import Derived.WalkSpells
import Derived.Lib.Hide
import Derived.Deep.QuietTactic
import Derived.BigQuiet
import Derived.Deep.DeepCutAuto
namespace Go.Proofs.Ytgnpoiojiocmgaa
open Go.RowKit Delay

/-- a delay lies in a block of its own -/
def DAt (w : World) (g : Nat) (d : D) : Prop := w.heap[g]? = some (.cells d.cells 44 (0, 0))
theorem DAt.lt {w : World} {g : Nat} {d : D} (h : DAt w g d) : g < w.heap.size := (Array.getElem?_eq_some_iff.1 h).1
theorem DAt.cell {w : World} {g : Nat} {d : D} (h : DAt w g d) (j : Nat) : w.cell? ⟨g, j, none⟩ = d.cells[j]? := cell_of_row _ _ _ _ _ _ h
theorem DAt.frozen {w : World} {g : Nat} {d : D} (h : DAt w g d) (j : Nat) : w.frozen? ⟨g, j, none⟩ = false := frozen_of_row _ _ _ _ _ h
theorem DAt.keep {w w' : World} {g : Nat} {d : D} (h : DAt w g d) {r : Option Nat} (hg : w.grownBy w' r) (hr : some g ≠ r) : DAt w' g d := (hg.block g h.lt hr).trans h
theorem DAt.set {w : World} {g : Nat} {d d' : D} (h : DAt w g d) (j : Nat) (u : Value) (e : d.cells.setIfInBounds j u = d'.cells) : DAt (w.setCell ⟨g, j, none⟩ u) g d' := by
  unfold DAt
  rw [heap_setCell_same _ _ _ _ _ _ h, e]
def BAt (w : World) (g : Nat) (cs : Array Value) : Prop := w.heap[g]? = some (.cells cs 44 (0, 0))
theorem BAt.set {w : World} {g : Nat} {cs : Array Value} (h : BAt w g cs) (j : Nat) (u : Value) : BAt (w.setCell ⟨g, j, none⟩ u) g (cs.setIfInBounds j u) := heap_setCell_same _ _ _ _ _ _ h
theorem BAt.drewN {w : World} {g : Nat} {cs : Array Value} (h : BAt w g cs) (n : Nat) : BAt (w.drewN n) g cs := h
theorem BAt.conv {w : World} {g : Nat} {cs : Array Value} {d : D} (h : BAt w g cs) (e : cs = d.cells) : DAt w g d := by unfold DAt; rw [← e]; exact h
theorem grown_drewN {w w' : World} {r : Option Nat} (h : w.grownBy w' r) (n : Nat) : w.grownBy (w'.drewN n) r := ⟨h.os, h.tape, h.output, h.size, h.block⟩
theorem ret_bool {a b : Bool} (h : a = b) : Ending.returned (.bool a) = .returned (.bool b) := by rw [h]
theorem grown_set {w w' : World} {g j : Nat} {u : Value} (h : w.grownBy w' (some g)) : w.grownBy (w'.setCell ⟨g, j, none⟩ u) (some g) :=
  ⟨h.os, h.tape, h.output, by simpa [World.setCell] using h.size, fun k hk hne => (heap_setCell_other w' ⟨g, j, none⟩ k u (fun e => hne (by simp [e]))).trans (h.block k hk hne)⟩

theorem place_any (v : Bool) (w : World) : Calls Try.prog 17 #[.bool v] w fun e w' => e = .returned (.int .i64 (if v then 1 else 0)) ∧ w' = w := by
  go_enter Try.func17, Try.ntmps17
  cases v <;> go_wp2 <;> go_ret <;> exact ⟨rfl, rfl⟩
theorem Value_any (g : Nat) (d : D) (w : World) (h : DAt w g d) : Calls Try.prog 15 #[.pointer (some ⟨g, 0, none⟩)] w fun e w' => e = .returned (.bool d.v) ∧ w = w' := by
  have c0 := h.cell 0
  simp only [D.cells] at c0
  go_enter Try.func15, Try.ntmps15
  go_wp2
  go_ret
  exact ⟨rfl, rfl⟩
theorem Since_any (g : Nat) (d : D) (w : World) (h : DAt w g d) : Calls Try.prog 13 #[.pointer (some ⟨g, 0, none⟩)] w fun e w' => e = .returned (.tuple #[.int .i64 d.since, .bool d.seen]) ∧ w.grownBy w' none := by
  have c3 := h.cell 3
  have c4 := h.cell 4
  simp only [D.cells] at c3 c4
  go_enter Try.func13, Try.ntmps13
  go_wp2
  go_quiet (fail)
  go_wp2
  go_ret2
  exact ⟨rfl, ⟨rfl, rfl, rfl, Nat.le_refl _, fun _ _ _ => rfl⟩⟩
theorem clamp_if (now last : Int) : clamp now last = if (if now < last then last else now) < 1099511627776 then (if now < last then last else now) else 1099511627776 := by
  unfold clamp; split <;> split <;> omega
theorem int_val {k : IntKind} {a b : Int} (h : a = b) : Value.int k a = Value.int k b := by rw [h]

set_option maxHeartbeats 2000000 in
theorem See_any (g : Nat) (d : D) (v : Bool) (now : Int) (w : World) (h : DAt w g d) (hd : d.ok) :
    Calls Try.prog 11 #[.pointer (some ⟨g, 0, none⟩), .bool v, .int .i64 now] w fun e w' => e = .returned (.bool (d.see v now).v) ∧ DAt w' g (d.see v now) ∧ w.grownBy w' (some g) := by
  have c0 := h.cell 0
  have c1 := h.cell 1
  have c2 := h.cell 2
  have c3 := h.cell 3
  have c4 := h.cell 4
  have c5 := h.cell 5
  simp only [D.cells] at c0 c1 c2 c3 c4 c5
  have f0 := h.frozen 0
  have f2 := h.frozen 3
  have f3 := h.frozen 4
  have f4 := h.frozen 5
  have HC := Lib.hid (clamp_if now d.last)
  have HD := Lib.hid hd
  have HA := Lib.hid h
  clear h hd
  go_enter Try.func11, Try.ntmps11
  go_upto_region 1 with fail
  go_cut [2] (fun s2 wx => s2 = .int .i64 (clamp now d.last) ∧ wx = w)
  case first =>
    go_wp2_with fail
    all_goals
      go_meet
      exact ⟨int_val (by have := HC.out; split at this <;> split at this <;> omega), rfl⟩
  case rest =>
    obtain ⟨rfl, rfl⟩ := hcut
    clear HC
    have ht := clamp_ok (now := now) HD.out.2.2.1.1 HD.out.2.2.1.2
    obtain ⟨dv, on, off, seen, since, last⟩ := d
    obtain ⟨b1, b2, b3, b4, b5⟩ := HD.out
    simp only at b1 b2 b3 b4 b5 ht c0 c1 c2 c3 c4 c5
    have HT := Lib.hid (rfl : clamp now last = clamp now last)
    revert HT ht
    generalize hct : clamp now last = t
    intro ht HT
    have HCT := Lib.hid hct
    have hb0 : BAt wc g #[.bool dv, .int .i64 off, .int .i64 on, .bool seen, .int .i64 since, .int .i64 last] := HA.out
    have HB := Lib.hid hb0
    clear hct HT b5 HA HD hb0
    cases v <;> cases dv
    · have HS := Lib.hid (show (D.mk false on off seen since last).see false now = ⟨false, on, off, false, 0, t⟩ by simp [D.see, HCT.out])
      go_wp2_with fail
      go_ret
      exact ⟨ret_bool (by rw [HS.out]), BAt.conv (by repeat (first | (with_reducible exact HB.out) | (with_reducible apply BAt.set) | (with_reducible apply BAt.drewN))) (by rw [HS.out]; rfl), by repeat (first | (with_reducible exact World.grownBy.refl _ _) | (with_reducible apply grown_set) | (with_reducible apply grown_drewN))⟩
    · cases seen
      · by_cases hn : off ≤ 0
        · have HS := Lib.hid (show (D.mk true on off false since last).see false now = ⟨false, on, off, false, 0, t⟩ by simp [D.see, D.need, D.from_, hn, HCT.out])
          go_wp2_with fail
          go_quiet ((go_at_call 17; exact Calls.quiet_of_same (place_any _ _)))
          go_wp2
          go_ret
          exact ⟨ret_bool (by rw [HS.out]), BAt.conv (by repeat (first | (with_reducible exact HB.out) | (with_reducible apply BAt.set) | (with_reducible apply BAt.drewN))) (by rw [HS.out]; rfl), by repeat (first | (with_reducible exact World.grownBy.refl _ _) | (with_reducible apply grown_set) | (with_reducible apply grown_drewN))⟩
        · have HS := Lib.hid (show (D.mk true on off false since last).see false now = ⟨true, on, off, true, t, t⟩ by simp [D.see, D.need, D.from_, hn, HCT.out])
          go_wp2_with fail
          go_quiet ((go_at_call 17; exact Calls.quiet_of_same (place_any _ _)))
          go_wp2
          go_ret
          exact ⟨ret_bool (by rw [HS.out]), BAt.conv (by repeat (first | (with_reducible exact HB.out) | (with_reducible apply BAt.set) | (with_reducible apply BAt.drewN))) (by rw [HS.out]; rfl), by repeat (first | (with_reducible exact World.grownBy.refl _ _) | (with_reducible apply grown_set) | (with_reducible apply grown_drewN))⟩
      · by_cases hn : off ≤ t - since
        · have HS := Lib.hid (show (D.mk true on off true since last).see false now = ⟨false, on, off, false, 0, t⟩ by simp [D.see, D.need, D.from_, hn, HCT.out])
          go_wp2_with fail
          go_quiet ((go_at_call 17; exact Calls.quiet_of_same (place_any _ _)))
          go_wp2
          go_ret
          exact ⟨ret_bool (by rw [HS.out]), BAt.conv (by repeat (first | (with_reducible exact HB.out) | (with_reducible apply BAt.set) | (with_reducible apply BAt.drewN))) (by rw [HS.out]; rfl), by repeat (first | (with_reducible exact World.grownBy.refl _ _) | (with_reducible apply grown_set) | (with_reducible apply grown_drewN))⟩
        · have HS := Lib.hid (show (D.mk true on off true since last).see false now = ⟨true, on, off, true, since, t⟩ by simp [D.see, D.need, D.from_, hn, HCT.out])
          go_wp2_with fail
          go_quiet ((go_at_call 17; exact Calls.quiet_of_same (place_any _ _)))
          go_wp2
          go_ret
          exact ⟨ret_bool (by rw [HS.out]), BAt.conv (by repeat (first | (with_reducible exact HB.out) | (with_reducible apply BAt.set) | (with_reducible apply BAt.drewN))) (by rw [HS.out]; rfl), by repeat (first | (with_reducible exact World.grownBy.refl _ _) | (with_reducible apply grown_set) | (with_reducible apply grown_drewN))⟩
    · cases seen
      · by_cases hn : on ≤ 0
        · have HS := Lib.hid (show (D.mk false on off false since last).see true now = ⟨true, on, off, false, 0, t⟩ by simp [D.see, D.need, D.from_, hn, HCT.out])
          go_wp2_with fail
          go_quiet ((go_at_call 17; exact Calls.quiet_of_same (place_any _ _)))
          go_wp2
          go_ret
          exact ⟨ret_bool (by rw [HS.out]), BAt.conv (by repeat (first | (with_reducible exact HB.out) | (with_reducible apply BAt.set) | (with_reducible apply BAt.drewN))) (by rw [HS.out]; rfl), by repeat (first | (with_reducible exact World.grownBy.refl _ _) | (with_reducible apply grown_set) | (with_reducible apply grown_drewN))⟩
        · have HS := Lib.hid (show (D.mk false on off false since last).see true now = ⟨false, on, off, true, t, t⟩ by simp [D.see, D.need, D.from_, hn, HCT.out])
          go_wp2_with fail
          go_quiet ((go_at_call 17; exact Calls.quiet_of_same (place_any _ _)))
          go_wp2
          go_ret
          exact ⟨ret_bool (by rw [HS.out]), BAt.conv (by repeat (first | (with_reducible exact HB.out) | (with_reducible apply BAt.set) | (with_reducible apply BAt.drewN))) (by rw [HS.out]; rfl), by repeat (first | (with_reducible exact World.grownBy.refl _ _) | (with_reducible apply grown_set) | (with_reducible apply grown_drewN))⟩
      · by_cases hn : on ≤ t - since
        · have HS := Lib.hid (show (D.mk false on off true since last).see true now = ⟨true, on, off, false, 0, t⟩ by simp [D.see, D.need, D.from_, hn, HCT.out])
          go_wp2_with fail
          go_quiet ((go_at_call 17; exact Calls.quiet_of_same (place_any _ _)))
          go_wp2
          go_ret
          exact ⟨ret_bool (by rw [HS.out]), BAt.conv (by repeat (first | (with_reducible exact HB.out) | (with_reducible apply BAt.set) | (with_reducible apply BAt.drewN))) (by rw [HS.out]; rfl), by repeat (first | (with_reducible exact World.grownBy.refl _ _) | (with_reducible apply grown_set) | (with_reducible apply grown_drewN))⟩
        · have HS := Lib.hid (show (D.mk false on off true since last).see true now = ⟨false, on, off, true, since, t⟩ by simp [D.see, D.need, D.from_, hn, HCT.out])
          go_wp2_with fail
          go_quiet ((go_at_call 17; exact Calls.quiet_of_same (place_any _ _)))
          go_wp2
          go_ret
          exact ⟨ret_bool (by rw [HS.out]), BAt.conv (by repeat (first | (with_reducible exact HB.out) | (with_reducible apply BAt.set) | (with_reducible apply BAt.drewN))) (by rw [HS.out]; rfl), by repeat (first | (with_reducible exact World.grownBy.refl _ _) | (with_reducible apply grown_set) | (with_reducible apply grown_drewN))⟩
    · have HS := Lib.hid (show (D.mk true on off seen since last).see true now = ⟨true, on, off, false, 0, t⟩ by simp [D.see, HCT.out])
      go_wp2_with fail
      go_ret
      exact ⟨ret_bool (by rw [HS.out]), BAt.conv (by repeat (first | (with_reducible exact HB.out) | (with_reducible apply BAt.set) | (with_reducible apply BAt.drewN))) (by rw [HS.out]; rfl), by repeat (first | (with_reducible exact World.grownBy.refl _ _) | (with_reducible apply grown_set) | (with_reducible apply grown_drewN))⟩
end Go.Proofs.Ytgnpoiojiocmgaa
