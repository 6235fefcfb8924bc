/-
  THE WALKS of the reference watchkeeperref12.
-/
import Derived.Test.YtgnpoiojiocmgaaDelayNew
namespace Go.Proofs.Ytgnpoiojiocmgaa
open Go.RowKit Delay

/-- the reference's delay: since when it has seen the other value is told where it has -/
def RAt (w : World) (g : Nat) (d : D) : Prop := ∃ f : Int, w.heap[g]? = some (.cells #[.int .i64 d.on, .int .i64 d.off, .bool d.v, .bool d.seen, .int .i64 f, .int .i64 d.last] 48 (0, 0)) ∧ (d.seen = true → f = d.since)
theorem RAt.lt {w : World} {g : Nat} {d : D} (h : RAt w g d) : g < w.heap.size := by
  obtain ⟨f, h, _⟩ := h
  exact (Array.getElem?_eq_some_iff.1 h).1
theorem RAt.keep {w w' : World} {g : Nat} {d : D} (h : RAt w g d) {r : Option Nat} (hg : w.grownBy w' r) (hr : some g ≠ r) : RAt w' g d := by
  have hl := h.lt
  obtain ⟨f, h, hs⟩ := h
  exact ⟨f, (hg.block g hl hr).trans h, hs⟩
def CAt (w : World) (g : Nat) (cs : Array Value) : Prop := w.heap[g]? = some (.cells cs 48 (0, 0))
theorem CAt.set {w : World} {g : Nat} {cs : Array Value} (h : CAt w g cs) (j : Nat) (u : Value) : CAt (w.setCell ⟨g, j, none⟩ u) g (cs.setIfInBounds j u) := heap_setCell_same _ _ _ _ _ _ h
theorem CAt.of {w : World} {g : Nat} {cs : Array Value} {d : D} (h : CAt w g cs) (f : Int) (e : cs = #[.int .i64 d.on, .int .i64 d.off, .bool d.v, .bool d.seen, .int .i64 f, .int .i64 d.last]) (hs : d.seen = true → f = d.since) : RAt w g d := ⟨f, by rw [← e]; exact h, hs⟩

theorem ret_int {k : IntKind} {a b : Int} (h : a = b) : Ending.returned (.int k a) = .returned (.int k b) := by rw [h]
theorem clamp_any (n least : Int) (w : World) : Calls Try.prog 18 #[.int .i64 n, .int .i64 least] w fun e w' => e = .returned (.int .i64 (clamp n least)) ∧ w = w' := by
  have HC := Lib.hid (clamp_if n least)
  generalize clamp n least = r at *
  go_enter Try.func18, Try.ntmps18
  go_wp2
  all_goals go_ret
  all_goals exact ⟨ret_int (by have := HC.out; split at this <;> split at this <;> omega), rfl⟩
theorem RValue_any (g : Nat) (d : D) (w : World) (h : RAt w g d) : Calls Try.prog 16 #[.pointer (some ⟨g, 0, none⟩)] w fun e w' => e = .returned (.bool d.v) ∧ w = w' := by
  obtain ⟨f, h, _⟩ := h
  have c0 : w.cell? ⟨g, 2, none⟩ = some (.bool d.v) := cell_of_row _ _ _ _ _ _ h
  go_enter Try.func16, Try.ntmps16
  go_wp2
  go_ret
  exact ⟨rfl, rfl⟩
theorem RSince_any (g : Nat) (d : D) (w : World) (h : RAt w g d) (hz : d.seen = false → d.since = 0) : Calls Try.prog 14 #[.pointer (some ⟨g, 0, none⟩)] w fun e w' => e = .returned (.tuple #[.int .i64 d.since, .bool d.seen]) ∧ w = w' := by
  obtain ⟨f, h, hs⟩ := h
  have c3 : w.cell? ⟨g, 3, none⟩ = some (.bool d.seen) := cell_of_row _ _ _ _ _ _ h
  have c4 : w.cell? ⟨g, 4, none⟩ = some (.int .i64 f) := cell_of_row _ _ _ _ _ _ h
  obtain ⟨dv, on, off, seen, since, last⟩ := d
  cases seen
  · obtain rfl := hz rfl
    clear hs hz h
    go_enter Try.func14, Try.ntmps14
    go_wp2
    go_ret2
    exact ⟨rfl, rfl⟩
  · obtain rfl := hs rfl
    clear hs hz h
    go_enter Try.func14, Try.ntmps14
    go_wp2
    go_ret2
    exact ⟨rfl, rfl⟩
theorem RNew_any (on off : Int) (w : World) : Calls Try.prog 10 #[.int .i64 on, .int .i64 off] w fun e w' => e = .returned (.pointer (some ⟨w.heap.size, 0, none⟩)) ∧ RAt w' w.heap.size (new on off) ∧ Below w.heap.size w w' := by
  go_enter Try.func10, Try.ntmps10
  go_wp2_with (go_at_call 18; refine (clamp_any _ _ _).mono ?_; rintro e w1 ⟨rfl, rfl⟩)
  go_ret
  refine ⟨rfl, ⟨0, heap_alloc_new w _, fun _ => rfl⟩, by go_grown⟩
set_option maxHeartbeats 2000000 in
theorem RSee_any (g : Nat) (d : D) (v : Bool) (now : Int) (w : World) (h : RAt w g d) (hd : d.ok) :
    Calls Try.prog 12 #[.pointer (some ⟨g, 0, none⟩), .bool v, .int .i64 now] w fun e w' => e = .returned (.bool (d.see v now).v) ∧ RAt w' g (d.see v now) ∧ w.grownBy w' (some g) := by
  obtain ⟨f, h, hs⟩ := h
  have ht := clamp_ok (now := now) hd.2.2.1.1 hd.2.2.1.2
  obtain ⟨dv, on, off, seen, since, last⟩ := d
  obtain ⟨b1, b2, b3, b4, b5⟩ := hd
  have c0 : w.cell? ⟨g, 0, none⟩ = some (.int .i64 on) := cell_of_row _ _ _ _ _ _ h
  have c1 : w.cell? ⟨g, 1, none⟩ = some (.int .i64 off) := cell_of_row _ _ _ _ _ _ h
  have c2 : w.cell? ⟨g, 2, none⟩ = some (.bool dv) := cell_of_row _ _ _ _ _ _ h
  have c3 : w.cell? ⟨g, 3, none⟩ = some (.bool seen) := cell_of_row _ _ _ _ _ _ h
  have c4 : w.cell? ⟨g, 4, none⟩ = some (.int .i64 f) := cell_of_row _ _ _ _ _ _ h
  have c5 : w.cell? ⟨g, 5, none⟩ = some (.int .i64 last) := cell_of_row _ _ _ _ _ _ h
  have f2 : w.frozen? ⟨g, 2, none⟩ = false := frozen_of_row _ _ _ _ _ h
  have f3 : w.frozen? ⟨g, 3, none⟩ = false := frozen_of_row _ _ _ _ _ h
  have f4 : w.frozen? ⟨g, 4, none⟩ = false := frozen_of_row _ _ _ _ _ h
  have f5 : w.frozen? ⟨g, 5, none⟩ = false := frozen_of_row _ _ _ _ _ h
  have hb : CAt w g #[.int .i64 on, .int .i64 off, .bool dv, .bool seen, .int .i64 f, .int .i64 last] := h
  have HB := Lib.hid hb
  simp only at b1 b2 b3 b4 b5 ht hs
  have HK := Lib.hid (fun w => clamp_any now last w)
  have HT := Lib.hid (rfl : clamp now last = clamp now last)
  revert HK HT ht
  generalize hct : clamp now last = t
  intro ht HK HT
  have HCT := Lib.hid hct
  clear hct HT b5 hb h
  go_enter Try.func12, Try.ntmps12
  cases v <;> cases dv
  · have HS := Lib.hid (show (D.mk false on off seen since last).see false now = ⟨false, on, off, false, 0, t⟩ by simp [D.see, HCT.out])
    clear hs
    go_wp2_with (go_at_call 18; refine (HK.out _).mono ?_; rintro e w1 ⟨rfl, rfl⟩)
    go_ret
    exact ⟨ret_bool (by rw [HS.out]), CAt.of (by repeat (first | (with_reducible exact HB.out) | (with_reducible apply CAt.set))) f (by rw [HS.out]; rfl) (by rw [HS.out]; intro h; cases h), by repeat (first | (with_reducible exact World.grownBy.refl _ _) | (with_reducible apply grown_set))⟩
  · cases seen
    · clear hs
      by_cases hn : off ≤ 0
      · have HS := Lib.hid (show (D.mk true on off false since last).see false now = ⟨false, on, off, false, 0, t⟩ by simp [D.see, D.need, D.from_, hn, HCT.out])
        go_wp2_with (go_at_call 18; refine (HK.out _).mono ?_; rintro e w1 ⟨rfl, rfl⟩)
        go_ret
        exact ⟨ret_bool (by rw [HS.out]), CAt.of (by repeat (first | (with_reducible exact HB.out) | (with_reducible apply CAt.set))) t (by rw [HS.out]; rfl) (by rw [HS.out]; intro h; cases h), by repeat (first | (with_reducible exact World.grownBy.refl _ _) | (with_reducible apply grown_set))⟩
      · have HS := Lib.hid (show (D.mk true on off false since last).see false now = ⟨true, on, off, true, t, t⟩ by simp [D.see, D.need, D.from_, hn, HCT.out])
        go_wp2_with (go_at_call 18; refine (HK.out _).mono ?_; rintro e w1 ⟨rfl, rfl⟩)
        go_ret
        exact ⟨ret_bool (by rw [HS.out]), CAt.of (by repeat (first | (with_reducible exact HB.out) | (with_reducible apply CAt.set))) t (by rw [HS.out]; rfl) (by rw [HS.out]; intro _; rfl), by repeat (first | (with_reducible exact World.grownBy.refl _ _) | (with_reducible apply grown_set))⟩
    · obtain rfl := hs rfl
      clear hs
      by_cases hn : off ≤ t - f
      · have HS := Lib.hid (show (D.mk true on off true f last).see false now = ⟨false, on, off, false, 0, t⟩ by simp [D.see, D.need, D.from_, hn, HCT.out])
        go_wp2_with (go_at_call 18; refine (HK.out _).mono ?_; rintro e w1 ⟨rfl, rfl⟩)
        go_ret
        exact ⟨ret_bool (by rw [HS.out]), CAt.of (by repeat (first | (with_reducible exact HB.out) | (with_reducible apply CAt.set))) f (by rw [HS.out]; rfl) (by rw [HS.out]; intro h; cases h), by repeat (first | (with_reducible exact World.grownBy.refl _ _) | (with_reducible apply grown_set))⟩
      · have HS := Lib.hid (show (D.mk true on off true f last).see false now = ⟨true, on, off, true, f, t⟩ by simp [D.see, D.need, D.from_, hn, HCT.out])
        go_wp2_with (go_at_call 18; refine (HK.out _).mono ?_; rintro e w1 ⟨rfl, rfl⟩)
        go_ret
        exact ⟨ret_bool (by rw [HS.out]), CAt.of (by repeat (first | (with_reducible exact HB.out) | (with_reducible apply CAt.set))) f (by rw [HS.out]; rfl) (by rw [HS.out]; intro _; rfl), by repeat (first | (with_reducible exact World.grownBy.refl _ _) | (with_reducible apply grown_set))⟩
  · cases seen
    · clear hs
      by_cases hn : on ≤ 0
      · have HS := Lib.hid (show (D.mk false on off false since last).see true now = ⟨true, on, off, false, 0, t⟩ by simp [D.see, D.need, D.from_, hn, HCT.out])
        go_wp2_with (go_at_call 18; refine (HK.out _).mono ?_; rintro e w1 ⟨rfl, rfl⟩)
        go_ret
        exact ⟨ret_bool (by rw [HS.out]), CAt.of (by repeat (first | (with_reducible exact HB.out) | (with_reducible apply CAt.set))) t (by rw [HS.out]; rfl) (by rw [HS.out]; intro h; cases h), by repeat (first | (with_reducible exact World.grownBy.refl _ _) | (with_reducible apply grown_set))⟩
      · have HS := Lib.hid (show (D.mk false on off false since last).see true now = ⟨false, on, off, true, t, t⟩ by simp [D.see, D.need, D.from_, hn, HCT.out])
        go_wp2_with (go_at_call 18; refine (HK.out _).mono ?_; rintro e w1 ⟨rfl, rfl⟩)
        go_ret
        exact ⟨ret_bool (by rw [HS.out]), CAt.of (by repeat (first | (with_reducible exact HB.out) | (with_reducible apply CAt.set))) t (by rw [HS.out]; rfl) (by rw [HS.out]; intro _; rfl), by repeat (first | (with_reducible exact World.grownBy.refl _ _) | (with_reducible apply grown_set))⟩
    · obtain rfl := hs rfl
      clear hs
      by_cases hn : on ≤ t - f
      · have HS := Lib.hid (show (D.mk false on off true f last).see true now = ⟨true, on, off, false, 0, t⟩ by simp [D.see, D.need, D.from_, hn, HCT.out])
        go_wp2_with (go_at_call 18; refine (HK.out _).mono ?_; rintro e w1 ⟨rfl, rfl⟩)
        go_ret
        exact ⟨ret_bool (by rw [HS.out]), CAt.of (by repeat (first | (with_reducible exact HB.out) | (with_reducible apply CAt.set))) f (by rw [HS.out]; rfl) (by rw [HS.out]; intro h; cases h), by repeat (first | (with_reducible exact World.grownBy.refl _ _) | (with_reducible apply grown_set))⟩
      · have HS := Lib.hid (show (D.mk false on off true f last).see true now = ⟨false, on, off, true, f, t⟩ by simp [D.see, D.need, D.from_, hn, HCT.out])
        go_wp2_with (go_at_call 18; refine (HK.out _).mono ?_; rintro e w1 ⟨rfl, rfl⟩)
        go_ret
        exact ⟨ret_bool (by rw [HS.out]), CAt.of (by repeat (first | (with_reducible exact HB.out) | (with_reducible apply CAt.set))) f (by rw [HS.out]; rfl) (by rw [HS.out]; intro _; rfl), by repeat (first | (with_reducible exact World.grownBy.refl _ _) | (with_reducible apply grown_set))⟩
  · have HS := Lib.hid (show (D.mk true on off seen since last).see true now = ⟨true, on, off, false, 0, t⟩ by simp [D.see, HCT.out])
    clear hs
    go_wp2_with (go_at_call 18; refine (HK.out _).mono ?_; rintro e w1 ⟨rfl, rfl⟩)
    go_ret
    exact ⟨ret_bool (by rw [HS.out]), CAt.of (by repeat (first | (with_reducible exact HB.out) | (with_reducible apply CAt.set))) f (by rw [HS.out]; rfl) (by rw [HS.out]; intro h; cases h), by repeat (first | (with_reducible exact World.grownBy.refl _ _) | (with_reducible apply grown_set))⟩
end Go.Proofs.Ytgnpoiojiocmgaa
