/-
  THE WALK of delay.New.
-/
import Derived.Test.YtgnpoiojiocmgaaDelay
import Derived.StillTailTactics
namespace Go.Proofs.Ytgnpoiojiocmgaa
open Go.RowKit Delay

def NAt (w : World) (a b : Int) (wx : World) : Prop := BAt wx w.heap.size #[.bool false, .int .i64 a, .int .i64 b, .bool false, .int .i64 0, .int .i64 0] ∧ Below w.heap.size w wx
theorem BAt.drew {w : World} {g : Nat} {cs : Array Value} (h : BAt w g cs) : BAt w.drew g cs := h
theorem BAt.new (w : World) (cs : Array Value) : BAt (w.alloc (.cells cs 44)) w.heap.size cs := heap_alloc_new w _
set_option maxHeartbeats 2000000 in
theorem New_any (on off : Int) (w : World) : Calls Try.prog 9 #[.int .i64 on, .int .i64 off] w fun e w' => e = .returned (.pointer (some ⟨w.heap.size, 0, none⟩)) ∧ DAt w' w.heap.size (new on off) ∧ Below w.heap.size w w' := by
  go_enter Try.func9, Try.ntmps9
  go_upto_region 2 with fail
  have hB0 : BAt (w.alloc (.cells #[.bool false, .int .i64 0, .int .i64 0, .bool false, .int .i64 0, .int .i64 0] 44)) w.heap.size #[.bool false, .int .i64 0, .int .i64 0, .bool false, .int .i64 0, .int .i64 0] := BAt.new w _
  have hb0 : Below w.heap.size w (w.alloc (.cells #[.bool false, .int .i64 0, .int .i64 0, .bool false, .int .i64 0, .int .i64 0] 44)) := (Below.refl _ _).alloc (Nat.le_refl _) _
  generalize w.alloc (.cells #[.bool false, .int .i64 0, .int .i64 0, .bool false, .int .i64 0, .int .i64 0] 44) = w0 at *
  have c2 : w0.cell? ⟨w.heap.size, 2, none⟩ = some (.int .i64 0) := cell_of_row _ _ _ _ _ _ hB0
  have f2 : w0.frozen? ⟨w.heap.size, 2, none⟩ = false := frozen_of_row _ _ _ _ _ hB0
  have HB0 := Lib.hid hB0
  clear hB0
  go_cut [] (fun wx => NAt w 0 (clamp on 0) wx)
  case first =>
    rcases (by omega : on < 0 ∨ (¬ on < 0 ∧ on ≤ 1099511627776) ∨ (¬ on < 0 ∧ ¬ on ≤ 1099511627776)) with h | ⟨h, h'⟩ | ⟨h, h'⟩
    · have HE := Lib.hid (show clamp on 0 = 0 by unfold clamp; omega)
      go_still_tail 8, (by kernel_rfl)
      still_call (place_any _ _)
      repeat still_step
      refine wpStill_nil ?_
      go_wp2_with fail
      go_meet
      rw [HE.out]
      exact ⟨HB0.out.drew.set 2 _, hb0.drew.setCell (Nat.le_refl _) _⟩
    · have HE := Lib.hid (show clamp on 0 = on by unfold clamp; omega)
      go_still_tail 8, (by kernel_rfl)
      still_call (place_any _ _)
      repeat still_step
      refine wpStill_nil ?_
      go_wp2_with fail
      go_meet
      rw [HE.out]
      exact ⟨HB0.out.drew.set 2 _, hb0.drew.setCell (Nat.le_refl _) _⟩
    · have HE := Lib.hid (show clamp on 0 = 1099511627776 by unfold clamp; omega)
      go_still_tail 8, (by kernel_rfl)
      still_call (place_any _ _)
      repeat still_step
      refine wpStill_nil ?_
      go_wp2_with fail
      go_meet
      rw [HE.out]
      exact ⟨HB0.out.drew.set 2 _, hb0.drew.setCell (Nat.le_refl _) _⟩
  case rest =>
    clear c2 f2 HB0
    obtain ⟨hB, hb⟩ := hcut
    have c2 : wc.cell? ⟨w.heap.size, 1, none⟩ = some (.int .i64 0) := cell_of_row _ _ _ _ _ _ hB
    have f2 : wc.frozen? ⟨w.heap.size, 1, none⟩ = false := frozen_of_row _ _ _ _ _ hB
    have HB := Lib.hid hB
    clear hB
    go_upto_region 3 with fail
    go_cut [] (fun wx => NAt w (clamp off 0) (clamp on 0) wx)
    case first =>
      rcases (by omega : off < 0 ∨ (¬ off < 0 ∧ off ≤ 1099511627776) ∨ (¬ off < 0 ∧ ¬ off ≤ 1099511627776)) with h | ⟨h, h'⟩ | ⟨h, h'⟩
      · have HE := Lib.hid (show clamp off 0 = 0 by unfold clamp; omega)
        go_still_tail 8, (by kernel_rfl)
        still_call (place_any _ _)
        repeat still_step
        refine wpStill_nil ?_
        go_wp2_with fail
        go_meet
        rw [HE.out]
        exact ⟨HB.out.drew.set 1 _, hb.drew.setCell (Nat.le_refl _) _⟩
      · have HE := Lib.hid (show clamp off 0 = off by unfold clamp; omega)
        go_still_tail 8, (by kernel_rfl)
        still_call (place_any _ _)
        repeat still_step
        refine wpStill_nil ?_
        go_wp2_with fail
        go_meet
        rw [HE.out]
        exact ⟨HB.out.drew.set 1 _, hb.drew.setCell (Nat.le_refl _) _⟩
      · have HE := Lib.hid (show clamp off 0 = 1099511627776 by unfold clamp; omega)
        go_still_tail 8, (by kernel_rfl)
        still_call (place_any _ _)
        repeat still_step
        refine wpStill_nil ?_
        go_wp2_with fail
        go_meet
        rw [HE.out]
        exact ⟨HB.out.drew.set 1 _, hb.drew.setCell (Nat.le_refl _) _⟩
    case rest =>
      obtain ⟨hB, hb⟩ := hcut
      go_wp2_with fail
      go_ret
      exact ⟨rfl, hB.conv rfl, hb⟩
end Go.Proofs.Ytgnpoiojiocmgaa
