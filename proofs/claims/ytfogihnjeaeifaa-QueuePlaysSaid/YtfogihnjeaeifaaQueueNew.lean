import Derived.Test.YtfogihnjeaeifaaQueueMany
import Derived.BigRegion
import Derived.Deep.RegionHeldLaw
namespace Go.Proofs.Ytfogihnjeaeifaa
open Go.Conc Go.RowKit
theorem bytes3 : ∃ i, Try.prog.info? 3 = some i ∧ i.bytes = 8 := by
  have h : (Try.prog.info? 3).map (·.bytes) = some 8 := by kernel_rfl
  obtain ⟨i, hi, hb⟩ := Option.map_eq_some_iff.1 h
  exact ⟨i, hi, hb⟩
theorem mk (w : World) (v : Int) (n : Nat) (e : v = n) (h : n ≤ 64) : (Instr.makeChan 46 (.int .i64 v)).run Try.prog w = .ok (.chan (some w.heap.size)) (w.alloc (.chan n #[] false 0 0 false)) := by
  subst e
  obtain ⟨i, hi, hb⟩ := bytes3
  simpa using run_makeChan (P := Try.prog) (w := w) Try.underlying46 hi .i64 n (by omega) (by rw [hb]; omega)
/-- what New lays behind the blocks that stood -/
theorem qat_new {w w' : World} {n t a b : Nat} (hab : (a = w.heap.size ∧ b = w.heap.size + 1) ∨ (a = w.heap.size + 1 ∧ b = w.heap.size))
    (hh : w'.heap = ((w.heap.push (.chan n #[] false 0 0 false)).push (.chan n #[] false 0 0 false)).push (.cells #[.chan (some a), .chan (some b)] t (0, 0))) : QAt w.heap.size t w' (w.heap.size + 1 + 1) n [] [] := by
  have g0 : w'.heap[w.heap.size]? = some (.chan n #[] false 0 0 false) := by rw [hh, Array.getElem?_push, if_neg (by simp only [Array.size_push]; omega), Array.getElem?_push, if_neg (by simp only [Array.size_push]; omega), Array.getElem?_push, if_pos rfl]
  have g1 : w'.heap[w.heap.size + 1]? = some (.chan n #[] false 0 0 false) := by rw [hh, Array.getElem?_push, if_neg (by simp only [Array.size_push]; omega), Array.getElem?_push, if_pos (by simp only [Array.size_push])]
  have g2 : w'.heap[w.heap.size + 1 + 1]? = some (.cells #[.chan (some a), .chan (some b)] t (0, 0)) := by rw [hh, Array.getElem?_push, if_pos (by simp only [Array.size_push])]
  rcases hab with ⟨rfl, rfl⟩ | ⟨rfl, rfl⟩
  · exact ⟨_, _, by omega, by omega, by omega, by omega, by omega, by omega, g2, ⟨0, 0, g0⟩, ⟨0, 0, g1⟩⟩
  · exact ⟨_, _, by omega, by omega, by omega, by omega, by omega, by omega, g2, ⟨0, 0, g1⟩, ⟨0, 0, g0⟩⟩
theorem push3_size {w w' : World} {x y z : Obj} (hh : w'.heap = ((w.heap.push x).push y).push z) : w.heap.size ≤ w'.heap.size := by
  rw [hh]; simp only [Array.size_push]; omega
theorem push3_block {w w' : World} {x y z : Obj} (hh : w'.heap = ((w.heap.push x).push y).push z) (k : Nat) (hk : k < w.heap.size) : w'.heap[k]? = w.heap[k]? := by
  rw [hh, Array.getElem?_push, if_neg (by simp only [Array.size_push]; omega), Array.getElem?_push, if_neg (by simp only [Array.size_push]; omega), Array.getElem?_push, if_neg (by omega)]
set_option maxRecDepth 100000 in
theorem new_walk (m : Int) (n : Nat) (w : World) (h1 : 1 ≤ n) (h64 : n ≤ 64) (hn : min (max m 1) 64 = (n : Int)) :
    Calls Try.prog 9 #[.int .i64 m] w fun e w' => ∃ q, e = .returned (.pointer (some ⟨q, 0, none⟩)) ∧ QAt w.heap.size 48 w' q n [] [] ∧ Below w.heap.size w w' := by
  have hbu := fun (w : World) (a b : Nat) => run_build (P := Try.prog) w 48 #[(0, .chan (some a)), (1, .chan (some b))] #[.chan (some a), .chan (some b)] (by kernel_rfl)
  go_enter Try.func9, Try.ntmps9
  go_wp2_with fail
  all_goals (
    rename_i h2
    try rw [if_neg (by omega)] at h2
    try rw [if_pos (by omega)] at h2)
  · have hmk := fun w => mk w 64 n (by omega) h64
    clear hn
    go_region_with (fail)
    all_goals
     go_wp2_with fail
     go_ret
     refine ⟨_, rfl, qat_new (by first | exact Or.inl ⟨rfl, rfl⟩ | exact Or.inr ⟨rfl, rfl⟩) rfl, ?_⟩
     exact ⟨rfl, rfl, rfl, push3_size rfl, push3_block rfl⟩
  · have hmk := fun w => mk w 1 n (by omega) h64
    clear hn
    go_region_with (fail)
    all_goals
     go_wp2_with fail
     go_ret
     refine ⟨_, rfl, qat_new (by first | exact Or.inl ⟨rfl, rfl⟩ | exact Or.inr ⟨rfl, rfl⟩) rfl, ?_⟩
     exact ⟨rfl, rfl, rfl, push3_size rfl, push3_block rfl⟩
  · have hmk := fun w => mk w m n (by omega) h64
    clear hn
    go_region_with (fail)
    all_goals
     go_wp2_with fail
     go_ret
     refine ⟨_, rfl, qat_new (by first | exact Or.inl ⟨rfl, rfl⟩ | exact Or.inr ⟨rfl, rfl⟩) rfl, ?_⟩
     exact ⟨rfl, rfl, rfl, push3_size rfl, push3_block rfl⟩
end Go.Proofs.Ytfogihnjeaeifaa
