import Derived.Test.YtfogihnjeaeifaaQueueNew
namespace Go.Proofs.Ytfogihnjeaeifaa
open Go.Conc Go.RowKit
theorem bytes4 : ∃ i, Try.prog.info? 4 = some i ∧ i.bytes = 1 := by
  have h : (Try.prog.info? 4).map (·.bytes) = some 1 := by kernel_rfl
  obtain ⟨i, hi, hb⟩ := Option.map_eq_some_iff.1 h
  exact ⟨i, hi, hb⟩
theorem bmk (w : World) (v : Int) (n : Nat) (e : v = n) (h : n ≤ 64) : (Instr.makeChan 51 (.int .i64 v)).run Try.prog w = .ok (.chan (some w.heap.size)) (w.alloc (.chan n #[] false 0 0 false)) := by
  subst e
  obtain ⟨i, hi, hb⟩ := bytes4
  simpa using run_makeChan (P := Try.prog) (w := w) Try.underlying51 hi .i64 n (by omega) (by rw [hb]; omega)
set_option maxRecDepth 100000 in
theorem bnew_walk (m : Int) (n : Nat) (w : World) (h1 : 1 ≤ n) (h64 : n ≤ 64) (hn : min (max m 1) 64 = (n : Int)) :
    Calls Try.prog 19 #[.int .i64 m] w fun e w' => ∃ q, e = .returned (.pointer (some ⟨q, 0, none⟩)) ∧ QAt w.heap.size 53 w' q n [] [] ∧ Below w.heap.size w w' := by
  have hbu := fun (w : World) (a b : Nat) => run_build (P := Try.prog) w 53 #[(0, .chan (some a)), (1, .chan (some b))] #[.chan (some a), .chan (some b)] (by kernel_rfl)
  go_enter Try.func19, Try.ntmps19
  go_wp2_with fail
  all_goals (
    rename_i h2
    try rw [if_neg (by omega)] at h2
    try rw [if_pos (by omega)] at h2)
  · have hmk := fun w => bmk w 64 n (by omega) h64
    clear hn
    go_region_with (fail)
    all_goals
     go_wp2_with fail
     go_ret
     refine ⟨_, rfl, qat_new (by first | exact Or.inl ⟨rfl, rfl⟩ | exact Or.inr ⟨rfl, rfl⟩) rfl, ?_⟩
     exact ⟨rfl, rfl, rfl, push3_size rfl, push3_block rfl⟩
  · have hmk := fun w => bmk w 1 n (by omega) h64
    clear hn
    go_region_with (fail)
    all_goals
     go_wp2_with fail
     go_ret
     refine ⟨_, rfl, qat_new (by first | exact Or.inl ⟨rfl, rfl⟩ | exact Or.inr ⟨rfl, rfl⟩) rfl, ?_⟩
     exact ⟨rfl, rfl, rfl, push3_size rfl, push3_block rfl⟩
  · have hmk := fun w => bmk w m n (by omega) h64
    clear hn
    go_region_with (fail)
    all_goals
     go_wp2_with fail
     go_ret
     refine ⟨_, rfl, qat_new (by first | exact Or.inl ⟨rfl, rfl⟩ | exact Or.inr ⟨rfl, rfl⟩) rfl, ?_⟩
     exact ⟨rfl, rfl, rfl, push3_size rfl, push3_block rfl⟩
end Go.Proofs.Ytfogihnjeaeifaa
