import Derived.Test.YtfogihnjeaeifaaQueueDrain
namespace Go.Proofs.Ytfogihnjeaeifaa
open Go.Conc Go.RowKit
/-- what is laid behind the blocks that stand leaves a queue alone -/
theorem QAt.below {B t q cap : Nat} {U O : List Value} {w w' : World} (h : QAt B t w q cap U O) (hb : Below w.heap.size w w') : QAt B t w' q cap U O := by
  obtain ⟨a, b, hq, ha, hb', hab, hqa, hqb, hx, ⟨s1, r1, hA⟩, ⟨s2, r2, hO⟩⟩ := h
  exact ⟨a, b, hq, ha, hb', hab, hqa, hqb, (hb.block q (lt_of_heap hx)).trans hx, ⟨s1, r1, (hb.block a (lt_of_heap hA)).trans hA⟩, ⟨s2, r2, (hb.block b (lt_of_heap hO)).trans hO⟩⟩
set_option maxRecDepth 100000 in
theorem rnew (m : Int) (n : Nat) (w : World) (hn : min (max m 1) 64 = (n : Int)) :
    Calls Try.prog 10 #[.int .i64 m] w fun e w' => e = .returned (.pointer (some ⟨w.heap.size, 0, none⟩)) ∧ w' = w.alloc (.cells #[.int .i64 n, .slice none 0 0, .slice none 0 0] 50) := by
  have hbu := fun (w : World) (a : Int) => run_build (P := Try.prog) w 50 #[(0, .int .i64 a)] #[.int .i64 a, .slice none 0 0, .slice none 0 0] (by kernel_rfl)
  go_enter Try.func10, Try.ntmps10
  go_wp2_with fail
  · obtain rfl : n = 1 := by omega
    go_ret
    exact ⟨rfl, rfl⟩
  · obtain rfl : n = 64 := by omega
    go_ret
    exact ⟨rfl, rfl⟩
  · obtain rfl : m = n := by omega
    go_ret
    exact ⟨rfl, rfl⟩
end Go.Proofs.Ytfogihnjeaeifaa
