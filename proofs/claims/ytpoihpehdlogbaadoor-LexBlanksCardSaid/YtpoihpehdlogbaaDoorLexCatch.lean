/-
  THE WALK of lex.caught's deferred closure: a fault is caught, and told; without a panic nothing turns.
-/
import Derived.Test.YtpoihpehdlogbaaDoorLexNumbered
import Derived.RecoverIn
import Derived.Recover
namespace Go.Proofs.YtpoihpehdlogbaaDoor
open Go.RowKit Go.Shelf
theorem assert_fault (v : Value) (w : World) : (Instr.typeAssert (.iface 51 v) 20 51 true).run Tryd.prog w = .ok (.tuple #[v, .bool true]) w := by
  simp [Instr.typeAssert, go_sem]
theorem assert_nil (w : World) : (Instr.typeAssert .nilIface 20 51 true).run Tryd.prog w = .ok (.tuple #[.agg #[.int .i64 0, .int .i64 0], .bool false]) w := by
  simp [Instr.typeAssert, go_sem]
/-- what the closure leaves of a fault -/
def Told (h : Nat) (k no : Int) (w w' : World) : Prop :=
  w'.cell? ⟨h, 0, none⟩ = some (.slice none 0 0) ∧ w'.cell? ⟨h + 1, 0, none⟩ = some (.int .i64 k) ∧ w'.cell? ⟨h + 1 + 1, 0, none⟩ = some (.int .i64 no) ∧ Below h w w'
theorem told_of {h : Nat} {k no : Int} {v0 v1 v2 : Value} {w : World} (h0 : w.heap[h]? = some (.cells #[v0] 22 (0, 0))) (h1 : w.heap[h + 1]? = some (.cells #[v1] 30 (0, 0))) (h2 : w.heap[h + 1 + 1]? = some (.cells #[v2] 3 (0, 0))) (ob : Obj) :
    Told h k no w (((((w.setCell ⟨h, 0, none⟩ (.slice none 0 0)).setCell ⟨h + 1, 0, none⟩ (.int .i64 k)).setCell ⟨h + 1 + 1, 0, none⟩ (.int .i64 no)).alloc ob).drew) := by
  have b0 : Boxed w h 22 v0 := h0
  have b1 : Boxed w (h + 1) 30 v1 := h1
  have b2 : Boxed w (h + 1 + 1) 3 v2 := h2
  have c0 := (((b0.set (.slice none 0 0)).other (B' := h + 1) (by omega) (.int .i64 k)).other (B' := h + 1 + 1) (by omega) (.int .i64 no)).alloc ob
  have c1 := (((b1.other (B' := h) (by omega) (.slice none 0 0)).set (.int .i64 k)).other (B' := h + 1 + 1) (by omega) (.int .i64 no)).alloc ob
  have c2 := (((b2.other (B' := h) (by omega) (.slice none 0 0)).other (B' := h + 1) (by omega) (.int .i64 k)).set (.int .i64 no)).alloc ob
  have hlt : h + 1 + 1 < w.heap.size := (Array.getElem?_eq_some_iff.1 h2).1
  refine ⟨c0.cell, c1.cell, c2.cell, ?_⟩
  have hb := ((((Below.refl h w).setCell (p := ⟨h, 0, none⟩) (Nat.le_refl _) (.slice none 0 0)).setCell (p := ⟨h + 1, 0, none⟩) (Nat.le_succ _) (.int .i64 k)).setCell (p := ⟨h + 1 + 1, 0, none⟩) (by simp only []; omega) (.int .i64 no)).alloc (by simp [World.setCell]; omega) ob
  exact ⟨hb.os, hb.tape, hb.output, hb.size, hb.block⟩
set_option maxRecDepth 100000 in
theorem catch_fault (h : Nat) (k no : Int) (v0 v1 v2 : Value) (w : World) (h0 : w.heap[h]? = some (.cells #[v0] 22 (0, 0))) (h1 : w.heap[h + 1]? = some (.cells #[v1] 30 (0, 0))) (h2 : w.heap[h + 1 + 1]? = some (.cells #[v2] 3 (0, 0))) (n : Nat) :
    CallsDIn Fence.wide n Tryd.prog 20 #[.pointer (some ⟨h, 0, none⟩), .pointer (some ⟨h + 1, 0, none⟩), .pointer (some ⟨h + 1 + 1, 0, none⟩)] (.panicking (faultC k no)) w fun e u' w' =>
      e = .returned (.tuple #[]) ∧ u' = .panicking [{ v := .iface 51 (.agg #[.int .i64 k, .int .i64 no]), recovered := true }] ∧ Told h k no w w' := by
  unfold faultC
  have ha := assert_fault (.agg #[.int .i64 k, .int .i64 no])
  have hwd : ∀ f, Fence.wide.fn f := fun _ => trivial
  have k0 : w.cell? ⟨h, 0, none⟩ = some v0 := cell_of_row _ _ _ _ _ _ h0
  have k1 : w.cell? ⟨h + 1, 0, none⟩ = some v1 := cell_of_row _ _ _ _ _ _ h1
  have k2 : w.cell? ⟨h + 1 + 1, 0, none⟩ = some v2 := cell_of_row _ _ _ _ _ _ h2
  have z0 : w.frozen? ⟨h, 0, none⟩ = false := frozen_of_row _ _ _ _ _ h0
  have z1 : w.frozen? ⟨h + 1, 0, none⟩ = false := frozen_of_row _ _ _ _ _ h1
  have z2 : w.frozen? ⟨h + 1 + 1, 0, none⟩ = false := frozen_of_row _ _ _ _ _ h2
  have hlt : h + 1 + 1 < w.heap.size := (Array.getElem?_eq_some_iff.1 h2).1
  have hlt0 : h < w.heap.size := by omega
  have hlt1 : h + 1 < w.heap.size := by omega
  have hn0 : ¬ w.heap.size = h := by omega
  have hn1 : ¬ w.heap.size = h + 1 := by omega
  have hn2 : ¬ w.heap.size = h + 1 + 1 := by omega
  refine callsDIn_of_wpSIn Tryd.func20 rfl trivial fun c₀ cs hu => ?_
  simp only [Tryd.ntmps20, List.size_toArray, List.length_cons, List.length_nil, Nat.reduceAdd, Nat.reduceSub, Array.replicate_succ, Array.replicate_zero, List.push_toArray, List.append_toArray, List.nil_append, List.cons_append]
  apply wpSIn_seq
  apply wpSIn_region
  simp [wpOpsSIn, go_sem, recoverD, hu, Exit.thenS, ha, hwd]
  refine wpSIn_of_wpIn rfl (wpIn_wide.2 ?_)
  go_wp2
  go_region
  go_wp2
  exact ⟨rfl, _, rfl, _, results_none rfl _ _ _, rfl, rfl, told_of h0 h1 h2 _⟩
set_option maxRecDepth 100000 in
theorem catch_none (h : Nat) (w : World) (n : Nat) :
    CallsDIn Fence.wide n Tryd.prog 20 #[.pointer (some ⟨h, 0, none⟩), .pointer (some ⟨h + 1, 0, none⟩), .pointer (some ⟨h + 1 + 1, 0, none⟩)] .returning w fun e u' w' =>
      e = .returned (.tuple #[]) ∧ u' = .returning ∧ w' = w.alloc (.cells #[.int .i64 0, .int .i64 0] 51) := by
  have ha := assert_nil
  have hwd : ∀ f, Fence.wide.fn f := fun _ => trivial
  refine callsDIn_of_wpSIn Tryd.func20 rfl trivial fun c₀ cs hu => ?_
  simp only [Tryd.ntmps20, List.size_toArray, List.length_cons, List.length_nil, Nat.reduceAdd, Nat.reduceSub, Array.replicate_succ, Array.replicate_zero, List.push_toArray, List.append_toArray, List.nil_append, List.cons_append]
  apply wpSIn_seq
  apply wpSIn_region
  simp [wpOpsSIn, go_sem, recoverD, hu, Exit.thenS, ha, hwd]
  refine wpSIn_of_wpIn rfl (wpIn_wide.2 ?_)
  go_wp2
  refine ⟨rfl, .returning, ?_, _, results_none rfl _ _ _, rfl, rfl, rfl⟩
  cases c₀
  simp_all
end Go.Proofs.YtpoihpehdlogbaaDoor
