/-
  THE WALK of sofar: the matrix of what was read.
-/
import Derived.Test.YtckbdnkonccmiaaDoorMatWK
namespace Go.Proofs.YtckbdnkonccmiaaDoor
open Go.RowKit
def zeroKey : ByteArray := ⟨#[48, 48, 48, 48, 48, 48, 48, 48, 48, 48, 48, 48, 48, 48, 48, 48]⟩
def sofarM (m : Mat) (wt lk : Bool) : Mat := { m with retries := if wt = true then m.retries else 0, wait := if wt = true then m.wait else 1, back := if wt = true then m.back else 0, cycle := if wt = true then m.cycle else 1, key := if lk = true then m.key else zeroKey }
set_option maxHeartbeats 4000000 in
set_option maxRecDepth 100000 in
theorem sofar_any (c : RC) (s : Row) (w : World) (h : RSS c s w) :
    Calls Tryd.prog 59 #[.pointer (some ⟨c.g, 0, none⟩)] w fun e w' => e = .returned ((sofarM c.m c.wt c.lk).val c.vd c.vp c.vc c.ve) ∧ Below w.heap.size w w' := by
  obtain ⟨vl, h⟩ := h
  obtain ⟨Ad, cd, hvd⟩ := own_form h.at_.ds
  obtain ⟨Ap, cp, hvp⟩ := own_form h.at_.ps
  obtain ⟨Ac, cc, hvc⟩ := own_form h.at_.cs
  obtain ⟨Ae, ce, hve⟩ := own_form h.at_.es
  unfold Mat.val sofarM
  rw [hvd, hvp, hvc, hve]
  have z0 : w.cell? ⟨c.g, 0, none⟩ = some (.int .i64 c.m.retries) := h.cell 0
  have z1 : w.cell? ⟨c.g, 1, none⟩ = some (.int .i64 c.m.wait) := h.cell 1
  have z2 : w.cell? ⟨c.g, 2, none⟩ = some (.int .i64 c.m.back) := h.cell 2
  have z3 : w.cell? ⟨c.g, 3, none⟩ = some (.int .i64 c.m.cycle) := h.cell 3
  have z4 : w.cell? ⟨c.g, 4, none⟩ = some (.string c.m.key) := h.cell 4
  have z5 : w.cell? ⟨c.g, 5, none⟩ = some (.slice Ad c.m.devs.length cd) := by rw [← hvd]; exact h.cell 5
  have z6 : w.cell? ⟨c.g, 6, none⟩ = some (.slice Ap c.m.pts.length cp) := by rw [← hvp]; exact h.cell 6
  have z7 : w.cell? ⟨c.g, 7, none⟩ = some (.slice Ac c.m.css.length cc) := by rw [← hvc]; exact h.cell 7
  have z8 : w.cell? ⟨c.g, 8, none⟩ = some (.slice Ae c.m.efs.length ce) := by rw [← hve]; exact h.cell 8
  have z10 : w.cell? ⟨c.g, 10, none⟩ = some (.bool c.wt) := h.cell 10
  have z11 : w.cell? ⟨c.g, 11, none⟩ = some (.bool c.lk) := h.cell 11
  have hal : ∀ (o1 o2 : Obj) (i : Nat), ((w.alloc o1).alloc o2).cell? ⟨c.g, i, none⟩ = w.cell? ⟨c.g, i, none⟩ := fun o1 o2 i => by rw [h.cell i]; exact ((h.alloc o1).alloc o2).cell i
  have hal1 : ∀ (o1 : Obj) (i : Nat), (w.alloc o1).cell? ⟨c.g, i, none⟩ = w.cell? ⟨c.g, i, none⟩ := fun o1 i => by rw [h.cell i]; exact (h.alloc o1).cell i
  clear h
  have hb : ∀ o1 o2 : Obj, Below w.heap.size w ((w.alloc o1).alloc o2) := fun o1 o2 => ((Below.refl _ _).alloc (Nat.le_refl _) _).alloc (by simp) _
  have HB := Lib.hid hb
  clear hb
  cases hwt : c.wt with
  | true =>
    rw [hwt] at z10
    cases hlk : c.lk with
    | true =>
      rw [hlk] at z11
      go_enter Tryd.func59, Tryd.ntmps59
      go_wp2_with fail
      (try simp only [Exit.inBlock, Exit.then])
      refine bodyPost_ret (results_cell_row rfl _ _ w.heap.size 27 #[.int .i64 c.m.retries, .int .i64 c.m.wait, .int .i64 c.m.back, .int .i64 c.m.cycle, .string c.m.key, .slice Ad c.m.devs.length cd, .slice Ap c.m.pts.length cp, .slice Ac c.m.css.length cc, .slice Ae c.m.efs.length ce] (0, 0) _ (by rfl) ((Below.heap_alloc _ _ _ (by simp)).trans (heap_alloc_new w _)) Tryd.underlying27 rfl (by kernel_rfl)) rfl ⟨by first | rfl | (simp only [hwt, hlk, if_true, Bool.false_eq_true, if_false]; rfl), HB.out _ _⟩
    | false =>
      rw [hlk] at z11
      go_enter Tryd.func59, Tryd.ntmps59
      go_wp2_with fail
      (try simp only [Exit.inBlock, Exit.then])
      refine bodyPost_ret (results_cell_row rfl _ _ w.heap.size 27 #[.int .i64 c.m.retries, .int .i64 c.m.wait, .int .i64 c.m.back, .int .i64 c.m.cycle, .string zeroKey, .slice Ad c.m.devs.length cd, .slice Ap c.m.pts.length cp, .slice Ac c.m.css.length cc, .slice Ae c.m.efs.length ce] (0, 0) _ (by rfl) ((Below.heap_alloc _ _ _ (by simp)).trans (heap_alloc_new w _)) Tryd.underlying27 rfl (by kernel_rfl)) rfl ⟨by first | rfl | (simp only [hwt, hlk, if_true, Bool.false_eq_true, if_false]; rfl), HB.out _ _⟩
  | false =>
    rw [hwt] at z10
    cases hlk : c.lk with
    | true =>
      rw [hlk] at z11
      go_enter Tryd.func59, Tryd.ntmps59
      go_wp2_with fail
      (try simp only [Exit.inBlock, Exit.then])
      refine bodyPost_ret (results_cell_row rfl _ _ w.heap.size 27 #[.int .i64 0, .int .i64 1, .int .i64 0, .int .i64 1, .string c.m.key, .slice Ad c.m.devs.length cd, .slice Ap c.m.pts.length cp, .slice Ac c.m.css.length cc, .slice Ae c.m.efs.length ce] (0, 0) _ (by rfl) ((Below.heap_alloc _ _ _ (by simp)).trans (heap_alloc_new w _)) Tryd.underlying27 rfl (by kernel_rfl)) rfl ⟨by first | rfl | (simp only [hwt, hlk, if_true, Bool.false_eq_true, if_false]; rfl), HB.out _ _⟩
    | false =>
      rw [hlk] at z11
      go_enter Tryd.func59, Tryd.ntmps59
      go_wp2_with fail
      (try simp only [Exit.inBlock, Exit.then])
      refine bodyPost_ret (results_cell_row rfl _ _ w.heap.size 27 #[.int .i64 0, .int .i64 1, .int .i64 0, .int .i64 1, .string zeroKey, .slice Ad c.m.devs.length cd, .slice Ap c.m.pts.length cp, .slice Ac c.m.css.length cc, .slice Ae c.m.efs.length ce] (0, 0) _ (by rfl) ((Below.heap_alloc _ _ _ (by simp)).trans (heap_alloc_new w _)) Tryd.underlying27 rfl (by kernel_rfl)) rfl ⟨by first | rfl | (simp only [hwt, hlk, if_true, Bool.false_eq_true, if_false]; rfl), HB.out _ _⟩
end Go.Proofs.YtckbdnkonccmiaaDoor
