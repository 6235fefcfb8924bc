/-
  THE WALK of the reader's method for a line of a kind: device.
-/
import Derived.Test.YtckbdnkonccmiaaDoorMatLv
namespace Go.Proofs.YtckbdnkonccmiaaDoor
open Go.RowKit
def deviceF (kn : Kn) (s : Row) : Dev × Row :=
  let a0 := nameS kn s
  let a1 := numS a0.2
  let a2 := numS a1.2
  (⟨a0.1, a1.1, a2.1⟩, a2.2)
set_option maxHeartbeats 4000000 in
set_option maxRecDepth 100000 in
theorem device_any (c : RC) (s : Row) (w : World) (h : RSS c s w) (hf : Fits s.1) (hN : c.N < 1000000) (hm : c.m.devs.length ≤ 100000) :
    Calls Tryd.prog 55 #[.pointer (some ⟨c.g, 0, none⟩)] w fun e w' => e = .returned (.tuple #[]) ∧ ∃ v', RSS { c.put (deviceF c.kn s).1.name (0, (c.m.devs.length : Int)) with m := { c.m with devs := c.m.devs ++ [(deviceF c.kn s).1] }, vd := v' } (deviceF c.kn s).2 w' := by
  unfold deviceF
  simp only
  have HL := Lib.hid (LV.new h #[.string (ByteArray.mk #[]), .int .i64 0, .int .i64 0] 47)
  obtain ⟨i0, hi0, hz0, hz1, hz2⟩ := ds_parts
  clear h
  go_enter Tryd.func55, Tryd.ntmps55
  go_wp2_with fail
  refine (name_S c s _ HL.out.rs hf).mono ?_
  rintro e w1 ⟨rfl, hr, hg⟩
  have HL := Lib.hid (HL.out.call hr hg)
  have d0 := HL.out.blk.cell 0
  have e0 := HL.out.blk.frozen 0
  have hf0 := nameS_fits (kn := c.kn) (s := s) hf
  obtain ⟨a0, HA0⟩ : ∃ a, Hid (a = nameS c.kn s) := ⟨_, Lib.hid rfl⟩
  rw [← HA0.out] at HL hf0 ⊢
  simp only [List.getElem?_toArray, List.getElem?_cons_zero] at d0
  clear hr hg
  go_wp2_with fail
  have HL := Lib.hid (HL.out.store 0 (.string a0.1))
  clear d0 e0
  refine (num_S c a0.2 _ HL.out.rs hf0).mono ?_
  rintro e w2 ⟨rfl, hr, hg⟩
  have HL := Lib.hid (HL.out.call hr hg)
  have d0 := HL.out.blk.cell 1
  have e0 := HL.out.blk.frozen 1
  have hf1 := numS_fits (s := a0.2) hf0
  obtain ⟨a1, HA1⟩ : ∃ a, Hid (a = numS a0.2) := ⟨_, Lib.hid rfl⟩
  rw [← HA1.out] at HL hf1 ⊢
  simp only [List.setIfInBounds_toArray, List.set_cons_zero, List.getElem?_toArray, List.getElem?_cons_zero, List.getElem?_cons_succ] at d0
  clear hr hg
  go_wp2_with fail
  have HL := Lib.hid (HL.out.store 1 (.int .i64 a1.1))
  clear d0 e0
  refine (num_S c a1.2 _ HL.out.rs hf1).mono ?_
  rintro e w3 ⟨rfl, hr, hg⟩
  have HL := Lib.hid (HL.out.call hr hg)
  have d0 := HL.out.blk.cell 2
  have e0 := HL.out.blk.frozen 2
  have hf2 := numS_fits (s := a1.2) hf1
  obtain ⟨a2, HA2⟩ : ∃ a, Hid (a = numS a1.2) := ⟨_, Lib.hid rfl⟩
  rw [← HA2.out] at HL hf2 ⊢
  simp only [List.setIfInBounds_toArray, List.set_cons_zero, List.set_cons_succ, List.getElem?_toArray, List.getElem?_cons_zero, List.getElem?_cons_succ] at d0
  clear hr hg
  go_upto_region 4 with fail
  have HL : Hid (LV c w w.heap.size 47 #[.string a0.1, .int .i64 a1.1, .int .i64 a2.1] a2.2 (w3.setCell ⟨w.heap.size, 2, none⟩ (.int .i64 a2.1))) := Lib.hid (HL.out.store 2 (.int .i64 a2.1))
  clear d0 e0
  generalize w3.setCell ⟨w.heap.size, 2, none⟩ (.int .i64 a2.1) = wq at *
  obtain ⟨vl, hr⟩ := HL.out.rs
  obtain ⟨Ad, cd, hvd⟩ := own_form hr.at_.ds
  have z9 : wq.cell? ⟨c.g, 9, none⟩ = some (.map (some c.mb)) := hr.cell 9
  have zi : wq.cell? ⟨c.g, 5, none⟩ = some (.slice Ad c.m.devs.length cd) := by rw [← hvd]; exact hr.cell 5
  have d0 : wq.cell? ⟨w.heap.size, 0, none⟩ = some (.string a0.1) := HL.out.blk.cell 0
  have hml : a0.1.size ≤ maxLen := by rw [HA0.out]; have := nameS_size (kn := c.kn) (s := s) hf; simp only [maxLen]; omega
  have HVD := Lib.hid hvd
  have HR := Lib.hid hr
  clear hr hvd
  go_still_tail 13, (by kernel_rfl)
  change wpList _ _ _ _ _ wq.drew
  go_wp2_with (at_mapUpdate; refine wpList_put_at _ rfl (.tmp 19) (.tmp 21) (.tmp 28) 62 114 rfl Tryd.underlying62 (z := placeZ) (f := knV c.kn) rfl HR.out.drew.at_.mp (by simp only [maxLen]; omega) (u := placeV (0, (c.m.devs.length : Int))) rfl rfl hml ?_; intro w5 hmv hgr; have HR5v := Lib.hid (RV.put HR.out.drew hmv hgr); have HB5 := Lib.hid (Words.Blk.grown (w := wq.drew) HL.out.blk hgr (fun e => map_blk_ne HR.out.at_.mp HL.out.blk (Option.some.inj e).symm)); clear hmv hgr z9 zi d0)
  have zi : w5.cell? ⟨c.g, 5, none⟩ = some (.slice Ad c.m.devs.length cd) := by rw [← HVD.out]; exact HR5v.out.cell 5
  have za : (w5.alloc (.cells #[.string a0.1, .int .i64 a1.1, .int .i64 a2.1] 47)).cell? ⟨c.g, 5, none⟩ = some (.slice Ad c.m.devs.length cd) := by rw [← HVD.out]; exact (HR5v.out.alloc _).cell 5
  have b0 := HB5.out.cell 0
  have b1 := HB5.out.cell 1
  have b2 := HB5.out.cell 2
  simp only [List.getElem?_toArray, List.getElem?_cons_zero, List.getElem?_cons_succ] at b0 b1 b2
  have HO := Lib.hid (one_ds ⟨a0.1, a1.1, a2.1⟩)
  have hwl : c.W.heap.size ≤ w5.heap.size := HR5v.out.old.size
  have how := HR5v.out.at_.ds
  rw [show (c.put a0.1 (0, (c.m.devs.length : Int))).vd = .slice Ad c.m.devs.length cd from HVD.out] at how
  have HOW : Hid (w5.ownsRow c.W.heap.size 47 3 (.slice Ad c.m.devs.length cd) c.m.devs.length (c.m.devs.flatMap Dev.cells)) := Lib.hid how
  clear how
  go_upto_region 5 with fail
  go_region_law (first
    | (refine Words.step_append_any (w5.alloc (.cells #[.string a0.1, .int .i64 a1.1, .int .i64 a2.1] 47)).drew (by rfl) (.tmp 34) (.tmp 36) 22 (by rfl) c.W.heap.size 47 i0 _ 3 32 Tryd.underlying22 hi0 hz0 hz1 hz2 rfl (by omega) (.slice Ad c.m.devs.length cd) c.m.devs.length (c.m.devs.flatMap Dev.cells) (by rfl) (HOW.out.alloc _) (w5.heap.size + 1) (some ⟨w5.heap.size, 0, none⟩) 1 1 (Dev.cells ⟨a0.1, a1.1, a2.1⟩) (by rfl) (reads_ds w5.drew _ rfl ⟨a0.1, a1.1, a2.1⟩ _) HO.out (by simp only [maxLen]; omega) (by omega) (by show c.W.heap.size ≤ (w5.alloc _).heap.size; simp; omega) ?_; intro v' w6 ho hg _; rw [← HVD.out] at hg; obtain ⟨Av, cv, rfl⟩ := own_form ho; have HX := Lib.hid (RV.app_ds (w := w5.drew) HR5v.out.drew (x := ⟨a0.1, a1.1, a2.1⟩) ho hg); have f5 : w6.frozen? ⟨c.g, 5, none⟩ = false := HX.out.1.frozen 5; have c5 : w6.cell? ⟨c.g, 5, none⟩ = some c.vd := HX.out.1.cell 5; clear ho hg))
  all_goals go_wp2_with fail
  all_goals go_end0
  all_goals rw [← HA0.out, ← HA1.out, ← HA2.out]
  all_goals exact ⟨rfl, _, _, HX.out.2⟩
end Go.Proofs.YtckbdnkonccmiaaDoor
