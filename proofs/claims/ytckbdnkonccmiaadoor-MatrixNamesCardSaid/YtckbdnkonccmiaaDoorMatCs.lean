/-
  THE WALK of the reader's method for a line of a kind: cause.
-/
import Derived.Test.YtckbdnkonccmiaaDoorMatLv
namespace Go.Proofs.YtckbdnkonccmiaaDoor
open Go.RowKit
def causeF (kn : Kn) (s : Row) (v : Value) : Cs × Row :=
  let a0 := nameS kn s
  let a1 := numS a0.2
  let a2 := lampS a1.2
  let a3 := numS a2.2
  let a4 := restS kn 1 a3.2
  (⟨a0.1, a1.1, a2.1, a3.1, v, a4.1⟩, a4.2)
set_option maxHeartbeats 4000000 in
set_option maxRecDepth 100000 in
theorem cause_any (c : RC) (s : Row) (w : World) (h : RSS c s w) (hf : Fits s.1) (hN : c.N < 1000000) (hm : c.m.css.length ≤ 100000) :
    Calls Tryd.prog 57 #[.pointer (some ⟨c.g, 0, none⟩)] w fun e w' => e = .returned (.tuple #[]) ∧ ∃ v v', RSS { c.put (causeF c.kn s v).1.name (2, (c.m.css.length : Int)) with m := { c.m with css := c.m.css ++ [(causeF c.kn s v).1] }, vc := v' } (causeF c.kn s v).2 w' := by
  unfold causeF
  simp only
  have HL := Lib.hid (LV.new h #[.string (ByteArray.mk #[]), .int .i64 0, .int .i64 0, .int .i64 0, .slice none 0 0] 43)
  obtain ⟨i0, hi0, hz0, hz1, hz2⟩ := cs_parts
  clear h
  go_enter Tryd.func57, Tryd.ntmps57
  go_wp2_with fail
  refine (name_S c s _ HL.out.rs hf).mono ?_
  rintro e w1 ⟨rfl, hr, hg⟩
  have HL := Lib.hid (HL.out.call hr hg)
  have d0 := HL.out.blk.cell 0
  have e0 := HL.out.blk.frozen 0
  have hf0 := nameS_fits (kn := c.kn) (s := s) hf
  obtain ⟨a0, HA0⟩ : ∃ a, Hid (a = nameS c.kn s) := ⟨_, Lib.hid rfl⟩
  rw [← HA0.out] at HL hf0 ⊢
  simp only [List.getElem?_toArray, List.getElem?_cons_zero] at d0
  clear hr hg
  go_wp2_with fail
  have HL := Lib.hid (HL.out.store 0 (.string a0.1))
  clear d0 e0
  refine (num_S c a0.2 _ HL.out.rs hf0).mono ?_
  rintro e w2 ⟨rfl, hr, hg⟩
  have HL := Lib.hid (HL.out.call hr hg)
  have d0 := HL.out.blk.cell 1
  have e0 := HL.out.blk.frozen 1
  have hf1 := numS_fits (s := a0.2) hf0
  obtain ⟨a1, HA1⟩ : ∃ a, Hid (a = numS a0.2) := ⟨_, Lib.hid rfl⟩
  rw [← HA1.out] at HL hf1 ⊢
  simp only [List.setIfInBounds_toArray, List.set_cons_zero, List.getElem?_toArray, List.getElem?_cons_zero, List.getElem?_cons_succ] at d0
  clear hr hg
  go_wp2_with fail
  have HL := Lib.hid (HL.out.store 1 (.int .i64 a1.1))
  clear d0 e0
  refine (lamp_S c a1.2 _ HL.out.rs hf1).mono ?_
  rintro e w3 ⟨rfl, hr, hg⟩
  have HL := Lib.hid (HL.out.call hr hg)
  have d0 := HL.out.blk.cell 2
  have e0 := HL.out.blk.frozen 2
  have hf2 := lampS_fits (s := a1.2) hf1
  obtain ⟨a2, HA2⟩ : ∃ a, Hid (a = lampS a1.2) := ⟨_, Lib.hid rfl⟩
  rw [← HA2.out] at HL hf2 ⊢
  simp only [List.setIfInBounds_toArray, List.set_cons_zero, List.set_cons_succ, List.getElem?_toArray, List.getElem?_cons_zero, List.getElem?_cons_succ] at d0
  clear hr hg
  go_wp2_with fail
  have HL := Lib.hid (HL.out.store 2 (.int .i64 a2.1))
  clear d0 e0
  refine (num64_S c a2.2 _ HL.out.rs hf2).mono ?_
  rintro e w4 ⟨rfl, hr, hg⟩
  have HL := Lib.hid (HL.out.call hr hg)
  have d0 := HL.out.blk.cell 3
  have e0 := HL.out.blk.frozen 3
  have hf3 := numS_fits (s := a2.2) hf2
  obtain ⟨a3, HA3⟩ : ∃ a, Hid (a = numS a2.2) := ⟨_, Lib.hid rfl⟩
  rw [← HA3.out] at HL hf3 ⊢
  simp only [List.setIfInBounds_toArray, List.set_cons_zero, List.set_cons_succ, List.getElem?_toArray, List.getElem?_cons_zero, List.getElem?_cons_succ] at d0
  clear hr hg
  go_wp2_with fail
  have HL := Lib.hid (HL.out.store 3 (.int .i64 a3.1))
  clear d0 e0
  refine (rest_S c 1 a3.2 _ HL.out.rs hf3).mono ?_
  rintro e w5 ⟨RA, Rn, Rc, rfl, hrn, hro, hr, hg⟩
  have HRN := Lib.hid hrn
  have HRO := Lib.hid hro
  have HL := Lib.hid (HL.out.call hr hg)
  have d0 := HL.out.blk.cell 4
  have e0 := HL.out.blk.frozen 4
  have hf4 := restS_fits (kn := c.kn) (s := a3.2) (kind := 1) hf3
  obtain ⟨a4, HA4⟩ : ∃ a, Hid (a = restS c.kn 1 a3.2) := ⟨_, Lib.hid rfl⟩
  rw [← HA4.out] at HL hf4 HRN HRO
  simp only [List.setIfInBounds_toArray, List.set_cons_zero, List.set_cons_succ, List.getElem?_toArray, List.getElem?_cons_zero, List.getElem?_cons_succ] at d0
  clear hr hg hrn hro
  go_upto_region 6 with fail
  have HL0 := HL
  have HL : Hid (LV c w w.heap.size 43 #[.string a0.1, .int .i64 a1.1, .int .i64 a2.1, .int .i64 a3.1, .slice RA Rn Rc] a4.2 (w5.setCell ⟨w.heap.size, 4, none⟩ (.slice RA Rn Rc))) := Lib.hid (HL.out.store 4 (.slice RA Rn Rc))
  have HRK := Lib.hid (own_blk_keep HRO.out HL0.out.blk (by decide) 4 (.slice RA Rn Rc))
  clear d0 e0
  generalize w5.setCell ⟨w.heap.size, 4, none⟩ (.slice RA Rn Rc) = wq at *
  obtain ⟨vl, hr⟩ := HL.out.rs
  obtain ⟨Ad, cd, hvd⟩ := own_form hr.at_.cs
  have z9 : wq.cell? ⟨c.g, 9, none⟩ = some (.map (some c.mb)) := hr.cell 9
  have zi : wq.cell? ⟨c.g, 7, none⟩ = some (.slice Ad c.m.css.length cd) := by rw [← hvd]; exact hr.cell 7
  have d0 : wq.cell? ⟨w.heap.size, 0, none⟩ = some (.string a0.1) := HL.out.blk.cell 0
  have hml : a0.1.size ≤ maxLen := by rw [HA0.out]; have := nameS_size (kn := c.kn) (s := s) hf; simp only [maxLen]; omega
  have HVD := Lib.hid hvd
  have HR := Lib.hid hr
  clear hr hvd
  go_still_tail 13, (by kernel_rfl)
  change wpList _ _ _ _ _ wq.drew
  go_wp2_with (at_mapUpdate; refine wpList_put_at _ rfl (.tmp 27) (.tmp 29) (.tmp 36) 62 114 rfl Tryd.underlying62 (z := placeZ) (f := knV c.kn) rfl HR.out.drew.at_.mp (by simp only [maxLen]; omega) (u := placeV (2, (c.m.css.length : Int))) rfl rfl hml ?_; intro w5 hmv hgr; have HR5v := Lib.hid (RV.put HR.out.drew hmv hgr); have HB5 := Lib.hid (Words.Blk.grown (w := wq.drew) HL.out.blk hgr (fun e => map_blk_ne HR.out.at_.mp HL.out.blk (Option.some.inj e).symm)); have HR5 := Lib.hid ((HRK.out).kept (w := wq.drew) hgr (row_map_ne HR.out.at_.mp HRK.out)); clear hmv hgr z9 zi d0)
  have HIN : Hid (∃ B', w5.ownsRow B' 3 1 (.slice RA Rn Rc) a4.1.length (a4.1.flatMap nC)) := Lib.hid ⟨_, by rw [← HRN.out]; exact HR5.out⟩
  have zi : w5.cell? ⟨c.g, 7, none⟩ = some (.slice Ad c.m.css.length cd) := by rw [← HVD.out]; exact HR5v.out.cell 7
  have za : (w5.alloc (.cells #[.string a0.1, .int .i64 a1.1, .int .i64 a2.1, .int .i64 a3.1, .slice RA Rn Rc] 43)).cell? ⟨c.g, 7, none⟩ = some (.slice Ad c.m.css.length cd) := by rw [← HVD.out]; exact (HR5v.out.alloc _).cell 7
  have b0 := HB5.out.cell 0
  have b1 := HB5.out.cell 1
  have b2 := HB5.out.cell 2
  have b3 := HB5.out.cell 3
  have b4 := HB5.out.cell 4
  simp only [List.getElem?_toArray, List.getElem?_cons_zero, List.getElem?_cons_succ] at b0 b1 b2 b3 b4
  have HO := Lib.hid (one_cs ⟨a0.1, a1.1, a2.1, a3.1, .slice RA Rn Rc, a4.1⟩ RA Rn Rc rfl)
  have hwl : c.W.heap.size ≤ w5.heap.size := HR5v.out.old.size
  have how := HR5v.out.at_.cs
  rw [show (c.put a0.1 (2, (c.m.css.length : Int))).vc = .slice Ad c.m.css.length cd from HVD.out] at how
  have HOW : Hid (w5.ownsRow c.W.heap.size 43 5 (.slice Ad c.m.css.length cd) c.m.css.length (c.m.css.flatMap Cs.cells)) := Lib.hid how
  clear how
  go_upto_region 7 with fail
  go_region_law (first
    | (refine Words.step_append_any (w5.alloc (.cells #[.string a0.1, .int .i64 a1.1, .int .i64 a2.1, .int .i64 a3.1, .slice RA Rn Rc] 43)).drew (by rfl) (.tmp 42) (.tmp 44) 24 (by rfl) c.W.heap.size 43 i0 _ 5 64 Tryd.underlying24 hi0 hz0 hz1 hz2 rfl (by omega) (.slice Ad c.m.css.length cd) c.m.css.length (c.m.css.flatMap Cs.cells) (by rfl) (HOW.out.alloc _) (w5.heap.size + 1) (some ⟨w5.heap.size, 0, none⟩) 1 1 (Cs.cells ⟨a0.1, a1.1, a2.1, a3.1, .slice RA Rn Rc, a4.1⟩) (by rfl) (reads_cs w5.drew _ rfl ⟨a0.1, a1.1, a2.1, a3.1, .slice RA Rn Rc, a4.1⟩ _) HO.out (by simp only [maxLen]; omega) (by omega) (by show c.W.heap.size ≤ (w5.alloc _).heap.size; simp; omega) ?_; intro v' w6 ho hg _; rw [← HVD.out] at hg; obtain ⟨Av, cv, rfl⟩ := own_form ho; have HX := Lib.hid (RV.app_cs (w := w5.drew) HR5v.out.drew (x := ⟨a0.1, a1.1, a2.1, a3.1, .slice RA Rn Rc, a4.1⟩) HIN.out ho hg); have f5 : w6.frozen? ⟨c.g, 7, none⟩ = false := HX.out.1.frozen 7; have c5 : w6.cell? ⟨c.g, 7, none⟩ = some c.vc := HX.out.1.cell 7; clear ho hg))
  all_goals go_wp2_with fail
  all_goals go_end0
  all_goals rw [← HA0.out, ← HA1.out, ← HA2.out, ← HA3.out, ← HA4.out]
  all_goals exact ⟨rfl, .slice RA Rn Rc, _, _, HX.out.2⟩
end Go.Proofs.YtckbdnkonccmiaaDoor
