/-
  check: Age and Bound, walked.
-/
import Derived.Test.YtbpenoelmangkaaChkFns
namespace Go.Proofs.Ytbpenoelmangkaa
open Go.RowKit
set_option maxHeartbeats 4000000 in
set_option maxRecDepth 100000 in
theorem age_any (w : World) (m : Mat) (vd vp vc ve : Value) (h : MatAt w m vd vp vc ve) (hm : MatSmall m) (R : Int) (hR : RightP m → R = m.age) (hN : ¬ RightP m → R = 0) :
    Calls Try.prog 16 #[m.val vd vp vc ve] w fun e w' => e = .returned (.int .i64 R) ∧ Below w.heap.size w w' := by
  have HRR := Lib.hid hR
  have HNN := Lib.hid hN
  clear hR hN
  obtain ⟨r, wt, bk, cy, key, ds, ps, cs, es⟩ := m
  obtain ⟨Ad, cd, e, hcd, -⟩ := id h.1
  simp only at e
  subst e
  obtain ⟨Ap, cp, e, hcp, -⟩ := id h.2.1
  simp only at e
  subst e
  obtain ⟨Ac, cc, e, hcc, -⟩ := id h.2.2.1.1
  simp only at e
  subst e
  obtain ⟨Ae, ce, e, hce, -⟩ := id h.2.2.2.1
  simp only at e
  subst e
  have HL := Lib.hid h
  have HM := Lib.hid hm
  clear h hm
  unfold Mat.val
  simp only
  have HQ : Hid (Below w.heap.size w (w.alloc (.cells #[.int .i64 r, .int .i64 wt, .int .i64 bk, .int .i64 cy, .string key, .slice Ad ds.length cd, .slice Ap ps.length cp, .slice Ac cs.length cc, .slice Ae es.length ce] 27)) ∧ Words.Blk (w.alloc (.cells #[.int .i64 r, .int .i64 wt, .int .i64 bk, .int .i64 cy, .string key, .slice Ad ds.length cd, .slice Ap ps.length cp, .slice Ac cs.length cc, .slice Ae es.length ce] 27)) w.heap.size 27 #[.int .i64 r, .int .i64 wt, .int .i64 bk, .int .i64 cy, .string key, .slice Ad ds.length cd, .slice Ap ps.length cp, .slice Ac cs.length cc, .slice Ae es.length ce]) := Lib.hid ⟨(Below.refl _ _).alloc (Nat.le_refl _) _, Words.Blk.new w _ _⟩
  go_enter Try.func16, Try.ntmps16
  go_wp2_with fail
  refine (lRight_any _ ⟨r, wt, bk, cy, key, ds, ps, cs, es⟩ _ _ _ _ (MatAt.below HL.out HQ.out.1) HM.out).mono ?_
  rintro e w1 ⟨b1, rfl, hb1, hB⟩
  have HQ : Hid (Below w.heap.size w w1 ∧ Words.Blk w1 w.heap.size 27 #[.int .i64 r, .int .i64 wt, .int .i64 bk, .int .i64 cy, .string key, .slice Ad ds.length cd, .slice Ap ps.length cp, .slice Ac cs.length cc, .slice Ae es.length ce]) := Lib.hid ⟨HQ.out.1.trans (hB.mono HQ.out.1.size), HQ.out.2.below hB HQ.out.2.lt⟩
  have HC := Lib.hid hb1
  clear hb1 hB
  cases b1 with
  | false =>
    have HNO : Hid (R = 0) := Lib.hid (HNN.out (fun hp => by have := HC.out.2 hp; cases this))
    go_wp2_with fail
    go_ret
    exact ⟨by rw [HNO.out]; rfl, HQ.out.1⟩
  | true =>
  have HR := Lib.hid (HC.out.1 rfl)
  have HA := Lib.hid (HRR.out HR.out)
  clear HC HNN HRR
  obtain ⟨J, hJ⟩ : ∃ J, J = Mat.jobs ⟨r, wt, bk, cy, key, ds, ps, cs, es⟩ := ⟨_, rfl⟩
  obtain ⟨E, hE⟩ : ∃ E, E = Mat.each ⟨r, wt, bk, cy, key, ds, ps, cs, es⟩ := ⟨_, rfl⟩
  obtain ⟨P, hP⟩ : ∃ P, P = J * E := ⟨_, rfl⟩
  have hPi : 4 ≤ P ∧ P ≤ 176022 := by rw [hP, hJ, hE]; exact prod_in HR.out
  have HA2 : Hid (R = bk + cy + P) := Lib.hid (by rw [HA.out, hP, hJ, hE]; rfl)
  have HJ := Lib.hid hJ
  have HE := Lib.hid hE
  have HP := Lib.hid hP
  obtain ⟨-, -, ⟨b1, b2⟩, b3, b4⟩ := HR.out.1
  simp only at b1 b2 b3 b4
  have hw1 : IntKind.i64.wrap (bk + cy) = bk + cy := IntWalk.i64_in _ (by omega)
  have hw2 : IntKind.i64.wrap (J * E) = P := by rw [← hP]; exact IntWalk.i64_in _ (by omega)
  have hw3 : IntKind.i64.wrap (bk + cy + P) = bk + cy + P := IntWalk.i64_in _ (by omega)
  clear hJ hE hP HA
  have z0 : w1.cell? ⟨w.heap.size, 0, none⟩ = some (.int .i64 r) := HQ.out.2.cell 0
  have z1 : w1.cell? ⟨w.heap.size, 1, none⟩ = some (.int .i64 wt) := HQ.out.2.cell 1
  have z2 : w1.cell? ⟨w.heap.size, 2, none⟩ = some (.int .i64 bk) := HQ.out.2.cell 2
  have z3 : w1.cell? ⟨w.heap.size, 3, none⟩ = some (.int .i64 cy) := HQ.out.2.cell 3
  have z4 : w1.cell? ⟨w.heap.size, 4, none⟩ = some (.string key) := HQ.out.2.cell 4
  have z5 : w1.cell? ⟨w.heap.size, 5, none⟩ = some (.slice Ad ds.length cd) := HQ.out.2.cell 5
  have z6 : w1.cell? ⟨w.heap.size, 6, none⟩ = some (.slice Ap ps.length cp) := HQ.out.2.cell 6
  have z7 : w1.cell? ⟨w.heap.size, 7, none⟩ = some (.slice Ac cs.length cc) := HQ.out.2.cell 7
  have z8 : w1.cell? ⟨w.heap.size, 8, none⟩ = some (.slice Ae es.length ce) := HQ.out.2.cell 8
  go_upto_region 3 with fail
  have HS : Hid (Below w.heap.size w w1.drew ∧ Words.Blk w1.drew w.heap.size 27 #[.int .i64 r, .int .i64 wt, .int .i64 bk, .int .i64 cy, .string key, .slice Ad ds.length cd, .slice Ap ps.length cp, .slice Ac cs.length cc, .slice Ae es.length ce]) := Lib.hid ⟨HQ.out.1.drew, HQ.out.2.drew⟩
  clear HQ
  go_region_held3 (fun w' => w'.cell? ⟨w.heap.size, 0, none⟩ = some (.int .i64 r) ∧ w'.cell? ⟨w.heap.size, 1, none⟩ = some (.int .i64 wt) ∧ w'.cell? ⟨w.heap.size, 2, none⟩ = some (.int .i64 bk) ∧ w'.cell? ⟨w.heap.size, 3, none⟩ = some (.int .i64 cy) ∧ w'.cell? ⟨w.heap.size, 4, none⟩ = some (.string key) ∧ w'.cell? ⟨w.heap.size, 5, none⟩ = some (.slice Ad ds.length cd) ∧ w'.cell? ⟨w.heap.size, 6, none⟩ = some (.slice Ap ps.length cp) ∧ w'.cell? ⟨w.heap.size, 7, none⟩ = some (.slice Ac cs.length cc) ∧ w'.cell? ⟨w.heap.size, 8, none⟩ = some (.slice Ae es.length ce))
    (exact ⟨z0, z1, z2, z3, z4, z5, z6, z7, z8⟩)
    (first
      | (go_at_call 39; refine (jobs_any _ r wt bk cy key ds ps cs es Ad Ap Ac Ae cd cp cc ce HR.out J HJ.out).mono ?_; rintro e w6 ⟨rfl, hb⟩; have HS : Hid (Below w.heap.size w w6 ∧ Words.Blk w6 w.heap.size 27 #[.int .i64 r, .int .i64 wt, .int .i64 bk, .int .i64 cy, .string key, .slice Ad ds.length cd, .slice Ap ps.length cp, .slice Ac cs.length cc, .slice Ae es.length ce]) := Lib.hid ⟨HS.out.1.trans (hb.mono HS.out.1.size), HS.out.2.below hb HS.out.2.lt⟩; have z0 : w6.cell? ⟨w.heap.size, 0, none⟩ = some (.int .i64 r) := HS.out.2.cell 0; have z1 : w6.cell? ⟨w.heap.size, 1, none⟩ = some (.int .i64 wt) := HS.out.2.cell 1; have z2 : w6.cell? ⟨w.heap.size, 2, none⟩ = some (.int .i64 bk) := HS.out.2.cell 2; have z3 : w6.cell? ⟨w.heap.size, 3, none⟩ = some (.int .i64 cy) := HS.out.2.cell 3; have z4 : w6.cell? ⟨w.heap.size, 4, none⟩ = some (.string key) := HS.out.2.cell 4; have z5 : w6.cell? ⟨w.heap.size, 5, none⟩ = some (.slice Ad ds.length cd) := HS.out.2.cell 5; have z6 : w6.cell? ⟨w.heap.size, 6, none⟩ = some (.slice Ap ps.length cp) := HS.out.2.cell 6; have z7 : w6.cell? ⟨w.heap.size, 7, none⟩ = some (.slice Ac cs.length cc) := HS.out.2.cell 7; have z8 : w6.cell? ⟨w.heap.size, 8, none⟩ = some (.slice Ae es.length ce) := HS.out.2.cell 8; clear hb)
      | (go_at_call 40; refine (each_any _ r wt bk cy key ds ps cs es Ad Ap Ac Ae cd cp cc ce HR.out E HE.out).mono ?_; rintro e w6 ⟨rfl, hb⟩; have HS : Hid (Below w.heap.size w w6 ∧ Words.Blk w6 w.heap.size 27 #[.int .i64 r, .int .i64 wt, .int .i64 bk, .int .i64 cy, .string key, .slice Ad ds.length cd, .slice Ap ps.length cp, .slice Ac cs.length cc, .slice Ae es.length ce]) := Lib.hid ⟨HS.out.1.trans (hb.mono HS.out.1.size), HS.out.2.below hb HS.out.2.lt⟩; have z0 : w6.cell? ⟨w.heap.size, 0, none⟩ = some (.int .i64 r) := HS.out.2.cell 0; have z1 : w6.cell? ⟨w.heap.size, 1, none⟩ = some (.int .i64 wt) := HS.out.2.cell 1; have z2 : w6.cell? ⟨w.heap.size, 2, none⟩ = some (.int .i64 bk) := HS.out.2.cell 2; have z3 : w6.cell? ⟨w.heap.size, 3, none⟩ = some (.int .i64 cy) := HS.out.2.cell 3; have z4 : w6.cell? ⟨w.heap.size, 4, none⟩ = some (.string key) := HS.out.2.cell 4; have z5 : w6.cell? ⟨w.heap.size, 5, none⟩ = some (.slice Ad ds.length cd) := HS.out.2.cell 5; have z6 : w6.cell? ⟨w.heap.size, 6, none⟩ = some (.slice Ap ps.length cp) := HS.out.2.cell 6; have z7 : w6.cell? ⟨w.heap.size, 7, none⟩ = some (.slice Ac cs.length cc) := HS.out.2.cell 7; have z8 : w6.cell? ⟨w.heap.size, 8, none⟩ = some (.slice Ae es.length ce) := HS.out.2.cell 8; clear hb))
  all_goals go_wp2_with fail
  all_goals go_ret
  all_goals exact ⟨by rw [HA2.out]; rfl, HS.out.1⟩
end Go.Proofs.Ytbpenoelmangkaa
