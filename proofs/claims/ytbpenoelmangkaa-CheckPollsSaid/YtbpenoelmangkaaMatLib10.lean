/-
  The program's Right, walked.
-/
import Derived.Test.YtbpenoelmangkaaMatLib9
namespace Go.Proofs.Ytbpenoelmangkaa
open Go.RowKit
set_option maxHeartbeats 4000000 in
set_option maxRecDepth 100000 in
theorem lRight_any (w : World) (m : Mat) (vd vp vc ve : Value) (h : MatAt w m vd vp vc ve) (hm : MatSmall m) :
    Calls Try.prog 29 #[m.val vd vp vc ve] w (Tells (RightP m) w) := by
  obtain ⟨r, wt, bk, cy, key, ds, ps, cs, es⟩ := m
  obtain ⟨Ad, cd, e, hcd, -⟩ := id h.1
  simp only at e
  subst e
  obtain ⟨Ap, cp, e, hcp, -⟩ := id h.2.1
  simp only at e
  subst e
  obtain ⟨Ac, cc, e, hcc, -⟩ := id h.2.2.1.1
  simp only at e
  subst e
  obtain ⟨Ae, ce, e, hce, -⟩ := id h.2.2.2.1
  simp only at e
  subst e
  have HL := Lib.hid h
  have HM := Lib.hid hm
  clear h hm
  unfold Mat.val
  simp only
  go_enter Try.func29, Try.ntmps29
  obtain ⟨m, hmm⟩ : ∃ m : Mat, m = ⟨r, wt, bk, cy, key, ds, ps, cs, es⟩ := ⟨_, rfl⟩
  have HMM := Lib.hid hmm
  clear hmm
  have HQ : Hid (Below w.heap.size w (w.alloc (.cells #[.int .i64 r, .int .i64 wt, .int .i64 bk, .int .i64 cy, .string key, .slice Ad ds.length cd, .slice Ap ps.length cp, .slice Ac cs.length cc, .slice Ae es.length ce] 27)) ∧ Words.Blk (w.alloc (.cells #[.int .i64 r, .int .i64 wt, .int .i64 bk, .int .i64 cy, .string key, .slice Ad ds.length cd, .slice Ap ps.length cp, .slice Ac cs.length cc, .slice Ae es.length ce] 27)) w.heap.size 27 #[.int .i64 r, .int .i64 wt, .int .i64 bk, .int .i64 cy, .string key, .slice Ad ds.length cd, .slice Ap ps.length cp, .slice Ac cs.length cc, .slice Ae es.length ce]) := Lib.hid ⟨(Below.refl _ _).alloc (Nat.le_refl _) _, Words.Blk.new w _ _⟩
  by_cases ld : (ds.length : Int) ≤ 4
  case neg =>
    have HNO : Hid (¬ RightP ⟨r, wt, bk, cy, key, ds, ps, cs, es⟩) := Lib.hid (fun hp => ld (by have := hp.2.2.1.1; simp only at this; omega))
    go_wp2_with fail
    go_ret
    exact tells_no HNO.out HQ.out.1
  by_cases lp : (ps.length : Int) ≤ 16
  case neg =>
    have HNO : Hid (¬ RightP ⟨r, wt, bk, cy, key, ds, ps, cs, es⟩) := Lib.hid (fun hp => lp (by have := hp.2.2.2.1.1; simp only at this; omega))
    go_wp2_with fail
    go_ret
    exact tells_no HNO.out HQ.out.1
  by_cases lc : (cs.length : Int) ≤ 8
  case neg =>
    have HNO : Hid (¬ RightP ⟨r, wt, bk, cy, key, ds, ps, cs, es⟩) := Lib.hid (fun hp => lc (by have := hp.2.2.2.2.1.1; simp only at this; omega))
    go_wp2_with fail
    go_ret
    exact tells_no HNO.out HQ.out.1
  by_cases le : (es.length : Int) ≤ 8
  case neg =>
    have HNO : Hid (¬ RightP ⟨r, wt, bk, cy, key, ds, ps, cs, es⟩) := Lib.hid (fun hp => le (by have := hp.2.2.2.2.2.1.1; simp only at this; omega))
    go_wp2_with fail
    go_ret
    exact tells_no HNO.out HQ.out.1
  go_wp2_with fail
  have hsm : ds.length + ps.length + cs.length + es.length ≤ 1000 := by omega
  refine (times_any _ ⟨r, wt, bk, cy, key, ds, ps, cs, es⟩ _ _ _ _ (MatAt.below HL.out HQ.out.1)).mono ?_
  rintro e w0 ⟨b1, rfl, hb1, hB⟩
  have HQ : Hid (Below w.heap.size w w0 ∧ Words.Blk w0 w.heap.size 27 #[.int .i64 r, .int .i64 wt, .int .i64 bk, .int .i64 cy, .string key, .slice Ad ds.length cd, .slice Ap ps.length cp, .slice Ac cs.length cc, .slice Ae es.length ce]) := Lib.hid ⟨HQ.out.1.trans (hB.mono HQ.out.1.size), HQ.out.2.below hB HQ.out.2.lt⟩
  have HC := Lib.hid hb1
  clear hb1 hB
  cases b1 with
  | false =>
    have HNO : Hid (¬ RightP ⟨r, wt, bk, cy, key, ds, ps, cs, es⟩) := Lib.hid (fun hp => by have := HC.out.2 hp.1; cases this)
    go_wp2_with fail
    go_ret
    exact tells_no HNO.out HQ.out.1
  | true =>
  have P0 := Lib.hid (HC.out.1 rfl)
  clear HC
  have z0 : w0.cell? ⟨w.heap.size, 0, none⟩ = some (.int .i64 r) := HQ.out.2.cell 0
  have z1 : w0.cell? ⟨w.heap.size, 1, none⟩ = some (.int .i64 wt) := HQ.out.2.cell 1
  have z2 : w0.cell? ⟨w.heap.size, 2, none⟩ = some (.int .i64 bk) := HQ.out.2.cell 2
  have z3 : w0.cell? ⟨w.heap.size, 3, none⟩ = some (.int .i64 cy) := HQ.out.2.cell 3
  have z4 : w0.cell? ⟨w.heap.size, 4, none⟩ = some (.string key) := HQ.out.2.cell 4
  have z5 : w0.cell? ⟨w.heap.size, 5, none⟩ = some (.slice Ad ds.length cd) := HQ.out.2.cell 5
  have z6 : w0.cell? ⟨w.heap.size, 6, none⟩ = some (.slice Ap ps.length cp) := HQ.out.2.cell 6
  have z7 : w0.cell? ⟨w.heap.size, 7, none⟩ = some (.slice Ac cs.length cc) := HQ.out.2.cell 7
  have z8 : w0.cell? ⟨w.heap.size, 8, none⟩ = some (.slice Ae es.length ce) := HQ.out.2.cell 8
  go_wp2_with fail
  refine (keyed_any _ key HM.out.key).mono ?_
  rintro e wk ⟨rfl, rfl⟩
  obtain ⟨kb, hkb⟩ : ∃ b, keyB key = b := ⟨_, rfl⟩
  rw [hkb]
  have HKB := Lib.hid hkb
  clear hkb
  cases kb with
  | false =>
    have HNO : Hid (¬ RightP ⟨r, wt, bk, cy, key, ds, ps, cs, es⟩) := Lib.hid (fun hp => by have := hp.2.1; rw [show keyB key = false from HKB.out] at this; cases this)
    go_wp2_with fail
    go_ret
    exact tells_no HNO.out HQ.out.1
  | true =>
  go_wp2_with fail
  clear z0 z1 z2 z3 z4 z5 z6 z7 z8
  refine (named_any _ ⟨r, wt, bk, cy, key, ds, ps, cs, es⟩ _ _ _ _ (MatAt.below HL.out HQ.out.1) hsm HM.out.names).mono ?_
  rintro e w2 ⟨b1, rfl, hb1, hB⟩
  have HQ : Hid (Below w.heap.size w w2 ∧ Words.Blk w2 w.heap.size 27 #[.int .i64 r, .int .i64 wt, .int .i64 bk, .int .i64 cy, .string key, .slice Ad ds.length cd, .slice Ap ps.length cp, .slice Ac cs.length cc, .slice Ae es.length ce]) := Lib.hid ⟨HQ.out.1.trans (hB.mono HQ.out.1.size), HQ.out.2.below hB HQ.out.2.lt⟩
  have HC := Lib.hid hb1
  clear hb1 hB
  cases b1 with
  | false =>
    have HNO : Hid (¬ RightP ⟨r, wt, bk, cy, key, ds, ps, cs, es⟩) := Lib.hid (fun hp => by have := HC.out.2 hp.2.2.2.2.2.2; cases this)
    go_wp2_with fail
    go_ret
    exact tells_no HNO.out HQ.out.1
  | true =>
  have P2 := Lib.hid (HC.out.1 rfl)
  clear HC
  have z0 : w2.cell? ⟨w.heap.size, 0, none⟩ = some (.int .i64 r) := HQ.out.2.cell 0
  have z1 : w2.cell? ⟨w.heap.size, 1, none⟩ = some (.int .i64 wt) := HQ.out.2.cell 1
  have z2 : w2.cell? ⟨w.heap.size, 2, none⟩ = some (.int .i64 bk) := HQ.out.2.cell 2
  have z3 : w2.cell? ⟨w.heap.size, 3, none⟩ = some (.int .i64 cy) := HQ.out.2.cell 3
  have z4 : w2.cell? ⟨w.heap.size, 4, none⟩ = some (.string key) := HQ.out.2.cell 4
  have z5 : w2.cell? ⟨w.heap.size, 5, none⟩ = some (.slice Ad ds.length cd) := HQ.out.2.cell 5
  have z6 : w2.cell? ⟨w.heap.size, 6, none⟩ = some (.slice Ap ps.length cp) := HQ.out.2.cell 6
  have z7 : w2.cell? ⟨w.heap.size, 7, none⟩ = some (.slice Ac cs.length cc) := HQ.out.2.cell 7
  have z8 : w2.cell? ⟨w.heap.size, 8, none⟩ = some (.slice Ae es.length ce) := HQ.out.2.cell 8
  go_wp2_with fail
  clear z0 z1 z2 z3 z4 z5 z6 z7 z8
  refine (ldevices_any _ ⟨r, wt, bk, cy, key, ds, ps, cs, es⟩ _ _ _ _ (MatAt.below HL.out HQ.out.1) HM.out).mono ?_
  rintro e w3 ⟨b1, rfl, hb1, hB⟩
  have HQ : Hid (Below w.heap.size w w3 ∧ Words.Blk w3 w.heap.size 27 #[.int .i64 r, .int .i64 wt, .int .i64 bk, .int .i64 cy, .string key, .slice Ad ds.length cd, .slice Ap ps.length cp, .slice Ac cs.length cc, .slice Ae es.length ce]) := Lib.hid ⟨HQ.out.1.trans (hB.mono HQ.out.1.size), HQ.out.2.below hB HQ.out.2.lt⟩
  have HC := Lib.hid hb1
  clear hb1 hB
  cases b1 with
  | false =>
    have HNO : Hid (¬ RightP ⟨r, wt, bk, cy, key, ds, ps, cs, es⟩) := Lib.hid (fun hp => by have := HC.out.2 hp.2.2.1.2; cases this)
    go_wp2_with fail
    go_ret
    exact tells_no HNO.out HQ.out.1
  | true =>
  have P3 := Lib.hid (HC.out.1 rfl)
  clear HC
  have z0 : w3.cell? ⟨w.heap.size, 0, none⟩ = some (.int .i64 r) := HQ.out.2.cell 0
  have z1 : w3.cell? ⟨w.heap.size, 1, none⟩ = some (.int .i64 wt) := HQ.out.2.cell 1
  have z2 : w3.cell? ⟨w.heap.size, 2, none⟩ = some (.int .i64 bk) := HQ.out.2.cell 2
  have z3 : w3.cell? ⟨w.heap.size, 3, none⟩ = some (.int .i64 cy) := HQ.out.2.cell 3
  have z4 : w3.cell? ⟨w.heap.size, 4, none⟩ = some (.string key) := HQ.out.2.cell 4
  have z5 : w3.cell? ⟨w.heap.size, 5, none⟩ = some (.slice Ad ds.length cd) := HQ.out.2.cell 5
  have z6 : w3.cell? ⟨w.heap.size, 6, none⟩ = some (.slice Ap ps.length cp) := HQ.out.2.cell 6
  have z7 : w3.cell? ⟨w.heap.size, 7, none⟩ = some (.slice Ac cs.length cc) := HQ.out.2.cell 7
  have z8 : w3.cell? ⟨w.heap.size, 8, none⟩ = some (.slice Ae es.length ce) := HQ.out.2.cell 8
  go_wp2_with fail
  clear z0 z1 z2 z3 z4 z5 z6 z7 z8
  refine (lpoints_any _ ⟨r, wt, bk, cy, key, ds, ps, cs, es⟩ _ _ _ _ (MatAt.below HL.out HQ.out.1) HM.out).mono ?_
  rintro e w4 ⟨b1, rfl, hb1, hB⟩
  have HQ : Hid (Below w.heap.size w w4 ∧ Words.Blk w4 w.heap.size 27 #[.int .i64 r, .int .i64 wt, .int .i64 bk, .int .i64 cy, .string key, .slice Ad ds.length cd, .slice Ap ps.length cp, .slice Ac cs.length cc, .slice Ae es.length ce]) := Lib.hid ⟨HQ.out.1.trans (hB.mono HQ.out.1.size), HQ.out.2.below hB HQ.out.2.lt⟩
  have HC := Lib.hid hb1
  clear hb1 hB
  cases b1 with
  | false =>
    have HNO : Hid (¬ RightP ⟨r, wt, bk, cy, key, ds, ps, cs, es⟩) := Lib.hid (fun hp => by have := HC.out.2 hp.2.2.2.1.2; cases this)
    go_wp2_with fail
    go_ret
    exact tells_no HNO.out HQ.out.1
  | true =>
  have P4 := Lib.hid (HC.out.1 rfl)
  clear HC
  have z0 : w4.cell? ⟨w.heap.size, 0, none⟩ = some (.int .i64 r) := HQ.out.2.cell 0
  have z1 : w4.cell? ⟨w.heap.size, 1, none⟩ = some (.int .i64 wt) := HQ.out.2.cell 1
  have z2 : w4.cell? ⟨w.heap.size, 2, none⟩ = some (.int .i64 bk) := HQ.out.2.cell 2
  have z3 : w4.cell? ⟨w.heap.size, 3, none⟩ = some (.int .i64 cy) := HQ.out.2.cell 3
  have z4 : w4.cell? ⟨w.heap.size, 4, none⟩ = some (.string key) := HQ.out.2.cell 4
  have z5 : w4.cell? ⟨w.heap.size, 5, none⟩ = some (.slice Ad ds.length cd) := HQ.out.2.cell 5
  have z6 : w4.cell? ⟨w.heap.size, 6, none⟩ = some (.slice Ap ps.length cp) := HQ.out.2.cell 6
  have z7 : w4.cell? ⟨w.heap.size, 7, none⟩ = some (.slice Ac cs.length cc) := HQ.out.2.cell 7
  have z8 : w4.cell? ⟨w.heap.size, 8, none⟩ = some (.slice Ae es.length ce) := HQ.out.2.cell 8
  go_wp2_with fail
  clear z0 z1 z2 z3 z4 z5 z6 z7 z8
  refine (lcauses_any _ ⟨r, wt, bk, cy, key, ds, ps, cs, es⟩ _ _ _ _ (MatAt.below HL.out HQ.out.1) HM.out).mono ?_
  rintro e w5 ⟨b1, rfl, hb1, hB⟩
  have HQ : Hid (Below w.heap.size w w5 ∧ Words.Blk w5 w.heap.size 27 #[.int .i64 r, .int .i64 wt, .int .i64 bk, .int .i64 cy, .string key, .slice Ad ds.length cd, .slice Ap ps.length cp, .slice Ac cs.length cc, .slice Ae es.length ce]) := Lib.hid ⟨HQ.out.1.trans (hB.mono HQ.out.1.size), HQ.out.2.below hB HQ.out.2.lt⟩
  have HC := Lib.hid hb1
  clear hb1 hB
  cases b1 with
  | false =>
    have HNO : Hid (¬ RightP ⟨r, wt, bk, cy, key, ds, ps, cs, es⟩) := Lib.hid (fun hp => by have := HC.out.2 hp.2.2.2.2.1.2; cases this)
    go_wp2_with fail
    go_ret
    exact tells_no HNO.out HQ.out.1
  | true =>
  have P5 := Lib.hid (HC.out.1 rfl)
  clear HC
  have z0 : w5.cell? ⟨w.heap.size, 0, none⟩ = some (.int .i64 r) := HQ.out.2.cell 0
  have z1 : w5.cell? ⟨w.heap.size, 1, none⟩ = some (.int .i64 wt) := HQ.out.2.cell 1
  have z2 : w5.cell? ⟨w.heap.size, 2, none⟩ = some (.int .i64 bk) := HQ.out.2.cell 2
  have z3 : w5.cell? ⟨w.heap.size, 3, none⟩ = some (.int .i64 cy) := HQ.out.2.cell 3
  have z4 : w5.cell? ⟨w.heap.size, 4, none⟩ = some (.string key) := HQ.out.2.cell 4
  have z5 : w5.cell? ⟨w.heap.size, 5, none⟩ = some (.slice Ad ds.length cd) := HQ.out.2.cell 5
  have z6 : w5.cell? ⟨w.heap.size, 6, none⟩ = some (.slice Ap ps.length cp) := HQ.out.2.cell 6
  have z7 : w5.cell? ⟨w.heap.size, 7, none⟩ = some (.slice Ac cs.length cc) := HQ.out.2.cell 7
  have z8 : w5.cell? ⟨w.heap.size, 8, none⟩ = some (.slice Ae es.length ce) := HQ.out.2.cell 8
  go_wp2_with fail
  clear z0 z1 z2 z3 z4 z5 z6 z7 z8
  refine (leffects_any _ ⟨r, wt, bk, cy, key, ds, ps, cs, es⟩ _ _ _ _ (MatAt.below HL.out HQ.out.1) HM.out).mono ?_
  rintro e w6 ⟨b1, rfl, hb1, hB⟩
  have HQ : Hid (Below w.heap.size w w6 ∧ Words.Blk w6 w.heap.size 27 #[.int .i64 r, .int .i64 wt, .int .i64 bk, .int .i64 cy, .string key, .slice Ad ds.length cd, .slice Ap ps.length cp, .slice Ac cs.length cc, .slice Ae es.length ce]) := Lib.hid ⟨HQ.out.1.trans (hB.mono HQ.out.1.size), HQ.out.2.below hB HQ.out.2.lt⟩
  have HC := Lib.hid hb1
  clear hb1 hB
  cases b1 with
  | false =>
    have HNO : Hid (¬ RightP ⟨r, wt, bk, cy, key, ds, ps, cs, es⟩) := Lib.hid (fun hp => by have := HC.out.2 hp.2.2.2.2.2.1.2; cases this)
    go_wp2_with fail
    go_ret
    exact tells_no HNO.out HQ.out.1
  | true =>
  have P6 := Lib.hid (HC.out.1 rfl)
  clear HC
  have HR : Hid (RightP ⟨r, wt, bk, cy, key, ds, ps, cs, es⟩) := Lib.hid ⟨P0.out, HKB.out, ⟨by simp only; omega, P3.out⟩, ⟨by simp only; omega, P4.out⟩, ⟨by simp only; omega, P5.out⟩, ⟨by simp only; omega, P6.out⟩, P2.out⟩
  go_wp2_with fail
  go_ret
  exact tells_yes HR.out HQ.out.1
end Go.Proofs.Ytbpenoelmangkaa
