/-
  The document's Right, walked.
-/
import Derived.Test.YtbpenoelmangkaaMatRef7
namespace Go.Proofs.Ytbpenoelmangkaa
open Go.RowKit
/-- within the form's own reach -/
structure MatSmall (m : Mat) : Prop where
  key : m.key.size ≤ 1125899906842624
  devs : m.devs.length ≤ 1125899906842624
  pts : m.pts.length ≤ 1125899906842624
  css : m.css.length ≤ 1125899906842624
  efs : m.efs.length ≤ 1125899906842624
  cpts : ∀ c ∈ m.css, c.pts.length ≤ 1125899906842624
  ecs : ∀ c ∈ m.efs, c.cs.length ≤ 1125899906842624
  names : ∀ s ∈ m.names, s.size ≤ 1125899906842624
set_option maxHeartbeats 4000000 in
set_option maxRecDepth 100000 in
theorem rRight_any (w : World) (m : Mat) (vd vp vc ve : Value) (h : MatAt w m vd vp vc ve) (hm : MatSmall m) :
    Calls Try.prog 9 #[m.val vd vp vc ve] w (Tells (RightP m) w) := by
  obtain ⟨r, wt, bk, cy, key, ds, ps, cs, es⟩ := m
  obtain ⟨Ad, cd, e, hcd, -⟩ := id h.1
  simp only at e
  subst e
  obtain ⟨Ap, cp, e, hcp, -⟩ := id h.2.1
  simp only at e
  subst e
  obtain ⟨Ac, cc, e, hcc, -⟩ := id h.2.2.1.1
  simp only at e
  subst e
  obtain ⟨Ae, ce, e, hce, -⟩ := id h.2.2.2.1
  simp only at e
  subst e
  have HL := Lib.hid h
  have HM := Lib.hid hm
  clear h hm
  unfold Mat.val
  simp only
  go_enter Try.func9, Try.ntmps9
  obtain ⟨m, hmm⟩ : ∃ m : Mat, m = ⟨r, wt, bk, cy, key, ds, ps, cs, es⟩ := ⟨_, rfl⟩
  have HMM := Lib.hid hmm
  clear hmm
  have HQ : Hid (Below w.heap.size w (w.alloc (.cells #[.int .i64 r, .int .i64 wt, .int .i64 bk, .int .i64 cy, .string key, .slice Ad ds.length cd, .slice Ap ps.length cp, .slice Ac cs.length cc, .slice Ae es.length ce] 27)) ∧ Words.Blk (w.alloc (.cells #[.int .i64 r, .int .i64 wt, .int .i64 bk, .int .i64 cy, .string key, .slice Ad ds.length cd, .slice Ap ps.length cp, .slice Ac cs.length cc, .slice Ae es.length ce] 27)) w.heap.size 27 #[.int .i64 r, .int .i64 wt, .int .i64 bk, .int .i64 cy, .string key, .slice Ad ds.length cd, .slice Ap ps.length cp, .slice Ac cs.length cc, .slice Ae es.length ce]) := Lib.hid ⟨(Below.refl _ _).alloc (Nat.le_refl _) _, Words.Blk.new w _ _⟩
  go_wp2_with fail
  refine (within_any _ _ _ _).mono ?_
  rintro e w2 ⟨rfl, rfl⟩
  by_cases c1 : 0 ≤ r ∧ r ≤ 7
  case neg =>
    rw [decide_eq_false c1]
    have HNO : Hid (¬ RightP ⟨r, wt, bk, cy, key, ds, ps, cs, es⟩) := Lib.hid (fun hp => c1 hp.1.1)
    clear c1
    go_wp2_with fail
    go_ret
    exact tells_no HNO.out HQ.out.1
  rw [decide_eq_true c1]
  have C1 := Lib.hid c1
  clear c1
  go_wp2_with fail
  refine (within_any _ _ _ _).mono ?_
  rintro e w2 ⟨rfl, rfl⟩
  by_cases c2 : 1 ≤ wt ∧ wt ≤ 1000
  case neg =>
    rw [decide_eq_false c2]
    have HNO : Hid (¬ RightP ⟨r, wt, bk, cy, key, ds, ps, cs, es⟩) := Lib.hid (fun hp => c2 hp.1.2.1)
    clear c2
    go_wp2_with fail
    go_ret
    exact tells_no HNO.out HQ.out.1
  rw [decide_eq_true c2]
  have C2 := Lib.hid c2
  clear c2
  go_wp2_with fail
  refine (within_any _ _ _ _).mono ?_
  rintro e w2 ⟨rfl, rfl⟩
  by_cases c3 : 0 ≤ bk ∧ bk ≤ 1000
  case neg =>
    rw [decide_eq_false c3]
    have HNO : Hid (¬ RightP ⟨r, wt, bk, cy, key, ds, ps, cs, es⟩) := Lib.hid (fun hp => c3 hp.1.2.2.1)
    clear c3
    go_wp2_with fail
    go_ret
    exact tells_no HNO.out HQ.out.1
  rw [decide_eq_true c3]
  have C3 := Lib.hid c3
  clear c3
  go_wp2_with fail
  refine (within_any _ _ _ _).mono ?_
  rintro e w2 ⟨rfl, rfl⟩
  by_cases c4 : 1 ≤ cy ∧ cy ≤ 1000
  case neg =>
    rw [decide_eq_false c4]
    have HNO : Hid (¬ RightP ⟨r, wt, bk, cy, key, ds, ps, cs, es⟩) := Lib.hid (fun hp => c4 hp.1.2.2.2)
    clear c4
    go_wp2_with fail
    go_ret
    exact tells_no HNO.out HQ.out.1
  rw [decide_eq_true c4]
  have C4 := Lib.hid c4
  clear c4
  go_wp2_with fail
  refine (rKey_any _ key HM.out.key).mono ?_
  rintro e w2 ⟨rfl, rfl⟩
  have HK : Hid (∀ b, keyB key = b → b = false → ¬ RightP ⟨r, wt, bk, cy, key, ds, ps, cs, es⟩) := Lib.hid (fun b hb hf hp => by have := hp.2.1; rw [show keyB key = b from hb, hf] at this; cases this)
  obtain ⟨kb, hkb⟩ : ∃ b, keyB key = b := ⟨_, rfl⟩
  rw [hkb]
  have HKB := Lib.hid hkb
  clear hkb
  cases kb with
  | false =>
    have HNO := Lib.hid (HK.out _ HKB.out rfl)
    go_wp2_with fail
    go_ret
    exact tells_no HNO.out HQ.out.1
  | true =>
  clear HK
  go_wp2_with fail
  refine (rdevices_any _ ds _ (LawFrame.RowsAt.below HL.out.1 HQ.out.1) HM.out.devs).mono ?_
  rintro e w3 ⟨b1, rfl, hb1, hB⟩
  have HQ : Hid (Below w.heap.size w w3 ∧ Words.Blk w3 w.heap.size 27 #[.int .i64 r, .int .i64 wt, .int .i64 bk, .int .i64 cy, .string key, .slice Ad ds.length cd, .slice Ap ps.length cp, .slice Ac cs.length cc, .slice Ae es.length ce]) := Lib.hid ⟨HQ.out.1.trans (hB.mono HQ.out.1.size), HQ.out.2.below hB HQ.out.2.lt⟩
  have HC := Lib.hid hb1
  clear hb1 hB
  cases b1 with
  | false =>
    have HNO : Hid (¬ RightP ⟨r, wt, bk, cy, key, ds, ps, cs, es⟩) := Lib.hid (fun hp => by have := HC.out.2 hp.2.2.1; cases this)
    go_wp2_with fail
    go_ret
    exact tells_no HNO.out HQ.out.1
  | true =>
  have P0 := Lib.hid (HC.out.1 rfl)
  clear HC
  have z0 : w3.cell? ⟨w.heap.size, 0, none⟩ = some (.int .i64 r) := HQ.out.2.cell 0
  have z1 : w3.cell? ⟨w.heap.size, 1, none⟩ = some (.int .i64 wt) := HQ.out.2.cell 1
  have z2 : w3.cell? ⟨w.heap.size, 2, none⟩ = some (.int .i64 bk) := HQ.out.2.cell 2
  have z3 : w3.cell? ⟨w.heap.size, 3, none⟩ = some (.int .i64 cy) := HQ.out.2.cell 3
  have z4 : w3.cell? ⟨w.heap.size, 4, none⟩ = some (.string key) := HQ.out.2.cell 4
  have z5 : w3.cell? ⟨w.heap.size, 5, none⟩ = some (.slice Ad ds.length cd) := HQ.out.2.cell 5
  have z6 : w3.cell? ⟨w.heap.size, 6, none⟩ = some (.slice Ap ps.length cp) := HQ.out.2.cell 6
  have z7 : w3.cell? ⟨w.heap.size, 7, none⟩ = some (.slice Ac cs.length cc) := HQ.out.2.cell 7
  have z8 : w3.cell? ⟨w.heap.size, 8, none⟩ = some (.slice Ae es.length ce) := HQ.out.2.cell 8
  go_wp2_with fail
  clear z0 z1 z2 z3 z4 z5 z6 z7 z8
  refine (rpoints_any _ ps _ (LawFrame.RowsAt.below HL.out.2.1 HQ.out.1) HM.out.pts _).mono ?_
  rintro e w4 ⟨b1, rfl, hb1, hB⟩
  have HQ : Hid (Below w.heap.size w w4 ∧ Words.Blk w4 w.heap.size 27 #[.int .i64 r, .int .i64 wt, .int .i64 bk, .int .i64 cy, .string key, .slice Ad ds.length cd, .slice Ap ps.length cp, .slice Ac cs.length cc, .slice Ae es.length ce]) := Lib.hid ⟨HQ.out.1.trans (hB.mono HQ.out.1.size), HQ.out.2.below hB HQ.out.2.lt⟩
  have HC := Lib.hid hb1
  clear hb1 hB
  cases b1 with
  | false =>
    have HNO : Hid (¬ RightP ⟨r, wt, bk, cy, key, ds, ps, cs, es⟩) := Lib.hid (fun hp => by have := HC.out.2 hp.2.2.2.1; cases this)
    go_wp2_with fail
    go_ret
    exact tells_no HNO.out HQ.out.1
  | true =>
  have P1 := Lib.hid (HC.out.1 rfl)
  clear HC
  have z0 : w4.cell? ⟨w.heap.size, 0, none⟩ = some (.int .i64 r) := HQ.out.2.cell 0
  have z1 : w4.cell? ⟨w.heap.size, 1, none⟩ = some (.int .i64 wt) := HQ.out.2.cell 1
  have z2 : w4.cell? ⟨w.heap.size, 2, none⟩ = some (.int .i64 bk) := HQ.out.2.cell 2
  have z3 : w4.cell? ⟨w.heap.size, 3, none⟩ = some (.int .i64 cy) := HQ.out.2.cell 3
  have z4 : w4.cell? ⟨w.heap.size, 4, none⟩ = some (.string key) := HQ.out.2.cell 4
  have z5 : w4.cell? ⟨w.heap.size, 5, none⟩ = some (.slice Ad ds.length cd) := HQ.out.2.cell 5
  have z6 : w4.cell? ⟨w.heap.size, 6, none⟩ = some (.slice Ap ps.length cp) := HQ.out.2.cell 6
  have z7 : w4.cell? ⟨w.heap.size, 7, none⟩ = some (.slice Ac cs.length cc) := HQ.out.2.cell 7
  have z8 : w4.cell? ⟨w.heap.size, 8, none⟩ = some (.slice Ae es.length ce) := HQ.out.2.cell 8
  go_wp2_with fail
  clear z0 z1 z2 z3 z4 z5 z6 z7 z8
  refine (rcauses_any _ cs _ (CssAt.below HL.out.2.2.1 HQ.out.1) HM.out.css HM.out.cpts _).mono ?_
  rintro e w5 ⟨b1, rfl, hb1, hB⟩
  have HQ : Hid (Below w.heap.size w w5 ∧ Words.Blk w5 w.heap.size 27 #[.int .i64 r, .int .i64 wt, .int .i64 bk, .int .i64 cy, .string key, .slice Ad ds.length cd, .slice Ap ps.length cp, .slice Ac cs.length cc, .slice Ae es.length ce]) := Lib.hid ⟨HQ.out.1.trans (hB.mono HQ.out.1.size), HQ.out.2.below hB HQ.out.2.lt⟩
  have HC := Lib.hid hb1
  clear hb1 hB
  cases b1 with
  | false =>
    have HNO : Hid (¬ RightP ⟨r, wt, bk, cy, key, ds, ps, cs, es⟩) := Lib.hid (fun hp => by have := HC.out.2 hp.2.2.2.2.1; cases this)
    go_wp2_with fail
    go_ret
    exact tells_no HNO.out HQ.out.1
  | true =>
  have P2 := Lib.hid (HC.out.1 rfl)
  clear HC
  have z0 : w5.cell? ⟨w.heap.size, 0, none⟩ = some (.int .i64 r) := HQ.out.2.cell 0
  have z1 : w5.cell? ⟨w.heap.size, 1, none⟩ = some (.int .i64 wt) := HQ.out.2.cell 1
  have z2 : w5.cell? ⟨w.heap.size, 2, none⟩ = some (.int .i64 bk) := HQ.out.2.cell 2
  have z3 : w5.cell? ⟨w.heap.size, 3, none⟩ = some (.int .i64 cy) := HQ.out.2.cell 3
  have z4 : w5.cell? ⟨w.heap.size, 4, none⟩ = some (.string key) := HQ.out.2.cell 4
  have z5 : w5.cell? ⟨w.heap.size, 5, none⟩ = some (.slice Ad ds.length cd) := HQ.out.2.cell 5
  have z6 : w5.cell? ⟨w.heap.size, 6, none⟩ = some (.slice Ap ps.length cp) := HQ.out.2.cell 6
  have z7 : w5.cell? ⟨w.heap.size, 7, none⟩ = some (.slice Ac cs.length cc) := HQ.out.2.cell 7
  have z8 : w5.cell? ⟨w.heap.size, 8, none⟩ = some (.slice Ae es.length ce) := HQ.out.2.cell 8
  go_wp2_with fail
  clear z0 z1 z2 z3 z4 z5 z6 z7 z8
  refine (reffects_any _ es _ (EfsAt.below HL.out.2.2.2 HQ.out.1) HM.out.efs HM.out.ecs _ _).mono ?_
  rintro e w6 ⟨b1, rfl, hb1, hB⟩
  have HQ : Hid (Below w.heap.size w w6 ∧ Words.Blk w6 w.heap.size 27 #[.int .i64 r, .int .i64 wt, .int .i64 bk, .int .i64 cy, .string key, .slice Ad ds.length cd, .slice Ap ps.length cp, .slice Ac cs.length cc, .slice Ae es.length ce]) := Lib.hid ⟨HQ.out.1.trans (hB.mono HQ.out.1.size), HQ.out.2.below hB HQ.out.2.lt⟩
  have HC := Lib.hid hb1
  clear hb1 hB
  cases b1 with
  | false =>
    have HNO : Hid (¬ RightP ⟨r, wt, bk, cy, key, ds, ps, cs, es⟩) := Lib.hid (fun hp => by have := HC.out.2 hp.2.2.2.2.2.1; cases this)
    go_wp2_with fail
    go_ret
    exact tells_no HNO.out HQ.out.1
  | true =>
  have P3 := Lib.hid (HC.out.1 rfl)
  clear HC
  have z0 : w6.cell? ⟨w.heap.size, 0, none⟩ = some (.int .i64 r) := HQ.out.2.cell 0
  have z1 : w6.cell? ⟨w.heap.size, 1, none⟩ = some (.int .i64 wt) := HQ.out.2.cell 1
  have z2 : w6.cell? ⟨w.heap.size, 2, none⟩ = some (.int .i64 bk) := HQ.out.2.cell 2
  have z3 : w6.cell? ⟨w.heap.size, 3, none⟩ = some (.int .i64 cy) := HQ.out.2.cell 3
  have z4 : w6.cell? ⟨w.heap.size, 4, none⟩ = some (.string key) := HQ.out.2.cell 4
  have z5 : w6.cell? ⟨w.heap.size, 5, none⟩ = some (.slice Ad ds.length cd) := HQ.out.2.cell 5
  have z6 : w6.cell? ⟨w.heap.size, 6, none⟩ = some (.slice Ap ps.length cp) := HQ.out.2.cell 6
  have z7 : w6.cell? ⟨w.heap.size, 7, none⟩ = some (.slice Ac cs.length cc) := HQ.out.2.cell 7
  have z8 : w6.cell? ⟨w.heap.size, 8, none⟩ = some (.slice Ae es.length ce) := HQ.out.2.cell 8
  go_wp2_with fail
  clear z0 z1 z2 z3 z4 z5 z6 z7 z8
  have hsm : ds.length + ps.length + cs.length + es.length ≤ 1000 := by
    have h0 := P0.out.1
    have h1 := P1.out.1
    have h2 := P2.out.1
    have h3 := P3.out.1
    omega
  refine (rNames_any _ ⟨r, wt, bk, cy, key, ds, ps, cs, es⟩ _ _ _ _ (MatAt.below HL.out HQ.out.1) hsm).mono ?_
  rintro e w7 ⟨vn, rfl, hvn, hB⟩
  have HQ : Hid (Below w.heap.size w w7) := Lib.hid (HQ.out.1.trans (hB.mono HQ.out.1.size))
  have HVN := Lib.hid hvn
  clear hvn hB
  go_wp2_with fail
  refine (rnames_any _ _ _ HVN.out (by simp [Mat.names]; omega) HM.out.names).mono ?_
  rintro e w8 ⟨b1, rfl, hb1, hB⟩
  have HQ : Hid (Below w.heap.size w w8) := Lib.hid (HQ.out.trans (hB.mono HQ.out.size))
  have HC := Lib.hid hb1
  clear hb1 hB
  have HA : Hid (b1 = true ↔ RightP ⟨r, wt, bk, cy, key, ds, ps, cs, es⟩) := Lib.hid ⟨fun e => ⟨⟨C1.out, C2.out, C3.out, C4.out⟩, HKB.out, P0.out, P1.out, P2.out, P3.out, HC.out.1 e⟩, fun hp => HC.out.2 hp.2.2.2.2.2.2⟩
  go_wp2_with fail
  go_ret
  exact ⟨_, rfl, HA.out, HQ.out⟩
end Go.Proofs.Ytbpenoelmangkaa
