/-
  CheckMore: a bound is above all that it counts, and no less where one waits longer or tries oftener.
-/
import Derived.Test.YtbpenoelmangkaaLawMorePlain
namespace Go.Proofs.Ytbpenoelmangkaa
open Go.RowKit
set_option maxHeartbeats 4000000 in
set_option maxRecDepth 100000 in
theorem checkMore_any (w : World) (m : Mat) (vd vp vc ve : Value) (c : Nat) (hc256 : c < 256) (h : MatAt w m vd vp vc ve) (hm : MatSmall m) :
    Calls Try.prog 5 #[m.val vd vp vc ve, .int .u8 (c : Int)] w fun e w' => e = .returned (.bool true) ∧ Below w.heap.size w w' := by
  obtain ⟨r, wt, bk, cy, key, ds, ps, cs, es⟩ := m
  obtain ⟨Ad, cd, e, hcd, -⟩ := id h.1
  simp only at e
  subst e
  obtain ⟨Ap, cp, e, hcp, -⟩ := id h.2.1
  simp only at e
  subst e
  obtain ⟨Ac, cc, e, hcc, -⟩ := id h.2.2.1.1
  simp only at e
  subst e
  obtain ⟨Ae, ce, e, hce, -⟩ := id h.2.2.2.1
  simp only at e
  subst e
  have HM := Lib.hid hm
  unfold Mat.val
  simp only
  have HS := Lib.hid (show HeadIs w w.heap.size ⟨r, wt, bk, cy, key, ds, ps, cs, es⟩ _ _ _ _ #[.int .i64 r, .int .i64 wt, .int .i64 bk, .int .i64 cy, .string key, .slice Ad ds.length cd, .slice Ap ps.length cp, .slice Ac cs.length cc, .slice Ae es.length ce] (w.alloc (.cells #[.int .i64 r, .int .i64 wt, .int .i64 bk, .int .i64 cy, .string key, .slice Ad ds.length cd, .slice Ap ps.length cp, .slice Ac cs.length cc, .slice Ae es.length ce] 27)) from ⟨(Below.refl _ _).alloc (Nat.le_refl _) _, h.below ((Below.refl _ _).alloc (Nat.le_refl _) _), Words.Blk.new _ _ _⟩)
  clear h hm
  go_enter Try.func5, Try.ntmps5
  go_wp2_with fail
  refine (head_any _).mono ?_
  rintro e w1 ⟨rfl, hb⟩
  replace HS := Lib.hid (HS.out.below hb)
  clear hb
  have z0 : w1.cell? ⟨w.heap.size, 0, none⟩ = some (.int .i64 r) := HS.out.2.2.cell 0
  have z1 : w1.cell? ⟨w.heap.size, 1, none⟩ = some (.int .i64 wt) := HS.out.2.2.cell 1
  have z2 : w1.cell? ⟨w.heap.size, 2, none⟩ = some (.int .i64 bk) := HS.out.2.2.cell 2
  have z3 : w1.cell? ⟨w.heap.size, 3, none⟩ = some (.int .i64 cy) := HS.out.2.2.cell 3
  have z4 : w1.cell? ⟨w.heap.size, 4, none⟩ = some (.string key) := HS.out.2.2.cell 4
  have z5 : w1.cell? ⟨w.heap.size, 5, none⟩ = some (.slice Ad ds.length cd) := HS.out.2.2.cell 5
  have z6 : w1.cell? ⟨w.heap.size, 6, none⟩ = some (.slice Ap ps.length cp) := HS.out.2.2.cell 6
  have z7 : w1.cell? ⟨w.heap.size, 7, none⟩ = some (.slice Ac cs.length cc) := HS.out.2.2.cell 7
  have z8 : w1.cell? ⟨w.heap.size, 8, none⟩ = some (.slice Ae es.length ce) := HS.out.2.2.cell 8
  go_wp2_with fail
  clear z0 z1 z2 z3 z4 z5 z6 z7 z8
  refine (great_any _ ⟨r, wt, bk, cy, key, ds, ps, cs, es⟩ _ _ _ _ HS.out.2.1 HM.out).mono ?_
  rintro e w2 ⟨⟨b, rfl⟩, hb⟩
  replace HS := Lib.hid (HS.out.below hb)
  clear hb
  cases b with
  | true =>
    go_wp2_with fail
    go_ret
    exact ⟨rfl, HS.out.1⟩
  | false =>
  have z0 : w2.cell? ⟨w.heap.size, 0, none⟩ = some (.int .i64 r) := HS.out.2.2.cell 0
  have z1 : w2.cell? ⟨w.heap.size, 1, none⟩ = some (.int .i64 wt) := HS.out.2.2.cell 1
  have z2 : w2.cell? ⟨w.heap.size, 2, none⟩ = some (.int .i64 bk) := HS.out.2.2.cell 2
  have z3 : w2.cell? ⟨w.heap.size, 3, none⟩ = some (.int .i64 cy) := HS.out.2.2.cell 3
  have z4 : w2.cell? ⟨w.heap.size, 4, none⟩ = some (.string key) := HS.out.2.2.cell 4
  have z5 : w2.cell? ⟨w.heap.size, 5, none⟩ = some (.slice Ad ds.length cd) := HS.out.2.2.cell 5
  have z6 : w2.cell? ⟨w.heap.size, 6, none⟩ = some (.slice Ap ps.length cp) := HS.out.2.2.cell 6
  have z7 : w2.cell? ⟨w.heap.size, 7, none⟩ = some (.slice Ac cs.length cc) := HS.out.2.2.cell 7
  have z8 : w2.cell? ⟨w.heap.size, 8, none⟩ = some (.slice Ae es.length ce) := HS.out.2.2.cell 8
  go_wp2_with fail
  clear z0 z1 z2 z3 z4 z5 z6 z7 z8
  refine (rRight_any _ ⟨r, wt, bk, cy, key, ds, ps, cs, es⟩ _ _ _ _ HS.out.2.1 HM.out).mono ?_
  rintro e w3 ⟨b, rfl, hb1, hb⟩
  replace HS := Lib.hid (HS.out.below hb)
  have HB1 := Lib.hid hb1
  clear hb hb1
  cases b with
  | false =>
    go_wp2_with fail
    go_ret
    exact ⟨rfl, HS.out.1⟩
  | true =>
  have HR := Lib.hid (HB1.out.1 rfl)
  clear HB1
  have hsd : ds.length ≤ 4 := HR.out.2.2.1.1
  have hsp : ps.length ≤ 16 := HR.out.2.2.2.1.1
  have hsc : cs.length ≤ 8 := HR.out.2.2.2.2.1.1
  have hse : es.length ≤ 8 := HR.out.2.2.2.2.2.1.1
  have z0 : w3.cell? ⟨w.heap.size, 0, none⟩ = some (.int .i64 r) := HS.out.2.2.cell 0
  have z1 : w3.cell? ⟨w.heap.size, 1, none⟩ = some (.int .i64 wt) := HS.out.2.2.cell 1
  have z2 : w3.cell? ⟨w.heap.size, 2, none⟩ = some (.int .i64 bk) := HS.out.2.2.cell 2
  have z3 : w3.cell? ⟨w.heap.size, 3, none⟩ = some (.int .i64 cy) := HS.out.2.2.cell 3
  have z4 : w3.cell? ⟨w.heap.size, 4, none⟩ = some (.string key) := HS.out.2.2.cell 4
  have z5 : w3.cell? ⟨w.heap.size, 5, none⟩ = some (.slice Ad ds.length cd) := HS.out.2.2.cell 5
  have z6 : w3.cell? ⟨w.heap.size, 6, none⟩ = some (.slice Ap ps.length cp) := HS.out.2.2.cell 6
  have z7 : w3.cell? ⟨w.heap.size, 7, none⟩ = some (.slice Ac cs.length cc) := HS.out.2.2.cell 7
  have z8 : w3.cell? ⟨w.heap.size, 8, none⟩ = some (.slice Ae es.length ce) := HS.out.2.2.cell 8
  by_cases hc0 : cs.length = 0
  · have h0 : ((cs.length : Int) == 0) = true := by simp [hc0]
    clear hc0
    go_wp2_with fail
    go_ret
    exact ⟨rfl, HS.out.1⟩
  have h0 : ((cs.length : Int) == 0) = false := by rw [beq_eq_false_iff_ne]; omega
  obtain ⟨q, hq⟩ : ∃ q, q = c % cs.length := ⟨_, rfl⟩
  have hql : q < cs.length := by rw [hq]; exact Nat.mod_lt _ (by omega)
  have hrem : (c : Int).tmod (cs.length : Int) = (q : Int) := by rw [hq]; exact Int.ofNat_tmod c cs.length
  have hcl0 : (0 : Int) < (cs.length : Int) := by omega
  obtain ⟨x, hx⟩ : ∃ x, cs[q]? = some x := ⟨_, List.getElem?_eq_getElem hql⟩
  have HX := Lib.hid hx
  have hq0 : (0 : Int) ≤ (q : Int) := by omega
  have hq1 : (q : Int) < (cs.length : Int) := by omega
  clear hc0 hq hx
  obtain ⟨Bv, hBv⟩ : ∃ B, B = boundAt ⟨r, wt, bk, cy, key, ds, ps, cs, es⟩ x := ⟨_, rfl⟩
  obtain ⟨BW, hBW⟩ : ∃ B, B = boundAt (Mat.waits ⟨r, wt, bk, cy, key, ds, ps, cs, es⟩) x := ⟨_, rfl⟩
  obtain ⟨BT, hBT⟩ : ∃ B, B = boundAt (Mat.tries ⟨r, wt, bk, cy, key, ds, ps, cs, es⟩) x := ⟨_, rfl⟩
  obtain ⟨AG, hAG⟩ : ∃ B, B = Mat.age ⟨r, wt, bk, cy, key, ds, ps, cs, es⟩ := ⟨_, rfl⟩
  have g1 : Bv ≤ BW := by rw [hBv, hBW]; exact waits_bound HR.out x
  have g2 : Bv ≤ BT := by rw [hBv, hBT]; exact tries_bound HR.out x
  have hpi := prod_in HR.out
  have hAGe : AG = bk + cy + Mat.jobs ⟨r, wt, bk, cy, key, ds, ps, cs, es⟩ * Mat.each ⟨r, wt, bk, cy, key, ds, ps, cs, es⟩ := hAG
  have hBe : Bv = bk + cy + onMax ps x.pts + 8 + 3 * (Mat.jobs ⟨r, wt, bk, cy, key, ds, ps, cs, es⟩ * Mat.each ⟨r, wt, bk, cy, key, ds, ps, cs, es⟩) := by rw [hBv, ← prod3_in]; rfl
  have g0 := onMax_pos ps x.pts
  have g3 : bk + cy < AG := by omega
  have g4 : AG < Bv := by omega
  have HON : Hid (∀ i ∈ x.pts, bk + cy + onOf ps i < Bv) := Lib.hid (fun i hi => by have := onMax_mem (ps := ps) hi; omega)
  have HBV := Lib.hid hBv
  have HBW := Lib.hid hBW
  have HBT := Lib.hid hBT
  have HAG := Lib.hid hAG
  clear hBv hBW hBT hAG hpi hAGe hBe g0
  go_wp2_with fail
  clear z0 z1 z2 z3 z4 z5 z6 z7 z8 h0 hrem
  refine (bound_any _ ⟨r, wt, bk, cy, key, ds, ps, cs, es⟩ _ _ _ _ HS.out.2.1 HM.out HR.out q x HX.out Bv HBV.out).mono ?_
  rintro e w4 ⟨rfl, hb⟩
  replace HS := Lib.hid (HS.out.below hb)
  clear hb
  have HXP := Lib.hid (HS.out.2.1.2.2.1.2 x (List.mem_of_getElem? HX.out))
  have hxl : x.pts.length ≤ 4 := by have := (HR.out.2.2.2.2.1.2 _ _ HX.out).1.2.1; omega
  have HCP : Hid (∀ i ∈ x.pts, ∃ (k : Nat) (p : Pt), i = (k : Int) ∧ ps[k]? = some p ∧ 0 ≤ p.on ∧ p.on ≤ 1000) := Lib.hid (fun i hi => cs_pt HR.out (List.mem_of_getElem? HX.out) hi)
  obtain ⟨-, ⟨t1, t2⟩, ⟨t3, t4⟩, t5, t6⟩ := HR.out.1
  obtain ⟨⟨t7, t8⟩, -⟩ := HR.out.1
  simp only at t1 t2 t3 t4 t5 t6 t7 t8
  obtain ⟨x0, x1, x2, x3, xv, xs⟩ := x
  simp only at hxl
  obtain ⟨Ai, ci, e, hci, -⟩ := id HXP.out
  simp only at e
  subst e
  go_wp2_with fail
  go_loopw [8] (fun i wr => ∃ k : Nat, k ≤ xs.length ∧ i = .int .i64 (k : Int) ∧ Hid (Below w4.heap.size w4 wr)) (fun i _ => xs.length - (intOf i).toNat)
  case atStart => exact ⟨0, Nat.zero_le _, rfl, Lib.hid (Below.refl _ _)⟩
  case round =>
    obtain ⟨k, hk, rfl, HW⟩ := hrel
    have hk0 : (0 : Int) ≤ (k : Int) := by omega
    have HSr := Lib.hid (HS.out.below HW.out)
    obtain ⟨bx, ox, hA, hb, hcell⟩ := row_at HSr.out.2.1.2.2.1.1 HX.out
    subst hA
    have y0 := hcell 0 _ rfl
    have y1 := hcell 1 _ rfl
    have y2 := hcell 2 _ rfl
    have y3 := hcell 3 _ rfl
    have y4 := hcell 4 _ rfl
    simp only [Nat.add_zero] at y0 y1 y2 y3 y4
    clear hcell hb
    have z7 : wr.cell? ⟨w.heap.size, 7, none⟩ = some (.slice (some ⟨bx, ox, none⟩) cs.length cc) := HSr.out.2.2.cell 7
    by_cases hlt : k < xs.length
    · obtain ⟨i, hi⟩ : ∃ i, xs[k]? = some i := ⟨_, List.getElem?_eq_getElem hlt⟩
      obtain ⟨b1, off1, hA, hcell⟩ := one_at (NumsAt.below HXP.out HW.out) hi
      subst hA
      have u0 := hcell _ rfl
      obtain ⟨j, p, hij, hp, hp0, hp1⟩ := HCP.out i (List.mem_of_getElem? hi)
      subst hij
      have hon := HON.out _ (List.mem_of_getElem? hi)
      rw [onOf_of hp] at hon
      obtain ⟨b2, off2, hA, hb, hcell2⟩ := row_at HSr.out.2.1.2.1 hp
      subst hA
      obtain ⟨p0, p1, p2, p3, p4, p5⟩ := p
      have q0 := hcell2 0 _ rfl
      have q1 := hcell2 1 _ rfl
      have q2 := hcell2 2 _ rfl
      have q3 := hcell2 3 _ rfl
      have q4 := hcell2 4 _ rfl
      have q5 := hcell2 5 _ rfl
      simp only [Nat.add_zero] at q0 q1 q2 q3 q4 q5 hp0 hp1 hon
      have hjl : j < ps.length := (List.getElem?_eq_some_iff.1 hp).1
      have hj1 : (j : Int) < (ps.length : Int) := by omega
      have hj0 : (0 : Int) ≤ (j : Int) := by omega
      have hk1 : (k : Int) < (xs.length : Int) := by omega
      have z2 : wr.cell? ⟨w.heap.size, 2, none⟩ = some (.int .i64 bk) := HSr.out.2.2.cell 2
      have z3 : wr.cell? ⟨w.heap.size, 3, none⟩ = some (.int .i64 cy) := HSr.out.2.2.cell 3
      have z6 : wr.cell? ⟨w.heap.size, 6, none⟩ = some (.slice (some ⟨b2, off2, none⟩) ps.length cp) := HSr.out.2.2.cell 6
      have hw1 : IntKind.i64.wrap (bk + cy) = bk + cy := IntWalk.i64_in _ (by omega)
      have hw2 : IntKind.i64.wrap (bk + cy + p4) = bk + cy + p4 := IntWalk.i64_in _ (by omega)
      have hno : ¬ Bv ≤ bk + cy + p4 := by omega
      have hnd : decide (Bv ≤ bk + cy + p4) = false := decide_eq_false hno
      clear hcell hcell2 hb hp hi hon HSr
      go_upto_region 9 with fail
      go_quiet (fail)
      have HW1 := Lib.hid (below_drewn HW.out nq)
      clear y0 y1 y2 y3 y4 q0 q1 q2 q3 q4 q5 u0 z2 z3 z6 z7 HW hw1 hw2 hnd
      generalize wr.drewN nq = wa at *
      go_wp2_with fail
      go_roundw
      case rel => exact ⟨k + 1, by omega, by go_num, HW1⟩
      case measure => simp [intOf]; omega
    · have hk2 : ¬ (k : Int) < (xs.length : Int) := by omega
      clear z7
      have z0 : wr.cell? ⟨w.heap.size, 0, none⟩ = some (.int .i64 r) := HSr.out.2.2.cell 0
      have z1 : wr.cell? ⟨w.heap.size, 1, none⟩ = some (.int .i64 wt) := HSr.out.2.2.cell 1
      have z2 : wr.cell? ⟨w.heap.size, 2, none⟩ = some (.int .i64 bk) := HSr.out.2.2.cell 2
      have z3 : wr.cell? ⟨w.heap.size, 3, none⟩ = some (.int .i64 cy) := HSr.out.2.2.cell 3
      have z4 : wr.cell? ⟨w.heap.size, 4, none⟩ = some (.string key) := HSr.out.2.2.cell 4
      have z5 : wr.cell? ⟨w.heap.size, 5, none⟩ = some (.slice Ad ds.length cd) := HSr.out.2.2.cell 5
      have z6 : wr.cell? ⟨w.heap.size, 6, none⟩ = some (.slice Ap ps.length cp) := HSr.out.2.2.cell 6
      have z7 : wr.cell? ⟨w.heap.size, 7, none⟩ = some (.slice (some ⟨bx, ox, none⟩) cs.length cc) := HSr.out.2.2.cell 7
      have z8 : wr.cell? ⟨w.heap.size, 8, none⟩ = some (.slice Ae es.length ce) := HSr.out.2.2.cell 8
      have a0 : ∀ ob, (wr.alloc ob).cell? ⟨w.heap.size, 0, none⟩ = some (.int .i64 r) := fun ob => (HSr.out.box ob).2.2.cell 0
      have a1 : ∀ ob, (wr.alloc ob).cell? ⟨w.heap.size, 1, none⟩ = some (.int .i64 wt) := fun ob => (HSr.out.box ob).2.2.cell 1
      have a2 : ∀ ob, (wr.alloc ob).cell? ⟨w.heap.size, 2, none⟩ = some (.int .i64 bk) := fun ob => (HSr.out.box ob).2.2.cell 2
      have a3 : ∀ ob, (wr.alloc ob).cell? ⟨w.heap.size, 3, none⟩ = some (.int .i64 cy) := fun ob => (HSr.out.box ob).2.2.cell 3
      have a4 : ∀ ob, (wr.alloc ob).cell? ⟨w.heap.size, 4, none⟩ = some (.string key) := fun ob => (HSr.out.box ob).2.2.cell 4
      have a5 : ∀ ob, (wr.alloc ob).cell? ⟨w.heap.size, 5, none⟩ = some (.slice Ad ds.length cd) := fun ob => (HSr.out.box ob).2.2.cell 5
      have a6 : ∀ ob, (wr.alloc ob).cell? ⟨w.heap.size, 6, none⟩ = some (.slice Ap ps.length cp) := fun ob => (HSr.out.box ob).2.2.cell 6
      have a7 : ∀ ob, (wr.alloc ob).cell? ⟨w.heap.size, 7, none⟩ = some (.slice (some ⟨bx, ox, none⟩) cs.length cc) := fun ob => (HSr.out.box ob).2.2.cell 7
      have a8 : ∀ ob, (wr.alloc ob).cell? ⟨w.heap.size, 8, none⟩ = some (.slice Ae es.length ce) := fun ob => (HSr.out.box ob).2.2.cell 8
      have b0 : ∀ ob ob2, ((wr.alloc ob).alloc ob2).cell? ⟨w.heap.size, 0, none⟩ = some (.int .i64 r) := fun ob ob2 => ((HSr.out.box ob).box ob2).2.2.cell 0
      have b1 : ∀ ob ob2, ((wr.alloc ob).alloc ob2).cell? ⟨w.heap.size, 1, none⟩ = some (.int .i64 wt) := fun ob ob2 => ((HSr.out.box ob).box ob2).2.2.cell 1
      have b2 : ∀ ob ob2, ((wr.alloc ob).alloc ob2).cell? ⟨w.heap.size, 2, none⟩ = some (.int .i64 bk) := fun ob ob2 => ((HSr.out.box ob).box ob2).2.2.cell 2
      have b3 : ∀ ob ob2, ((wr.alloc ob).alloc ob2).cell? ⟨w.heap.size, 3, none⟩ = some (.int .i64 cy) := fun ob ob2 => ((HSr.out.box ob).box ob2).2.2.cell 3
      have b4 : ∀ ob ob2, ((wr.alloc ob).alloc ob2).cell? ⟨w.heap.size, 4, none⟩ = some (.string key) := fun ob ob2 => ((HSr.out.box ob).box ob2).2.2.cell 4
      have b5 : ∀ ob ob2, ((wr.alloc ob).alloc ob2).cell? ⟨w.heap.size, 5, none⟩ = some (.slice Ad ds.length cd) := fun ob ob2 => ((HSr.out.box ob).box ob2).2.2.cell 5
      have b6 : ∀ ob ob2, ((wr.alloc ob).alloc ob2).cell? ⟨w.heap.size, 6, none⟩ = some (.slice Ap ps.length cp) := fun ob ob2 => ((HSr.out.box ob).box ob2).2.2.cell 6
      have b7 : ∀ ob ob2, ((wr.alloc ob).alloc ob2).cell? ⟨w.heap.size, 7, none⟩ = some (.slice (some ⟨bx, ox, none⟩) cs.length cc) := fun ob ob2 => ((HSr.out.box ob).box ob2).2.2.cell 7
      have b8 : ∀ ob ob2, ((wr.alloc ob).alloc ob2).cell? ⟨w.heap.size, 8, none⟩ = some (.slice Ae es.length ce) := fun ob ob2 => ((HSr.out.box ob).box ob2).2.2.cell 8
      obtain ⟨WW, hWW⟩ : ∃ W, W = min (wt + 1) 1000 := ⟨_, rfl⟩
      obtain ⟨RR, hRR⟩ : ∃ W, W = min (r + 1) 7 := ⟨_, rfl⟩
      have e1 : (if 1000 < wt + 1 then 1000 else wt + 1) = WW := by rw [hWW]; split <;> omega
      have e2 : (if 7 < r + 1 then 7 else r + 1) = RR := by rw [hRR]; split <;> omega
      have HMW : Hid (Mat.waits ⟨r, wt, bk, cy, key, ds, ps, cs, es⟩ = ⟨r, WW, bk, cy, key, ds, ps, cs, es⟩) := Lib.hid (by rw [hWW]; rfl)
      have HMT : Hid (Mat.tries ⟨r, wt, bk, cy, key, ds, ps, cs, es⟩ = ⟨RR, wt, bk, cy, key, ds, ps, cs, es⟩) := Lib.hid (by rw [hRR]; rfl)
      have HRW : Hid (RightP ⟨r, WW, bk, cy, key, ds, ps, cs, es⟩) := Lib.hid (by rw [← HMW.out]; exact waits_right HR.out)
      have HRT : Hid (RightP ⟨RR, wt, bk, cy, key, ds, ps, cs, es⟩) := Lib.hid (by rw [← HMT.out]; exact tries_right HR.out)
      have HSW : Hid (MatSmall ⟨r, WW, bk, cy, key, ds, ps, cs, es⟩) := Lib.hid ⟨HM.out.key, HM.out.devs, HM.out.pts, HM.out.css, HM.out.efs, HM.out.cpts, HM.out.ecs, HM.out.names⟩
      have HST : Hid (MatSmall ⟨RR, wt, bk, cy, key, ds, ps, cs, es⟩) := Lib.hid ⟨HM.out.key, HM.out.devs, HM.out.pts, HM.out.css, HM.out.efs, HM.out.cpts, HM.out.ecs, HM.out.names⟩
      have HBW2 : Hid (BW = boundAt ⟨r, WW, bk, cy, key, ds, ps, cs, es⟩ ⟨x0, x1, x2, x3, .slice Ai xs.length ci, xs⟩) := Lib.hid (by rw [← HMW.out]; exact HBW.out)
      have HBT2 : Hid (BT = boundAt ⟨RR, wt, bk, cy, key, ds, ps, cs, es⟩ ⟨x0, x1, x2, x3, .slice Ai xs.length ci, xs⟩) := Lib.hid (by rw [← HMT.out]; exact HBT.out)
      clear hWW hRR HMW HMT HBW HBT
      go_upto_region 15 with fail
      have HT : Hid (HeadIs w w.heap.size ⟨r, wt, bk, cy, key, ds, ps, cs, es⟩ _ _ _ _ #[.int .i64 r, .int .i64 wt, .int .i64 bk, .int .i64 cy, .string key, .slice Ad ds.length cd, .slice Ap ps.length cp, .slice (some ⟨bx, ox, none⟩) cs.length cc, .slice Ae es.length ce] ((wr.alloc (.cells #[.int .i64 r, .int .i64 WW, .int .i64 bk, .int .i64 cy, .string key, .slice Ad ds.length cd, .slice Ap ps.length cp, .slice (some ⟨bx, ox, none⟩) cs.length cc, .slice Ae es.length ce] 27)).alloc (.cells #[.int .i64 RR, .int .i64 wt, .int .i64 bk, .int .i64 cy, .string key, .slice Ad ds.length cd, .slice Ap ps.length cp, .slice (some ⟨bx, ox, none⟩) cs.length cc, .slice Ae es.length ce] 27)) ∧ Words.Blk ((wr.alloc (.cells #[.int .i64 r, .int .i64 WW, .int .i64 bk, .int .i64 cy, .string key, .slice Ad ds.length cd, .slice Ap ps.length cp, .slice (some ⟨bx, ox, none⟩) cs.length cc, .slice Ae es.length ce] 27)).alloc (.cells #[.int .i64 RR, .int .i64 wt, .int .i64 bk, .int .i64 cy, .string key, .slice Ad ds.length cd, .slice Ap ps.length cp, .slice (some ⟨bx, ox, none⟩) cs.length cc, .slice Ae es.length ce] 27)) wr.heap.size 27 #[.int .i64 r, .int .i64 WW, .int .i64 bk, .int .i64 cy, .string key, .slice Ad ds.length cd, .slice Ap ps.length cp, .slice (some ⟨bx, ox, none⟩) cs.length cc, .slice Ae es.length ce] ∧ Words.Blk ((wr.alloc (.cells #[.int .i64 r, .int .i64 WW, .int .i64 bk, .int .i64 cy, .string key, .slice Ad ds.length cd, .slice Ap ps.length cp, .slice (some ⟨bx, ox, none⟩) cs.length cc, .slice Ae es.length ce] 27)).alloc (.cells #[.int .i64 RR, .int .i64 wt, .int .i64 bk, .int .i64 cy, .string key, .slice Ad ds.length cd, .slice Ap ps.length cp, .slice (some ⟨bx, ox, none⟩) cs.length cc, .slice Ae es.length ce] 27)) (wr.heap.size + 1) 27 #[.int .i64 RR, .int .i64 wt, .int .i64 bk, .int .i64 cy, .string key, .slice Ad ds.length cd, .slice Ap ps.length cp, .slice (some ⟨bx, ox, none⟩) cs.length cc, .slice Ae es.length ce]) := Lib.hid ⟨(HSr.out.box _).box _, (Words.Blk.new _ _ _).alloc _, by have := Words.Blk.new (wr.alloc (.cells #[.int .i64 r, .int .i64 WW, .int .i64 bk, .int .i64 cy, .string key, .slice Ad ds.length cd, .slice Ap ps.length cp, .slice (some ⟨bx, ox, none⟩) cs.length cc, .slice Ae es.length ce] 27)) 27 #[.int .i64 RR, .int .i64 wt, .int .i64 bk, .int .i64 cy, .string key, .slice Ad ds.length cd, .slice Ap ps.length cp, .slice (some ⟨bx, ox, none⟩) cs.length cc, .slice Ae es.length ce]; simpa using this⟩
      clear e1 e2 HSr HW z0 a0 b0 z1 a1 b1 z2 a2 b2 z3 a3 b3 z4 a4 b4 z5 a5 b5 z6 a6 b6 z7 a7 b7 z8 a8 b8 y0 y1 y2 y3 y4
      generalize (wr.alloc (.cells #[.int .i64 r, .int .i64 WW, .int .i64 bk, .int .i64 cy, .string key, .slice Ad ds.length cd, .slice Ap ps.length cp, .slice (some ⟨bx, ox, none⟩) cs.length cc, .slice Ae es.length ce] 27)).alloc (.cells #[.int .i64 RR, .int .i64 wt, .int .i64 bk, .int .i64 cy, .string key, .slice Ad ds.length cd, .slice Ap ps.length cp, .slice (some ⟨bx, ox, none⟩) cs.length cc, .slice Ae es.length ce] 27) = w9 at *
      replace HT := Lib.hid (show HeadIs w w.heap.size ⟨r, wt, bk, cy, key, ds, ps, cs, es⟩ _ _ _ _ #[.int .i64 r, .int .i64 wt, .int .i64 bk, .int .i64 cy, .string key, .slice Ad ds.length cd, .slice Ap ps.length cp, .slice (some ⟨bx, ox, none⟩) cs.length cc, .slice Ae es.length ce] w9.drew ∧ Words.Blk w9.drew wr.heap.size 27 #[.int .i64 r, .int .i64 WW, .int .i64 bk, .int .i64 cy, .string key, .slice Ad ds.length cd, .slice Ap ps.length cp, .slice (some ⟨bx, ox, none⟩) cs.length cc, .slice Ae es.length ce] ∧ Words.Blk w9.drew (wr.heap.size + 1) 27 #[.int .i64 RR, .int .i64 wt, .int .i64 bk, .int .i64 cy, .string key, .slice Ad ds.length cd, .slice Ap ps.length cp, .slice (some ⟨bx, ox, none⟩) cs.length cc, .slice Ae es.length ce] from ⟨⟨HT.out.1.1.drew, HT.out.1.2.1, HT.out.1.2.2⟩, HT.out.2.1, HT.out.2.2⟩)
      generalize wr.heap.size = q1 at *
      have hw1 : IntKind.i64.wrap (bk + cy) = bk + cy := IntWalk.i64_in _ (by omega)
      have hd1 : decide (Bv ≤ BW) = true := decide_eq_true g1
      have hd2 : decide (Bv ≤ BT) = true := decide_eq_true g2
      have hd3 : decide (bk + cy < AG) = true := decide_eq_true g3
      have hd4 : decide (AG < Bv) = true := decide_eq_true g4
      have HCW : Hid (∀ w', HeadIs w w.heap.size ⟨r, wt, bk, cy, key, ds, ps, cs, es⟩ (.slice Ad ds.length cd) (.slice Ap ps.length cp) (.slice (some ⟨bx, ox, none⟩) cs.length cc) (.slice Ae es.length ce) #[.int .i64 r, .int .i64 wt, .int .i64 bk, .int .i64 cy, .string key, .slice Ad ds.length cd, .slice Ap ps.length cp, .slice (some ⟨bx, ox, none⟩) cs.length cc, .slice Ae es.length ce] w' → Calls Try.prog 15 #[.agg #[.int .i64 r, .int .i64 WW, .int .i64 bk, .int .i64 cy, .string key, .slice Ad ds.length cd, .slice Ap ps.length cp, .slice (some ⟨bx, ox, none⟩) cs.length cc, .slice Ae es.length ce], .int .i64 (q : Int)] w' fun e w'' => e = .returned (.int .i64 BW) ∧ Below w'.heap.size w' w'') := Lib.hid (fun w' h => bound_any w' ⟨r, WW, bk, cy, key, ds, ps, cs, es⟩ _ _ _ _ ⟨h.2.1.1, h.2.1.2.1, h.2.1.2.2.1, h.2.1.2.2.2⟩ HSW.out HRW.out q ⟨x0, x1, x2, x3, .slice Ai xs.length ci, xs⟩ HX.out BW HBW2.out)
      have HCT : Hid (∀ w', HeadIs w w.heap.size ⟨r, wt, bk, cy, key, ds, ps, cs, es⟩ (.slice Ad ds.length cd) (.slice Ap ps.length cp) (.slice (some ⟨bx, ox, none⟩) cs.length cc) (.slice Ae es.length ce) #[.int .i64 r, .int .i64 wt, .int .i64 bk, .int .i64 cy, .string key, .slice Ad ds.length cd, .slice Ap ps.length cp, .slice (some ⟨bx, ox, none⟩) cs.length cc, .slice Ae es.length ce] w' → Calls Try.prog 15 #[.agg #[.int .i64 RR, .int .i64 wt, .int .i64 bk, .int .i64 cy, .string key, .slice Ad ds.length cd, .slice Ap ps.length cp, .slice (some ⟨bx, ox, none⟩) cs.length cc, .slice Ae es.length ce], .int .i64 (q : Int)] w' fun e w'' => e = .returned (.int .i64 BT) ∧ Below w'.heap.size w' w'') := Lib.hid (fun w' h => bound_any w' ⟨RR, wt, bk, cy, key, ds, ps, cs, es⟩ _ _ _ _ ⟨h.2.1.1, h.2.1.2.1, h.2.1.2.2.1, h.2.1.2.2.2⟩ HST.out HRT.out q ⟨x0, x1, x2, x3, .slice Ai xs.length ci, xs⟩ HX.out BT HBT2.out)
      have HCA : Hid (∀ w', HeadIs w w.heap.size ⟨r, wt, bk, cy, key, ds, ps, cs, es⟩ (.slice Ad ds.length cd) (.slice Ap ps.length cp) (.slice (some ⟨bx, ox, none⟩) cs.length cc) (.slice Ae es.length ce) #[.int .i64 r, .int .i64 wt, .int .i64 bk, .int .i64 cy, .string key, .slice Ad ds.length cd, .slice Ap ps.length cp, .slice (some ⟨bx, ox, none⟩) cs.length cc, .slice Ae es.length ce] w' → Calls Try.prog 16 #[.agg #[.int .i64 r, .int .i64 wt, .int .i64 bk, .int .i64 cy, .string key, .slice Ad ds.length cd, .slice Ap ps.length cp, .slice (some ⟨bx, ox, none⟩) cs.length cc, .slice Ae es.length ce]] w' fun e w'' => e = .returned (.int .i64 AG) ∧ Below w'.heap.size w' w'') := Lib.hid (fun w' h => age_any w' ⟨r, wt, bk, cy, key, ds, ps, cs, es⟩ _ _ _ _ h.2.1 HM.out AG (fun _ => HAG.out) (fun h => absurd HR.out h))
      clear HAG HBV HON HCP HXP HRW HRT HSW HST HBW2 HBT2 HX HS HM HR hsd hsp hsc hse hcd hcp hcc hce hql hci hxl hk hk0 hk2 hlt t1 t2 t3 t4 t5 t6 t7 t8 hc256 hcl0 hq0 hq1
      have z0 : w9.cell? ⟨w.heap.size, 0, none⟩ = some (.int .i64 r) := HT.out.1.2.2.cell 0
      have a0 : w9.cell? ⟨q1, 0, none⟩ = some (.int .i64 r) := HT.out.2.1.cell 0
      have b0 : w9.cell? ⟨q1 + 1, 0, none⟩ = some (.int .i64 RR) := HT.out.2.2.cell 0
      have z1 : w9.cell? ⟨w.heap.size, 1, none⟩ = some (.int .i64 wt) := HT.out.1.2.2.cell 1
      have a1 : w9.cell? ⟨q1, 1, none⟩ = some (.int .i64 WW) := HT.out.2.1.cell 1
      have b1 : w9.cell? ⟨q1 + 1, 1, none⟩ = some (.int .i64 wt) := HT.out.2.2.cell 1
      have z2 : w9.cell? ⟨w.heap.size, 2, none⟩ = some (.int .i64 bk) := HT.out.1.2.2.cell 2
      have a2 : w9.cell? ⟨q1, 2, none⟩ = some (.int .i64 bk) := HT.out.2.1.cell 2
      have b2 : w9.cell? ⟨q1 + 1, 2, none⟩ = some (.int .i64 bk) := HT.out.2.2.cell 2
      have z3 : w9.cell? ⟨w.heap.size, 3, none⟩ = some (.int .i64 cy) := HT.out.1.2.2.cell 3
      have a3 : w9.cell? ⟨q1, 3, none⟩ = some (.int .i64 cy) := HT.out.2.1.cell 3
      have b3 : w9.cell? ⟨q1 + 1, 3, none⟩ = some (.int .i64 cy) := HT.out.2.2.cell 3
      have z4 : w9.cell? ⟨w.heap.size, 4, none⟩ = some (.string key) := HT.out.1.2.2.cell 4
      have a4 : w9.cell? ⟨q1, 4, none⟩ = some (.string key) := HT.out.2.1.cell 4
      have b4 : w9.cell? ⟨q1 + 1, 4, none⟩ = some (.string key) := HT.out.2.2.cell 4
      have z5 : w9.cell? ⟨w.heap.size, 5, none⟩ = some (.slice Ad ds.length cd) := HT.out.1.2.2.cell 5
      have a5 : w9.cell? ⟨q1, 5, none⟩ = some (.slice Ad ds.length cd) := HT.out.2.1.cell 5
      have b5 : w9.cell? ⟨q1 + 1, 5, none⟩ = some (.slice Ad ds.length cd) := HT.out.2.2.cell 5
      have z6 : w9.cell? ⟨w.heap.size, 6, none⟩ = some (.slice Ap ps.length cp) := HT.out.1.2.2.cell 6
      have a6 : w9.cell? ⟨q1, 6, none⟩ = some (.slice Ap ps.length cp) := HT.out.2.1.cell 6
      have b6 : w9.cell? ⟨q1 + 1, 6, none⟩ = some (.slice Ap ps.length cp) := HT.out.2.2.cell 6
      have z7 : w9.cell? ⟨w.heap.size, 7, none⟩ = some (.slice (some ⟨bx, ox, none⟩) cs.length cc) := HT.out.1.2.2.cell 7
      have a7 : w9.cell? ⟨q1, 7, none⟩ = some (.slice (some ⟨bx, ox, none⟩) cs.length cc) := HT.out.2.1.cell 7
      have b7 : w9.cell? ⟨q1 + 1, 7, none⟩ = some (.slice (some ⟨bx, ox, none⟩) cs.length cc) := HT.out.2.2.cell 7
      have z8 : w9.cell? ⟨w.heap.size, 8, none⟩ = some (.slice Ae es.length ce) := HT.out.1.2.2.cell 8
      have a8 : w9.cell? ⟨q1, 8, none⟩ = some (.slice Ae es.length ce) := HT.out.2.1.cell 8
      have b8 : w9.cell? ⟨q1 + 1, 8, none⟩ = some (.slice Ae es.length ce) := HT.out.2.2.cell 8
      go_region_held3 (fun w' => w'.cell? ⟨w.heap.size, 0, none⟩ = some (.int .i64 r) ∧ w'.cell? ⟨q1, 0, none⟩ = some (.int .i64 r) ∧ w'.cell? ⟨q1 + 1, 0, none⟩ = some (.int .i64 RR) ∧ w'.cell? ⟨w.heap.size, 1, none⟩ = some (.int .i64 wt) ∧ w'.cell? ⟨q1, 1, none⟩ = some (.int .i64 WW) ∧ w'.cell? ⟨q1 + 1, 1, none⟩ = some (.int .i64 wt) ∧ w'.cell? ⟨w.heap.size, 2, none⟩ = some (.int .i64 bk) ∧ w'.cell? ⟨q1, 2, none⟩ = some (.int .i64 bk) ∧ w'.cell? ⟨q1 + 1, 2, none⟩ = some (.int .i64 bk) ∧ w'.cell? ⟨w.heap.size, 3, none⟩ = some (.int .i64 cy) ∧ w'.cell? ⟨q1, 3, none⟩ = some (.int .i64 cy) ∧ w'.cell? ⟨q1 + 1, 3, none⟩ = some (.int .i64 cy) ∧ w'.cell? ⟨w.heap.size, 4, none⟩ = some (.string key) ∧ w'.cell? ⟨q1, 4, none⟩ = some (.string key) ∧ w'.cell? ⟨q1 + 1, 4, none⟩ = some (.string key) ∧ w'.cell? ⟨w.heap.size, 5, none⟩ = some (.slice Ad ds.length cd) ∧ w'.cell? ⟨q1, 5, none⟩ = some (.slice Ad ds.length cd) ∧ w'.cell? ⟨q1 + 1, 5, none⟩ = some (.slice Ad ds.length cd) ∧ w'.cell? ⟨w.heap.size, 6, none⟩ = some (.slice Ap ps.length cp) ∧ w'.cell? ⟨q1, 6, none⟩ = some (.slice Ap ps.length cp) ∧ w'.cell? ⟨q1 + 1, 6, none⟩ = some (.slice Ap ps.length cp) ∧ w'.cell? ⟨w.heap.size, 7, none⟩ = some (.slice (some ⟨bx, ox, none⟩) cs.length cc) ∧ w'.cell? ⟨q1, 7, none⟩ = some (.slice (some ⟨bx, ox, none⟩) cs.length cc) ∧ w'.cell? ⟨q1 + 1, 7, none⟩ = some (.slice (some ⟨bx, ox, none⟩) cs.length cc) ∧ w'.cell? ⟨w.heap.size, 8, none⟩ = some (.slice Ae es.length ce) ∧ w'.cell? ⟨q1, 8, none⟩ = some (.slice Ae es.length ce) ∧ w'.cell? ⟨q1 + 1, 8, none⟩ = some (.slice Ae es.length ce))
        (exact ⟨z0, a0, b0, z1, a1, b1, z2, a2, b2, z3, a3, b3, z4, a4, b4, z5, a5, b5, z6, a6, b6, z7, a7, b7, z8, a8, b8⟩)
        (first
          | (go_at_call 15; (with_reducible show Calls _ _ #[.agg #[.int .i64 r, .int .i64 WW, .int .i64 bk, .int .i64 cy, .string key, .slice Ad ds.length cd, .slice Ap ps.length cp, .slice (some ⟨bx, ox, none⟩) cs.length cc, .slice Ae es.length ce], _] _ _); refine (HCW.out _ HT.out.1).mono ?_; rintro e w6 ⟨rfl, hb⟩; replace HT := Lib.hid (show HeadIs w w.heap.size ⟨r, wt, bk, cy, key, ds, ps, cs, es⟩ _ _ _ _ #[.int .i64 r, .int .i64 wt, .int .i64 bk, .int .i64 cy, .string key, .slice Ad ds.length cd, .slice Ap ps.length cp, .slice (some ⟨bx, ox, none⟩) cs.length cc, .slice Ae es.length ce] w6 ∧ Words.Blk w6 q1 27 #[.int .i64 r, .int .i64 WW, .int .i64 bk, .int .i64 cy, .string key, .slice Ad ds.length cd, .slice Ap ps.length cp, .slice (some ⟨bx, ox, none⟩) cs.length cc, .slice Ae es.length ce] ∧ Words.Blk w6 (q1 + 1) 27 #[.int .i64 RR, .int .i64 wt, .int .i64 bk, .int .i64 cy, .string key, .slice Ad ds.length cd, .slice Ap ps.length cp, .slice (some ⟨bx, ox, none⟩) cs.length cc, .slice Ae es.length ce] from ⟨HT.out.1.below hb, HT.out.2.1.below hb HT.out.2.1.lt, HT.out.2.2.below hb HT.out.2.2.lt⟩); replace z0 : w6.cell? ⟨w.heap.size, 0, none⟩ = some (.int .i64 r) := HT.out.1.2.2.cell 0; replace a0 : w6.cell? ⟨q1, 0, none⟩ = some (.int .i64 r) := HT.out.2.1.cell 0; replace b0 : w6.cell? ⟨q1 + 1, 0, none⟩ = some (.int .i64 RR) := HT.out.2.2.cell 0; replace z1 : w6.cell? ⟨w.heap.size, 1, none⟩ = some (.int .i64 wt) := HT.out.1.2.2.cell 1; replace a1 : w6.cell? ⟨q1, 1, none⟩ = some (.int .i64 WW) := HT.out.2.1.cell 1; replace b1 : w6.cell? ⟨q1 + 1, 1, none⟩ = some (.int .i64 wt) := HT.out.2.2.cell 1; replace z2 : w6.cell? ⟨w.heap.size, 2, none⟩ = some (.int .i64 bk) := HT.out.1.2.2.cell 2; replace a2 : w6.cell? ⟨q1, 2, none⟩ = some (.int .i64 bk) := HT.out.2.1.cell 2; replace b2 : w6.cell? ⟨q1 + 1, 2, none⟩ = some (.int .i64 bk) := HT.out.2.2.cell 2; replace z3 : w6.cell? ⟨w.heap.size, 3, none⟩ = some (.int .i64 cy) := HT.out.1.2.2.cell 3; replace a3 : w6.cell? ⟨q1, 3, none⟩ = some (.int .i64 cy) := HT.out.2.1.cell 3; replace b3 : w6.cell? ⟨q1 + 1, 3, none⟩ = some (.int .i64 cy) := HT.out.2.2.cell 3; replace z4 : w6.cell? ⟨w.heap.size, 4, none⟩ = some (.string key) := HT.out.1.2.2.cell 4; replace a4 : w6.cell? ⟨q1, 4, none⟩ = some (.string key) := HT.out.2.1.cell 4; replace b4 : w6.cell? ⟨q1 + 1, 4, none⟩ = some (.string key) := HT.out.2.2.cell 4; replace z5 : w6.cell? ⟨w.heap.size, 5, none⟩ = some (.slice Ad ds.length cd) := HT.out.1.2.2.cell 5; replace a5 : w6.cell? ⟨q1, 5, none⟩ = some (.slice Ad ds.length cd) := HT.out.2.1.cell 5; replace b5 : w6.cell? ⟨q1 + 1, 5, none⟩ = some (.slice Ad ds.length cd) := HT.out.2.2.cell 5; replace z6 : w6.cell? ⟨w.heap.size, 6, none⟩ = some (.slice Ap ps.length cp) := HT.out.1.2.2.cell 6; replace a6 : w6.cell? ⟨q1, 6, none⟩ = some (.slice Ap ps.length cp) := HT.out.2.1.cell 6; replace b6 : w6.cell? ⟨q1 + 1, 6, none⟩ = some (.slice Ap ps.length cp) := HT.out.2.2.cell 6; replace z7 : w6.cell? ⟨w.heap.size, 7, none⟩ = some (.slice (some ⟨bx, ox, none⟩) cs.length cc) := HT.out.1.2.2.cell 7; replace a7 : w6.cell? ⟨q1, 7, none⟩ = some (.slice (some ⟨bx, ox, none⟩) cs.length cc) := HT.out.2.1.cell 7; replace b7 : w6.cell? ⟨q1 + 1, 7, none⟩ = some (.slice (some ⟨bx, ox, none⟩) cs.length cc) := HT.out.2.2.cell 7; replace z8 : w6.cell? ⟨w.heap.size, 8, none⟩ = some (.slice Ae es.length ce) := HT.out.1.2.2.cell 8; replace a8 : w6.cell? ⟨q1, 8, none⟩ = some (.slice Ae es.length ce) := HT.out.2.1.cell 8; replace b8 : w6.cell? ⟨q1 + 1, 8, none⟩ = some (.slice Ae es.length ce) := HT.out.2.2.cell 8; clear hb)
          | (go_at_call 15; (with_reducible show Calls _ _ #[.agg #[.int .i64 RR, .int .i64 wt, .int .i64 bk, .int .i64 cy, .string key, .slice Ad ds.length cd, .slice Ap ps.length cp, .slice (some ⟨bx, ox, none⟩) cs.length cc, .slice Ae es.length ce], _] _ _); refine (HCT.out _ HT.out.1).mono ?_; rintro e w6 ⟨rfl, hb⟩; replace HT := Lib.hid (show HeadIs w w.heap.size ⟨r, wt, bk, cy, key, ds, ps, cs, es⟩ _ _ _ _ #[.int .i64 r, .int .i64 wt, .int .i64 bk, .int .i64 cy, .string key, .slice Ad ds.length cd, .slice Ap ps.length cp, .slice (some ⟨bx, ox, none⟩) cs.length cc, .slice Ae es.length ce] w6 ∧ Words.Blk w6 q1 27 #[.int .i64 r, .int .i64 WW, .int .i64 bk, .int .i64 cy, .string key, .slice Ad ds.length cd, .slice Ap ps.length cp, .slice (some ⟨bx, ox, none⟩) cs.length cc, .slice Ae es.length ce] ∧ Words.Blk w6 (q1 + 1) 27 #[.int .i64 RR, .int .i64 wt, .int .i64 bk, .int .i64 cy, .string key, .slice Ad ds.length cd, .slice Ap ps.length cp, .slice (some ⟨bx, ox, none⟩) cs.length cc, .slice Ae es.length ce] from ⟨HT.out.1.below hb, HT.out.2.1.below hb HT.out.2.1.lt, HT.out.2.2.below hb HT.out.2.2.lt⟩); replace z0 : w6.cell? ⟨w.heap.size, 0, none⟩ = some (.int .i64 r) := HT.out.1.2.2.cell 0; replace a0 : w6.cell? ⟨q1, 0, none⟩ = some (.int .i64 r) := HT.out.2.1.cell 0; replace b0 : w6.cell? ⟨q1 + 1, 0, none⟩ = some (.int .i64 RR) := HT.out.2.2.cell 0; replace z1 : w6.cell? ⟨w.heap.size, 1, none⟩ = some (.int .i64 wt) := HT.out.1.2.2.cell 1; replace a1 : w6.cell? ⟨q1, 1, none⟩ = some (.int .i64 WW) := HT.out.2.1.cell 1; replace b1 : w6.cell? ⟨q1 + 1, 1, none⟩ = some (.int .i64 wt) := HT.out.2.2.cell 1; replace z2 : w6.cell? ⟨w.heap.size, 2, none⟩ = some (.int .i64 bk) := HT.out.1.2.2.cell 2; replace a2 : w6.cell? ⟨q1, 2, none⟩ = some (.int .i64 bk) := HT.out.2.1.cell 2; replace b2 : w6.cell? ⟨q1 + 1, 2, none⟩ = some (.int .i64 bk) := HT.out.2.2.cell 2; replace z3 : w6.cell? ⟨w.heap.size, 3, none⟩ = some (.int .i64 cy) := HT.out.1.2.2.cell 3; replace a3 : w6.cell? ⟨q1, 3, none⟩ = some (.int .i64 cy) := HT.out.2.1.cell 3; replace b3 : w6.cell? ⟨q1 + 1, 3, none⟩ = some (.int .i64 cy) := HT.out.2.2.cell 3; replace z4 : w6.cell? ⟨w.heap.size, 4, none⟩ = some (.string key) := HT.out.1.2.2.cell 4; replace a4 : w6.cell? ⟨q1, 4, none⟩ = some (.string key) := HT.out.2.1.cell 4; replace b4 : w6.cell? ⟨q1 + 1, 4, none⟩ = some (.string key) := HT.out.2.2.cell 4; replace z5 : w6.cell? ⟨w.heap.size, 5, none⟩ = some (.slice Ad ds.length cd) := HT.out.1.2.2.cell 5; replace a5 : w6.cell? ⟨q1, 5, none⟩ = some (.slice Ad ds.length cd) := HT.out.2.1.cell 5; replace b5 : w6.cell? ⟨q1 + 1, 5, none⟩ = some (.slice Ad ds.length cd) := HT.out.2.2.cell 5; replace z6 : w6.cell? ⟨w.heap.size, 6, none⟩ = some (.slice Ap ps.length cp) := HT.out.1.2.2.cell 6; replace a6 : w6.cell? ⟨q1, 6, none⟩ = some (.slice Ap ps.length cp) := HT.out.2.1.cell 6; replace b6 : w6.cell? ⟨q1 + 1, 6, none⟩ = some (.slice Ap ps.length cp) := HT.out.2.2.cell 6; replace z7 : w6.cell? ⟨w.heap.size, 7, none⟩ = some (.slice (some ⟨bx, ox, none⟩) cs.length cc) := HT.out.1.2.2.cell 7; replace a7 : w6.cell? ⟨q1, 7, none⟩ = some (.slice (some ⟨bx, ox, none⟩) cs.length cc) := HT.out.2.1.cell 7; replace b7 : w6.cell? ⟨q1 + 1, 7, none⟩ = some (.slice (some ⟨bx, ox, none⟩) cs.length cc) := HT.out.2.2.cell 7; replace z8 : w6.cell? ⟨w.heap.size, 8, none⟩ = some (.slice Ae es.length ce) := HT.out.1.2.2.cell 8; replace a8 : w6.cell? ⟨q1, 8, none⟩ = some (.slice Ae es.length ce) := HT.out.2.1.cell 8; replace b8 : w6.cell? ⟨q1 + 1, 8, none⟩ = some (.slice Ae es.length ce) := HT.out.2.2.cell 8; clear hb)
          | (go_at_call 16; refine (HCA.out _ HT.out.1).mono ?_; rintro e w6 ⟨rfl, hb⟩; replace HT := Lib.hid (show HeadIs w w.heap.size ⟨r, wt, bk, cy, key, ds, ps, cs, es⟩ _ _ _ _ #[.int .i64 r, .int .i64 wt, .int .i64 bk, .int .i64 cy, .string key, .slice Ad ds.length cd, .slice Ap ps.length cp, .slice (some ⟨bx, ox, none⟩) cs.length cc, .slice Ae es.length ce] w6 ∧ Words.Blk w6 q1 27 #[.int .i64 r, .int .i64 WW, .int .i64 bk, .int .i64 cy, .string key, .slice Ad ds.length cd, .slice Ap ps.length cp, .slice (some ⟨bx, ox, none⟩) cs.length cc, .slice Ae es.length ce] ∧ Words.Blk w6 (q1 + 1) 27 #[.int .i64 RR, .int .i64 wt, .int .i64 bk, .int .i64 cy, .string key, .slice Ad ds.length cd, .slice Ap ps.length cp, .slice (some ⟨bx, ox, none⟩) cs.length cc, .slice Ae es.length ce] from ⟨HT.out.1.below hb, HT.out.2.1.below hb HT.out.2.1.lt, HT.out.2.2.below hb HT.out.2.2.lt⟩); replace z0 : w6.cell? ⟨w.heap.size, 0, none⟩ = some (.int .i64 r) := HT.out.1.2.2.cell 0; replace a0 : w6.cell? ⟨q1, 0, none⟩ = some (.int .i64 r) := HT.out.2.1.cell 0; replace b0 : w6.cell? ⟨q1 + 1, 0, none⟩ = some (.int .i64 RR) := HT.out.2.2.cell 0; replace z1 : w6.cell? ⟨w.heap.size, 1, none⟩ = some (.int .i64 wt) := HT.out.1.2.2.cell 1; replace a1 : w6.cell? ⟨q1, 1, none⟩ = some (.int .i64 WW) := HT.out.2.1.cell 1; replace b1 : w6.cell? ⟨q1 + 1, 1, none⟩ = some (.int .i64 wt) := HT.out.2.2.cell 1; replace z2 : w6.cell? ⟨w.heap.size, 2, none⟩ = some (.int .i64 bk) := HT.out.1.2.2.cell 2; replace a2 : w6.cell? ⟨q1, 2, none⟩ = some (.int .i64 bk) := HT.out.2.1.cell 2; replace b2 : w6.cell? ⟨q1 + 1, 2, none⟩ = some (.int .i64 bk) := HT.out.2.2.cell 2; replace z3 : w6.cell? ⟨w.heap.size, 3, none⟩ = some (.int .i64 cy) := HT.out.1.2.2.cell 3; replace a3 : w6.cell? ⟨q1, 3, none⟩ = some (.int .i64 cy) := HT.out.2.1.cell 3; replace b3 : w6.cell? ⟨q1 + 1, 3, none⟩ = some (.int .i64 cy) := HT.out.2.2.cell 3; replace z4 : w6.cell? ⟨w.heap.size, 4, none⟩ = some (.string key) := HT.out.1.2.2.cell 4; replace a4 : w6.cell? ⟨q1, 4, none⟩ = some (.string key) := HT.out.2.1.cell 4; replace b4 : w6.cell? ⟨q1 + 1, 4, none⟩ = some (.string key) := HT.out.2.2.cell 4; replace z5 : w6.cell? ⟨w.heap.size, 5, none⟩ = some (.slice Ad ds.length cd) := HT.out.1.2.2.cell 5; replace a5 : w6.cell? ⟨q1, 5, none⟩ = some (.slice Ad ds.length cd) := HT.out.2.1.cell 5; replace b5 : w6.cell? ⟨q1 + 1, 5, none⟩ = some (.slice Ad ds.length cd) := HT.out.2.2.cell 5; replace z6 : w6.cell? ⟨w.heap.size, 6, none⟩ = some (.slice Ap ps.length cp) := HT.out.1.2.2.cell 6; replace a6 : w6.cell? ⟨q1, 6, none⟩ = some (.slice Ap ps.length cp) := HT.out.2.1.cell 6; replace b6 : w6.cell? ⟨q1 + 1, 6, none⟩ = some (.slice Ap ps.length cp) := HT.out.2.2.cell 6; replace z7 : w6.cell? ⟨w.heap.size, 7, none⟩ = some (.slice (some ⟨bx, ox, none⟩) cs.length cc) := HT.out.1.2.2.cell 7; replace a7 : w6.cell? ⟨q1, 7, none⟩ = some (.slice (some ⟨bx, ox, none⟩) cs.length cc) := HT.out.2.1.cell 7; replace b7 : w6.cell? ⟨q1 + 1, 7, none⟩ = some (.slice (some ⟨bx, ox, none⟩) cs.length cc) := HT.out.2.2.cell 7; replace z8 : w6.cell? ⟨w.heap.size, 8, none⟩ = some (.slice Ae es.length ce) := HT.out.1.2.2.cell 8; replace a8 : w6.cell? ⟨q1, 8, none⟩ = some (.slice Ae es.length ce) := HT.out.2.1.cell 8; replace b8 : w6.cell? ⟨q1 + 1, 8, none⟩ = some (.slice Ae es.length ce) := HT.out.2.2.cell 8; clear hb))
      all_goals go_wp2_with fail
      all_goals go_ret
      all_goals exact ⟨rfl, HT.out.1.1⟩
end Go.Proofs.Ytbpenoelmangkaa
