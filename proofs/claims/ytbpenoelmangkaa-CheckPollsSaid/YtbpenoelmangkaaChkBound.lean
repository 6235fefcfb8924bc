/-
  check: Bound, walked.
-/
import Derived.Test.YtbpenoelmangkaaChkAge
namespace Go.Proofs.Ytbpenoelmangkaa
open Go.RowKit
/-- how long a point's On is -/
def onOf (ps : List Pt) (i : Int) : Int := match ps[i.toNat]? with | some p => p.on | none => 0
theorem onOf_of {ps : List Pt} {k : Nat} {p : Pt} (h : ps[k]? = some p) : onOf ps (k : Int) = p.on := by
  unfold onOf
  rw [Int.toNat_natCast, h]
def onMax (ps : List Pt) (l : List Int) : Int := l.foldl (fun a i => max a (onOf ps i)) 0
theorem onMax_next {ps : List Pt} {l : List Int} {k : Nat} {i : Int} (h : l[k]? = some i) : onMax ps (l.take (k + 1)) = max (onMax ps (l.take k)) (onOf ps i) := by
  unfold onMax
  rw [List.take_add_one, h]
  simp [List.foldl_append]
def boundAt (m : Mat) (x : Cs) : Int := m.back + m.cycle + onMax m.pts x.pts + 8 + 3 * m.jobs * m.each
theorem prod3_in (m : Mat) : 3 * m.jobs * m.each = 3 * (m.jobs * m.each) := by rw [Int.mul_assoc]
/-- the points of a right matrix's cause are there -/
theorem cs_pt {m : Mat} (hr : RightP m) {x : Cs} (hx : x ∈ m.css) {i : Int} (hi : i ∈ x.pts) : ∃ (k : Nat) (p : Pt), i = (k : Int) ∧ m.pts[k]? = some p ∧ 0 ≤ p.on ∧ p.on ≤ 1000 := by
  obtain ⟨j, hj⟩ := List.getElem?_of_mem hx
  obtain ⟨⟨-, -, h1⟩, -⟩ := hr.2.2.2.2.1.2 j x hj
  obtain ⟨a, ha⟩ := List.getElem?_of_mem hi
  obtain ⟨⟨h2, h3⟩, -⟩ := h1 a i ha
  have h4 : i.toNat < m.pts.length := by omega
  obtain ⟨-, -, -, h5, -⟩ := hr.2.2.2.1.2 i.toNat _ (List.getElem?_eq_getElem h4)
  exact ⟨i.toNat, _, by omega, List.getElem?_eq_getElem h4, h5⟩
set_option maxHeartbeats 4000000 in
set_option maxRecDepth 100000 in
theorem bound_none (w : World) (m : Mat) (vd vp vc ve : Value) (h : MatAt w m vd vp vc ve) (hm : MatSmall m) (hr : RightP m) (n : Int) (hn : ¬ (0 ≤ n ∧ n < (m.css.length : Int))) :
    Calls Try.prog 15 #[m.val vd vp vc ve, .int .i64 n] w fun e w' => e = .returned (.int .i64 0) ∧ Below w.heap.size w w' := by
  obtain ⟨r, wt, bk, cy, key, ds, ps, cs, es⟩ := m
  obtain ⟨Ad, cd, e, hcd, -⟩ := id h.1
  simp only at e
  subst e
  obtain ⟨Ap, cp, e, hcp, -⟩ := id h.2.1
  simp only at e
  subst e
  obtain ⟨Ac, cc, e, hcc, -⟩ := id h.2.2.1.1
  simp only at e
  subst e
  obtain ⟨Ae, ce, e, hce, -⟩ := id h.2.2.2.1
  simp only at e
  subst e
  have hsd : ds.length ≤ 4 := hr.2.2.1.1
  have hsp : ps.length ≤ 16 := hr.2.2.2.1.1
  have hsc : cs.length ≤ 8 := hr.2.2.2.2.1.1
  have hse : es.length ≤ 8 := hr.2.2.2.2.2.1.1
  have HL := Lib.hid h
  have HM := Lib.hid hm
  have HR := Lib.hid hr
  clear h hm hr
  unfold Mat.val
  simp only
  have HQ : Hid (Below w.heap.size w (w.alloc (.cells #[.int .i64 r, .int .i64 wt, .int .i64 bk, .int .i64 cy, .string key, .slice Ad ds.length cd, .slice Ap ps.length cp, .slice Ac cs.length cc, .slice Ae es.length ce] 27)) ∧ Words.Blk (w.alloc (.cells #[.int .i64 r, .int .i64 wt, .int .i64 bk, .int .i64 cy, .string key, .slice Ad ds.length cd, .slice Ap ps.length cp, .slice Ac cs.length cc, .slice Ae es.length ce] 27)) w.heap.size 27 #[.int .i64 r, .int .i64 wt, .int .i64 bk, .int .i64 cy, .string key, .slice Ad ds.length cd, .slice Ap ps.length cp, .slice Ac cs.length cc, .slice Ae es.length ce]) := Lib.hid ⟨(Below.refl _ _).alloc (Nat.le_refl _) _, Words.Blk.new w _ _⟩
  have HN := Lib.hid hn
  clear hn
  go_enter Try.func15, Try.ntmps15
  go_wp2_with fail
  refine (lRight_any _ ⟨r, wt, bk, cy, key, ds, ps, cs, es⟩ _ _ _ _ (MatAt.below HL.out HQ.out.1) HM.out).mono ?_
  rintro e w1 ⟨b1, rfl, hb1, hB⟩
  obtain rfl : b1 = true := hb1.2 HR.out
  have HQ : Hid (Below w.heap.size w w1 ∧ Words.Blk w1 w.heap.size 27 #[.int .i64 r, .int .i64 wt, .int .i64 bk, .int .i64 cy, .string key, .slice Ad ds.length cd, .slice Ap ps.length cp, .slice Ac cs.length cc, .slice Ae es.length ce]) := Lib.hid ⟨HQ.out.1.trans (hB.mono HQ.out.1.size), HQ.out.2.below hB HQ.out.2.lt⟩
  clear hb1 hB
  have z0 : w1.cell? ⟨w.heap.size, 0, none⟩ = some (.int .i64 r) := HQ.out.2.cell 0
  have z1 : w1.cell? ⟨w.heap.size, 1, none⟩ = some (.int .i64 wt) := HQ.out.2.cell 1
  have z2 : w1.cell? ⟨w.heap.size, 2, none⟩ = some (.int .i64 bk) := HQ.out.2.cell 2
  have z3 : w1.cell? ⟨w.heap.size, 3, none⟩ = some (.int .i64 cy) := HQ.out.2.cell 3
  have z4 : w1.cell? ⟨w.heap.size, 4, none⟩ = some (.string key) := HQ.out.2.cell 4
  have z5 : w1.cell? ⟨w.heap.size, 5, none⟩ = some (.slice Ad ds.length cd) := HQ.out.2.cell 5
  have z6 : w1.cell? ⟨w.heap.size, 6, none⟩ = some (.slice Ap ps.length cp) := HQ.out.2.cell 6
  have z7 : w1.cell? ⟨w.heap.size, 7, none⟩ = some (.slice Ac cs.length cc) := HQ.out.2.cell 7
  have z8 : w1.cell? ⟨w.heap.size, 8, none⟩ = some (.slice Ae es.length ce) := HQ.out.2.cell 8
  go_wp2_with fail
  refine (cwithin_any _ n (cs.length : Int)).mono ?_
  rintro e w2 ⟨rfl, rfl⟩
  rw [decide_eq_false HN.out]
  go_wp2_with fail
  go_ret
  exact ⟨rfl, HQ.out.1⟩
set_option maxHeartbeats 4000000 in
set_option maxRecDepth 100000 in
theorem bound_any (w : World) (m : Mat) (vd vp vc ve : Value) (h : MatAt w m vd vp vc ve) (hm : MatSmall m) (hr : RightP m) (n : Nat) (x : Cs) (hx : m.css[n]? = some x) (R : Int) (hR : R = boundAt m x) :
    Calls Try.prog 15 #[m.val vd vp vc ve, .int .i64 (n : Int)] w fun e w' => e = .returned (.int .i64 R) ∧ Below w.heap.size w w' := by
  obtain ⟨r, wt, bk, cy, key, ds, ps, cs, es⟩ := m
  obtain ⟨Ad, cd, e, hcd, -⟩ := id h.1
  simp only at e
  subst e
  obtain ⟨Ap, cp, e, hcp, -⟩ := id h.2.1
  simp only at e
  subst e
  obtain ⟨Ac, cc, e, hcc, -⟩ := id h.2.2.1.1
  simp only at e
  subst e
  obtain ⟨Ae, ce, e, hce, -⟩ := id h.2.2.2.1
  simp only at e
  subst e
  have hsd : ds.length ≤ 4 := hr.2.2.1.1
  have hsp : ps.length ≤ 16 := hr.2.2.2.1.1
  have hsc : cs.length ≤ 8 := hr.2.2.2.2.1.1
  have hse : es.length ≤ 8 := hr.2.2.2.2.2.1.1
  have HL := Lib.hid h
  have HM := Lib.hid hm
  have HR := Lib.hid hr
  clear h hm hr
  unfold Mat.val
  simp only
  have HQ : Hid (Below w.heap.size w (w.alloc (.cells #[.int .i64 r, .int .i64 wt, .int .i64 bk, .int .i64 cy, .string key, .slice Ad ds.length cd, .slice Ap ps.length cp, .slice Ac cs.length cc, .slice Ae es.length ce] 27)) ∧ Words.Blk (w.alloc (.cells #[.int .i64 r, .int .i64 wt, .int .i64 bk, .int .i64 cy, .string key, .slice Ad ds.length cd, .slice Ap ps.length cp, .slice Ac cs.length cc, .slice Ae es.length ce] 27)) w.heap.size 27 #[.int .i64 r, .int .i64 wt, .int .i64 bk, .int .i64 cy, .string key, .slice Ad ds.length cd, .slice Ap ps.length cp, .slice Ac cs.length cc, .slice Ae es.length ce]) := Lib.hid ⟨(Below.refl _ _).alloc (Nat.le_refl _) _, Words.Blk.new w _ _⟩
  have HRR := Lib.hid hR
  have HX := Lib.hid hx
  simp only at HX
  have hn : n < cs.length := (List.getElem?_eq_some_iff.1 HX.out).1
  have hn1 : (n : Int) < (cs.length : Int) := by omega
  have hn0 : (0 : Int) ≤ (n : Int) := by omega
  clear hx hR
  go_enter Try.func15, Try.ntmps15
  go_wp2_with fail
  refine (lRight_any _ ⟨r, wt, bk, cy, key, ds, ps, cs, es⟩ _ _ _ _ (MatAt.below HL.out HQ.out.1) HM.out).mono ?_
  rintro e w1 ⟨b1, rfl, hb1, hB⟩
  obtain rfl : b1 = true := hb1.2 HR.out
  have HQ : Hid (Below w.heap.size w w1 ∧ Words.Blk w1 w.heap.size 27 #[.int .i64 r, .int .i64 wt, .int .i64 bk, .int .i64 cy, .string key, .slice Ad ds.length cd, .slice Ap ps.length cp, .slice Ac cs.length cc, .slice Ae es.length ce]) := Lib.hid ⟨HQ.out.1.trans (hB.mono HQ.out.1.size), HQ.out.2.below hB HQ.out.2.lt⟩
  clear hb1 hB
  have z0 : w1.cell? ⟨w.heap.size, 0, none⟩ = some (.int .i64 r) := HQ.out.2.cell 0
  have z1 : w1.cell? ⟨w.heap.size, 1, none⟩ = some (.int .i64 wt) := HQ.out.2.cell 1
  have z2 : w1.cell? ⟨w.heap.size, 2, none⟩ = some (.int .i64 bk) := HQ.out.2.cell 2
  have z3 : w1.cell? ⟨w.heap.size, 3, none⟩ = some (.int .i64 cy) := HQ.out.2.cell 3
  have z4 : w1.cell? ⟨w.heap.size, 4, none⟩ = some (.string key) := HQ.out.2.cell 4
  have z5 : w1.cell? ⟨w.heap.size, 5, none⟩ = some (.slice Ad ds.length cd) := HQ.out.2.cell 5
  have z6 : w1.cell? ⟨w.heap.size, 6, none⟩ = some (.slice Ap ps.length cp) := HQ.out.2.cell 6
  have z7 : w1.cell? ⟨w.heap.size, 7, none⟩ = some (.slice Ac cs.length cc) := HQ.out.2.cell 7
  have z8 : w1.cell? ⟨w.heap.size, 8, none⟩ = some (.slice Ae es.length ce) := HQ.out.2.cell 8
  go_wp2_with fail
  refine (cwithin_any _ n (cs.length : Int)).mono ?_
  rintro e w2 ⟨rfl, rfl⟩
  rw [decide_eq_true ⟨hn0, hn1⟩]
  obtain ⟨b, off, hA, hb, hcell⟩ := row_at (HL.out.2.2.1.below HQ.out.1).1 HX.out
  subst hA
  have y0 := hcell 0 _ rfl
  have y1 := hcell 1 _ rfl
  have y2 := hcell 2 _ rfl
  have y3 := hcell 3 _ rfl
  have y4 := hcell 4 _ rfl
  simp only [Nat.add_zero] at y0
  obtain ⟨x0, x1, x2, x3, xv, xs⟩ := x
  simp only at y0 y1 y2 y3 y4
  have HPT := Lib.hid (HL.out.2.2.1.2 _ (List.mem_of_getElem? HX.out))
  have hxl : xs.length ≤ 4 := by have := (HR.out.2.2.2.2.1.2 _ _ HX.out).1.2.1; simp only at this; omega
  have HCP : Hid (∀ i ∈ xs, ∃ (k : Nat) (p : Pt), i = (k : Int) ∧ ps[k]? = some p ∧ 0 ≤ p.on ∧ p.on ≤ 1000) := Lib.hid (fun i hi => cs_pt HR.out (List.mem_of_getElem? HX.out) hi)
  obtain ⟨Ai, ci, e, hci, -⟩ := id HPT.out
  simp only at e
  subst e
  clear hcell hb
  go_wp2_with fail
  clear y0 y1 y2 y3 y4 z0 z1 z2 z3 z4 z5 z6 z7 z8
  go_loopw [5, 26] (fun o i wr => ∃ (k : Nat) (N : Int), k ≤ xs.length ∧ i = .int .i64 k ∧ o = .int .i64 N ∧ (0 ≤ N ∧ N ≤ 1000) ∧ Hid (N = onMax ps (xs.take k)) ∧ Hid (Below w.heap.size w wr ∧ Words.Blk wr w.heap.size 27 #[.int .i64 r, .int .i64 wt, .int .i64 bk, .int .i64 cy, .string key, .slice Ad ds.length cd, .slice Ap ps.length cp, .slice (some ⟨b, off, none⟩) cs.length cc, .slice Ae es.length ce])) (fun _ i _ => xs.length - (intOf i).toNat)
  case atStart => exact ⟨0, 0, Nat.zero_le _, rfl, rfl, ⟨by omega, by omega⟩, Lib.hid rfl, HQ⟩
  case round =>
    clear HQ
    obtain ⟨k, N, hk, rfl, rfl, hN, HN, HQ⟩ := hrel
    have hk0 : (0 : Int) ≤ (k : Int) := by omega
    by_cases hlt : k < xs.length
    · obtain ⟨i, hi⟩ : ∃ i, xs[k]? = some i := ⟨_, List.getElem?_eq_getElem hlt⟩
      obtain ⟨b1, off1, hA, hcell⟩ := one_at (NumsAt.below HPT.out HQ.out.1) hi
      subst hA
      have y0 := hcell _ rfl
      have HI := Lib.hid hi
      obtain ⟨j, p, hij, hp, hp0, hp1⟩ := HCP.out i (List.mem_of_getElem? hi)
      subst hij
      obtain ⟨b2, off2, hA, hb, hcell2⟩ := row_at (LawFrame.RowsAt.below HL.out.2.1 HQ.out.1) hp
      subst hA
      obtain ⟨p0, p1, p2, p3, p4, p5⟩ := p
      have q0 := hcell2 0 _ rfl
      have q1 := hcell2 1 _ rfl
      have q2 := hcell2 2 _ rfl
      have q3 := hcell2 3 _ rfl
      have q4 := hcell2 4 _ rfl
      have q5 := hcell2 5 _ rfl
      simp only [Nat.add_zero] at q0 q1 q2 q3 q4 q5 hp0 hp1
      have hjl : j < ps.length := (List.getElem?_eq_some_iff.1 hp).1
      have hj1 : (j : Int) < (ps.length : Int) := by omega
      have hj0 : (0 : Int) ≤ (j : Int) := by omega
      have hk1 : (k : Int) < (xs.length : Int) := by omega
      have HNX : Hid (max N p4 = onMax ps (xs.take (k + 1))) := Lib.hid (by rw [onMax_next HI.out, onOf_of hp, HN.out])
      have z6 : wr.cell? ⟨w.heap.size, 6, none⟩ = some (.slice (some ⟨b2, off2, none⟩) ps.length cp) := HQ.out.2.cell 6
      clear hcell hcell2 hb hp hi
      by_cases hmx : N ≤ p4
      · have HNY := Lib.hid (show p4 = onMax ps (xs.take (k + 1)) by rw [← HNX.out]; omega)
        go_wp2_with fail
        go_roundw
        case rel => exact ⟨k + 1, p4, by omega, by go_num, by go_num, ⟨by omega, by omega⟩, HNY, HQ⟩
        case measure => simp [intOf]; omega
      · have HNY := Lib.hid (show N = onMax ps (xs.take (k + 1)) by rw [← HNX.out]; omega)
        go_wp2_with fail
        go_roundw
        case rel => exact ⟨k + 1, N, by omega, by go_num, by go_num, ⟨by omega, by omega⟩, HNY, HQ⟩
        case measure => simp [intOf]; omega
    · have hkl : k = xs.length := by omega
      have HNF : Hid (N = onMax ps xs) := Lib.hid (by have h := HN.out; rw [hkl, List.take_length] at h; exact h)
      clear hkl HN
      have hk2 : ¬ (k : Int) < (xs.length : Int) := by omega
      obtain ⟨J, hJ⟩ : ∃ J, J = Mat.jobs ⟨r, wt, bk, cy, key, ds, ps, cs, es⟩ := ⟨_, rfl⟩
      obtain ⟨E, hE⟩ : ∃ E, E = Mat.each ⟨r, wt, bk, cy, key, ds, ps, cs, es⟩ := ⟨_, rfl⟩
      obtain ⟨J3, hJ3⟩ : ∃ J3, J3 = 3 * J := ⟨_, rfl⟩
      obtain ⟨P, hP⟩ : ∃ P, P = J3 * E := ⟨_, rfl⟩
      have hPi : 0 ≤ P ∧ P ≤ 528066 := by
        have := prod_in HR.out
        rw [hP, hJ3, hJ, hE, prod3_in]; omega
      have hJi := jobs_in HR.out
      rw [← hJ] at hJi
      have HA2 : Hid (R = bk + cy + N + 8 + P) := Lib.hid (by rw [HRR.out, hP, hJ3, hJ, hE, HNF.out]; rfl)
      have HJ := Lib.hid hJ
      have HE := Lib.hid hE
      obtain ⟨-, -, ⟨b1, b2⟩, b3, b4⟩ := HR.out.1
      simp only at b1 b2 b3 b4
      have hw1 : IntKind.i64.wrap (bk + cy) = bk + cy := IntWalk.i64_in _ (by omega)
      have hw2 : IntKind.i64.wrap (bk + cy + N) = bk + cy + N := IntWalk.i64_in _ (by omega)
      have hw3 : IntKind.i64.wrap (bk + cy + N + 8) = bk + cy + N + 8 := IntWalk.i64_in _ (by omega)
      have hw4 : IntKind.i64.wrap (3 * J) = J3 := by rw [hJ3]; exact IntWalk.i64_in _ (by omega)
      have hw5 : IntKind.i64.wrap (J3 * E) = P := by rw [← hP]; exact IntWalk.i64_in _ (by omega)
      have hw6 : IntKind.i64.wrap (bk + cy + N + 8 + P) = bk + cy + N + 8 + P := IntWalk.i64_in _ (by omega)
      clear hJ hE hP hJ3 HRR HNF
      have z0 : wr.cell? ⟨w.heap.size, 0, none⟩ = some (.int .i64 r) := HQ.out.2.cell 0
      have z1 : wr.cell? ⟨w.heap.size, 1, none⟩ = some (.int .i64 wt) := HQ.out.2.cell 1
      have z2 : wr.cell? ⟨w.heap.size, 2, none⟩ = some (.int .i64 bk) := HQ.out.2.cell 2
      have z3 : wr.cell? ⟨w.heap.size, 3, none⟩ = some (.int .i64 cy) := HQ.out.2.cell 3
      have z4 : wr.cell? ⟨w.heap.size, 4, none⟩ = some (.string key) := HQ.out.2.cell 4
      have z5 : wr.cell? ⟨w.heap.size, 5, none⟩ = some (.slice Ad ds.length cd) := HQ.out.2.cell 5
      have z6 : wr.cell? ⟨w.heap.size, 6, none⟩ = some (.slice Ap ps.length cp) := HQ.out.2.cell 6
      have z7 : wr.cell? ⟨w.heap.size, 7, none⟩ = some (.slice (some ⟨b, off, none⟩) cs.length cc) := HQ.out.2.cell 7
      have z8 : wr.cell? ⟨w.heap.size, 8, none⟩ = some (.slice Ae es.length ce) := HQ.out.2.cell 8
      go_upto_region 9 with fail
      have HS : Hid (Below w.heap.size w wr.drew ∧ Words.Blk wr.drew w.heap.size 27 #[.int .i64 r, .int .i64 wt, .int .i64 bk, .int .i64 cy, .string key, .slice Ad ds.length cd, .slice Ap ps.length cp, .slice (some ⟨b, off, none⟩) cs.length cc, .slice Ae es.length ce]) := Lib.hid ⟨HQ.out.1.drew, HQ.out.2.drew⟩
      clear HQ
      go_region_held3 (fun w' => w'.cell? ⟨w.heap.size, 0, none⟩ = some (.int .i64 r) ∧ w'.cell? ⟨w.heap.size, 1, none⟩ = some (.int .i64 wt) ∧ w'.cell? ⟨w.heap.size, 2, none⟩ = some (.int .i64 bk) ∧ w'.cell? ⟨w.heap.size, 3, none⟩ = some (.int .i64 cy) ∧ w'.cell? ⟨w.heap.size, 4, none⟩ = some (.string key) ∧ w'.cell? ⟨w.heap.size, 5, none⟩ = some (.slice Ad ds.length cd) ∧ w'.cell? ⟨w.heap.size, 6, none⟩ = some (.slice Ap ps.length cp) ∧ w'.cell? ⟨w.heap.size, 7, none⟩ = some (.slice (some ⟨b, off, none⟩) cs.length cc) ∧ w'.cell? ⟨w.heap.size, 8, none⟩ = some (.slice Ae es.length ce))
        (exact ⟨z0, z1, z2, z3, z4, z5, z6, z7, z8⟩)
        (first
          | (go_at_call 39; refine (jobs_any _ r wt bk cy key ds ps cs es Ad Ap _ Ae cd cp cc ce HR.out J HJ.out).mono ?_; rintro e w6 ⟨rfl, hb⟩; have HS : Hid (Below w.heap.size w w6 ∧ Words.Blk w6 w.heap.size 27 #[.int .i64 r, .int .i64 wt, .int .i64 bk, .int .i64 cy, .string key, .slice Ad ds.length cd, .slice Ap ps.length cp, .slice (some ⟨b, off, none⟩) cs.length cc, .slice Ae es.length ce]) := Lib.hid ⟨HS.out.1.trans (hb.mono HS.out.1.size), HS.out.2.below hb HS.out.2.lt⟩; have z0 : w6.cell? ⟨w.heap.size, 0, none⟩ = some (.int .i64 r) := HS.out.2.cell 0; have z1 : w6.cell? ⟨w.heap.size, 1, none⟩ = some (.int .i64 wt) := HS.out.2.cell 1; have z2 : w6.cell? ⟨w.heap.size, 2, none⟩ = some (.int .i64 bk) := HS.out.2.cell 2; have z3 : w6.cell? ⟨w.heap.size, 3, none⟩ = some (.int .i64 cy) := HS.out.2.cell 3; have z4 : w6.cell? ⟨w.heap.size, 4, none⟩ = some (.string key) := HS.out.2.cell 4; have z5 : w6.cell? ⟨w.heap.size, 5, none⟩ = some (.slice Ad ds.length cd) := HS.out.2.cell 5; have z6 : w6.cell? ⟨w.heap.size, 6, none⟩ = some (.slice Ap ps.length cp) := HS.out.2.cell 6; have z7 : w6.cell? ⟨w.heap.size, 7, none⟩ = some (.slice (some ⟨b, off, none⟩) cs.length cc) := HS.out.2.cell 7; have z8 : w6.cell? ⟨w.heap.size, 8, none⟩ = some (.slice Ae es.length ce) := HS.out.2.cell 8; clear hb)
          | (go_at_call 40; refine (each_any _ r wt bk cy key ds ps cs es Ad Ap _ Ae cd cp cc ce HR.out E HE.out).mono ?_; rintro e w6 ⟨rfl, hb⟩; have HS : Hid (Below w.heap.size w w6 ∧ Words.Blk w6 w.heap.size 27 #[.int .i64 r, .int .i64 wt, .int .i64 bk, .int .i64 cy, .string key, .slice Ad ds.length cd, .slice Ap ps.length cp, .slice (some ⟨b, off, none⟩) cs.length cc, .slice Ae es.length ce]) := Lib.hid ⟨HS.out.1.trans (hb.mono HS.out.1.size), HS.out.2.below hb HS.out.2.lt⟩; have z0 : w6.cell? ⟨w.heap.size, 0, none⟩ = some (.int .i64 r) := HS.out.2.cell 0; have z1 : w6.cell? ⟨w.heap.size, 1, none⟩ = some (.int .i64 wt) := HS.out.2.cell 1; have z2 : w6.cell? ⟨w.heap.size, 2, none⟩ = some (.int .i64 bk) := HS.out.2.cell 2; have z3 : w6.cell? ⟨w.heap.size, 3, none⟩ = some (.int .i64 cy) := HS.out.2.cell 3; have z4 : w6.cell? ⟨w.heap.size, 4, none⟩ = some (.string key) := HS.out.2.cell 4; have z5 : w6.cell? ⟨w.heap.size, 5, none⟩ = some (.slice Ad ds.length cd) := HS.out.2.cell 5; have z6 : w6.cell? ⟨w.heap.size, 6, none⟩ = some (.slice Ap ps.length cp) := HS.out.2.cell 6; have z7 : w6.cell? ⟨w.heap.size, 7, none⟩ = some (.slice (some ⟨b, off, none⟩) cs.length cc) := HS.out.2.cell 7; have z8 : w6.cell? ⟨w.heap.size, 8, none⟩ = some (.slice Ae es.length ce) := HS.out.2.cell 8; clear hb))
      all_goals go_wp2_with fail
      all_goals go_ret
      all_goals exact ⟨by rw [HA2.out]; rfl, HS.out.1⟩
end Go.Proofs.Ytbpenoelmangkaa
