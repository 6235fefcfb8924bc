/-
  CheckPolls: each point of a right matrix is within the poll of its device, and so on.
-/
import Derived.Test.YtbpenoelmangkaaLawPollsPlain
namespace Go.Proofs.Ytbpenoelmangkaa
open Go.RowKit
set_option maxHeartbeats 4000000 in
set_option maxRecDepth 100000 in
theorem checkPolls_any (w : World) (m : Mat) (vd vp vc ve : Value) (h : MatAt w m vd vp vc ve) (hm : MatSmall m) :
    Calls Try.prog 3 #[m.val vd vp vc ve] w fun e w' => e = .returned (.bool true) ∧ Below w.heap.size w w' := by
  obtain ⟨r, wt, bk, cy, key, ds, ps, cs, es⟩ := m
  obtain ⟨Ad, cd, e, hcd, -⟩ := id h.1
  simp only at e
  subst e
  obtain ⟨Ap, cp, e, hcp, -⟩ := id h.2.1
  simp only at e
  subst e
  obtain ⟨Ac, cc, e, hcc, -⟩ := id h.2.2.1.1
  simp only at e
  subst e
  obtain ⟨Ae, ce, e, hce, -⟩ := id h.2.2.2.1
  simp only at e
  subst e
  have HM := Lib.hid hm
  unfold Mat.val
  simp only
  have HS := Lib.hid (show HeadIs w w.heap.size ⟨r, wt, bk, cy, key, ds, ps, cs, es⟩ _ _ _ _ #[.int .i64 r, .int .i64 wt, .int .i64 bk, .int .i64 cy, .string key, .slice Ad ds.length cd, .slice Ap ps.length cp, .slice Ac cs.length cc, .slice Ae es.length ce] (w.alloc (.cells #[.int .i64 r, .int .i64 wt, .int .i64 bk, .int .i64 cy, .string key, .slice Ad ds.length cd, .slice Ap ps.length cp, .slice Ac cs.length cc, .slice Ae es.length ce] 27)) from ⟨(Below.refl _ _).alloc (Nat.le_refl _) _, h.below ((Below.refl _ _).alloc (Nat.le_refl _) _), Words.Blk.new _ _ _⟩)
  clear h hm
  go_enter Try.func3, Try.ntmps3
  go_wp2_with fail
  refine (head_any _).mono ?_
  rintro e w1 ⟨rfl, hb⟩
  replace HS := Lib.hid (HS.out.below hb)
  clear hb
  have z0 : w1.cell? ⟨w.heap.size, 0, none⟩ = some (.int .i64 r) := HS.out.2.2.cell 0
  have z1 : w1.cell? ⟨w.heap.size, 1, none⟩ = some (.int .i64 wt) := HS.out.2.2.cell 1
  have z2 : w1.cell? ⟨w.heap.size, 2, none⟩ = some (.int .i64 bk) := HS.out.2.2.cell 2
  have z3 : w1.cell? ⟨w.heap.size, 3, none⟩ = some (.int .i64 cy) := HS.out.2.2.cell 3
  have z4 : w1.cell? ⟨w.heap.size, 4, none⟩ = some (.string key) := HS.out.2.2.cell 4
  have z5 : w1.cell? ⟨w.heap.size, 5, none⟩ = some (.slice Ad ds.length cd) := HS.out.2.2.cell 5
  have z6 : w1.cell? ⟨w.heap.size, 6, none⟩ = some (.slice Ap ps.length cp) := HS.out.2.2.cell 6
  have z7 : w1.cell? ⟨w.heap.size, 7, none⟩ = some (.slice Ac cs.length cc) := HS.out.2.2.cell 7
  have z8 : w1.cell? ⟨w.heap.size, 8, none⟩ = some (.slice Ae es.length ce) := HS.out.2.2.cell 8
  go_wp2_with fail
  clear z0 z1 z2 z3 z4 z5 z6 z7 z8
  refine (great_any _ ⟨r, wt, bk, cy, key, ds, ps, cs, es⟩ _ _ _ _ HS.out.2.1 HM.out).mono ?_
  rintro e w2 ⟨⟨b, rfl⟩, hb⟩
  replace HS := Lib.hid (HS.out.below hb)
  clear hb
  cases b with
  | true =>
    go_wp2_with fail
    go_ret
    exact ⟨rfl, HS.out.1⟩
  | false =>
  have z0 : w2.cell? ⟨w.heap.size, 0, none⟩ = some (.int .i64 r) := HS.out.2.2.cell 0
  have z1 : w2.cell? ⟨w.heap.size, 1, none⟩ = some (.int .i64 wt) := HS.out.2.2.cell 1
  have z2 : w2.cell? ⟨w.heap.size, 2, none⟩ = some (.int .i64 bk) := HS.out.2.2.cell 2
  have z3 : w2.cell? ⟨w.heap.size, 3, none⟩ = some (.int .i64 cy) := HS.out.2.2.cell 3
  have z4 : w2.cell? ⟨w.heap.size, 4, none⟩ = some (.string key) := HS.out.2.2.cell 4
  have z5 : w2.cell? ⟨w.heap.size, 5, none⟩ = some (.slice Ad ds.length cd) := HS.out.2.2.cell 5
  have z6 : w2.cell? ⟨w.heap.size, 6, none⟩ = some (.slice Ap ps.length cp) := HS.out.2.2.cell 6
  have z7 : w2.cell? ⟨w.heap.size, 7, none⟩ = some (.slice Ac cs.length cc) := HS.out.2.2.cell 7
  have z8 : w2.cell? ⟨w.heap.size, 8, none⟩ = some (.slice Ae es.length ce) := HS.out.2.2.cell 8
  go_wp2_with fail
  clear z0 z1 z2 z3 z4 z5 z6 z7 z8
  refine (rRight_any _ ⟨r, wt, bk, cy, key, ds, ps, cs, es⟩ _ _ _ _ HS.out.2.1 HM.out).mono ?_
  rintro e w3 ⟨b, rfl, hb1, hb⟩
  replace HS := Lib.hid (HS.out.below hb)
  have HB1 := Lib.hid hb1
  clear hb hb1
  cases b with
  | false =>
    go_wp2_with fail
    go_ret
    exact ⟨rfl, HS.out.1⟩
  | true =>
  have HR := Lib.hid (HB1.out.1 rfl)
  clear HB1
  have hsd : ds.length ≤ 4 := HR.out.2.2.1.1
  have hsp : ps.length ≤ 16 := HR.out.2.2.2.1.1
  have hsc : cs.length ≤ 8 := HR.out.2.2.2.2.1.1
  have hse : es.length ≤ 8 := HR.out.2.2.2.2.2.1.1
  have z0 : w3.cell? ⟨w.heap.size, 0, none⟩ = some (.int .i64 r) := HS.out.2.2.cell 0
  have z1 : w3.cell? ⟨w.heap.size, 1, none⟩ = some (.int .i64 wt) := HS.out.2.2.cell 1
  have z2 : w3.cell? ⟨w.heap.size, 2, none⟩ = some (.int .i64 bk) := HS.out.2.2.cell 2
  have z3 : w3.cell? ⟨w.heap.size, 3, none⟩ = some (.int .i64 cy) := HS.out.2.2.cell 3
  have z4 : w3.cell? ⟨w.heap.size, 4, none⟩ = some (.string key) := HS.out.2.2.cell 4
  have z5 : w3.cell? ⟨w.heap.size, 5, none⟩ = some (.slice Ad ds.length cd) := HS.out.2.2.cell 5
  have z6 : w3.cell? ⟨w.heap.size, 6, none⟩ = some (.slice Ap ps.length cp) := HS.out.2.2.cell 6
  have z7 : w3.cell? ⟨w.heap.size, 7, none⟩ = some (.slice Ac cs.length cc) := HS.out.2.2.cell 7
  have z8 : w3.cell? ⟨w.heap.size, 8, none⟩ = some (.slice Ae es.length ce) := HS.out.2.2.cell 8
  go_wp2_with fail
  clear z0 z1 z2 z3 z4 z5 z6 z7 z8
  refine (polls_any _ ⟨r, wt, bk, cy, key, ds, ps, cs, es⟩ _ _ _ _ HS.out.2.1 HM.out).mono ?_
  rintro e w4 ⟨v, rfl, hv, -, hb⟩
  replace HS := Lib.hid (HS.out.below hb)
  obtain ⟨l, hl⟩ : ∃ l, l = pollsF ⟨r, wt, bk, cy, key, ds, ps, cs, es⟩ := ⟨_, rfl⟩
  have HPL := Lib.hid hl
  have HV : Hid (PlsAt w4 l v) := Lib.hid (by rw [hl]; exact hv HR.out)
  have hll : l.length ≤ 4 := by rw [hl]; exact Nat.le_trans (polls_len _) hsd
  clear hv hb hl
  obtain ⟨A, cl, e, hcl, -⟩ := id HV.out
  subst e
  go_wp2_with fail
  go_loopw [5] (fun i wr => ∃ k : Nat, k ≤ l.length ∧ i = .int .i64 (k : Int) ∧ Hid (Below w4.heap.size w4 wr)) (fun i _ => l.length - (intOf i).toNat)
  case atStart => exact ⟨0, Nat.zero_le _, rfl, Lib.hid (Below.refl _ _)⟩
  case round =>
    obtain ⟨k, hk, rfl, HW⟩ := hrel
    have hk0 : (0 : Int) ≤ (k : Int) := by omega
    by_cases hlt : k < l.length
    · obtain ⟨x, hx⟩ : ∃ x, l[k]? = some x := ⟨_, List.getElem?_eq_getElem hlt⟩
      have HX := Lib.hid hx
      have hk1 : (k : Int) < (l.length : Int) := by omega
      obtain ⟨d, HPP⟩ : ∃ d : Nat, Hid (PollP ⟨r, wt, bk, cy, key, ds, ps, cs, es⟩ d x) := by
        obtain ⟨d, hd⟩ := polls_mem HR.out (x := x) (by rw [← HPL.out]; exact List.mem_of_getElem? hx)
        exact ⟨d, Lib.hid hd⟩
      obtain ⟨bl, ol, hA, hb, hcell⟩ := row_at (LawFrame.RowsAt.below HV.out HW.out) hx
      subst hA
      have y0 := hcell 0 _ rfl
      have y1 := hcell 1 _ rfl
      have y2 := hcell 2 _ rfl
      simp only [Nat.add_zero] at y0
      have hm1 := HPP.out.many
      have hf1 := HPP.out.frm
      have HFA := Lib.hid (first_any HPP.out)
      have HLA := Lib.hid (last_any HPP.out)
      obtain ⟨xd, xf, xm⟩ := x
      simp only at y0 y1 y2 hm1 hf1
      obtain ⟨hm1, hm2⟩ := hm1
      obtain ⟨hf1, hf2⟩ := hf1
      have hn1 : ¬ xm < 1 := by omega
      have hn2 : ¬ 256 < xm := by omega
      have hnd1 : decide (xm < 1) = false := decide_eq_false hn1
      have hnd2 : decide (256 < xm) = false := decide_eq_false hn2
      clear hcell hb hx
      obtain ⟨K, hK⟩ : ∃ K : Int, K = (k : Int) := ⟨_, rfl⟩
      have hKt : K.toNat = k := by omega
      have hK0 : 0 ≤ K := by omega
      have hK1 : K < (l.length : Int) := by omega
      have HK := Lib.hid hK
      rw [← hK]
      by_cases hkz : 0 < K
      · obtain ⟨j, hj⟩ : ∃ j, k = j + 1 := ⟨k - 1, by omega⟩
        obtain ⟨x', hx'⟩ : ∃ x', l[j]? = some x' := ⟨_, List.getElem?_eq_getElem (by omega)⟩
        have hup : x'.dev < xd := polls_next HR.out (i := j) (by rw [← HPL.out]; exact hx') (by rw [← HPL.out, ← hj]; exact HX.out)
        obtain ⟨bl', ol', hA, hb, hcell⟩ := row_at (LawFrame.RowsAt.below HV.out HW.out) hx'
        injection hA with hA
        injection hA with hA1 hA2 _
        subst hA1 hA2
        have u0 := hcell 0 _ rfl
        simp only [Nat.add_zero] at u0
        obtain ⟨xd', xf', xm'⟩ := x'
        simp only at u0 hup
        have hnu : ¬ xd ≤ xd' := by omega
        have hndu : decide (xd ≤ xd') = false := decide_eq_false hnu
        have hw0 : IntKind.i64.wrap (K - 1) = (j : Int) := by rw [show K - 1 = (j : Int) by omega]; exact IntWalk.i64_in _ (by omega)
        have hkd : decide (0 < K) = true := decide_eq_true hkz
        have hj1 : (j : Int) < (l.length : Int) := by omega
        have hj0 : (0 : Int) ≤ (j : Int) := by omega
        clear hcell hb hx'
        clear hj hK
        go_upto_region 8 with fail
        go_quiet (fail)
        have HW1 := Lib.hid (below_drewn HW.out nq)
        clear HW u0 hnu hndu hw0 hj1 hj0
        generalize wr.drewN nq = wr at *
        have HW := HW1
        clear HW1
        go_wp2_with fail
        clear y0 y1 y2 hn1 hn2 hnd1 hnd2 hkd
        obtain ⟨wo, rfl⟩ : ∃ wo : World, wo = wr := ⟨_, rfl⟩
        go_loopw [6, 7, 8] (fun f t i wr => ∃ (c : Nat) (F T : Bool), c ≤ ps.length ∧ i = .int .i64 (c : Int) ∧ f = .bool F ∧ t = .bool T ∧ Hid (F = anyUpto (isFirst ⟨xd, xf, xm⟩) ps c ∧ T = anyUpto (isLast ⟨xd, xf, xm⟩) ps c) ∧ Hid (Below w4.heap.size w4 wr)) (fun _ _ i _ => ps.length - (intOf i).toNat)
        case atStart => exact ⟨0, false, false, Nat.zero_le _, rfl, rfl, rfl, Lib.hid ⟨rfl, rfl⟩, HW⟩
        case round =>
          clear HW
          obtain ⟨c, F, T, hc, rfl, rfl, rfl, HFT, HW⟩ := hrel
          have hc0 : (0 : Int) ≤ (c : Int) := by omega
          have HSr := Lib.hid (HS.out.below HW.out)
          have z6 : wr.cell? ⟨w.heap.size, 6, none⟩ = some (.slice Ap ps.length cp) := HSr.out.2.2.cell 6
          by_cases hcl2 : c < ps.length
          · obtain ⟨p, hp⟩ : ∃ p, ps[c]? = some p := ⟨_, List.getElem?_eq_getElem hcl2⟩
            have HPX := Lib.hid hp
            have hc1 : (c : Int) < (ps.length : Int) := by omega
            obtain ⟨bp, op, hA, hb, hcell⟩ := row_at HSr.out.2.1.2.1 hp
            subst hA
            obtain ⟨p0, p1, p2, p3, p4, p5⟩ := p
            have q0 := hcell 0 _ rfl
            have q1 := hcell 1 _ rfl
            have q2 := hcell 2 _ rfl
            have q3 := hcell 3 _ rfl
            have q4 := hcell 4 _ rfl
            have q5 := hcell 5 _ rfl
            simp only [Nat.add_zero] at q0 q1 q2 q3 q4 q5
            clear hcell hb hp
            have HWb := Lib.hid (HW.out.alloc HW.out.size (.cells #[.string p0, .int .i64 p1, .int .i64 p2, .int .i64 p3, .int .i64 p4, .int .i64 p5] 35))
            have HBX := Lib.hid (Words.Blk.new wr 35 #[.string p0, .int .i64 p1, .int .i64 p2, .int .i64 p3, .int .i64 p4, .int .i64 p5])
            obtain ⟨bl', ol', hA, hb, hcell⟩ := row_at (LawFrame.RowsAt.below HV.out HWb.out) HX.out
            injection hA with hA
            injection hA with hA1 hA2 _
            subst hA1 hA2
            have y0 := hcell 0 _ rfl
            have y1 := hcell 1 _ rfl
            have y2 := hcell 2 _ rfl
            simp only [Nat.add_zero] at y0 y1 y2
            clear hcell hb HSr HW
            have HNF : Hid (anyUpto (isFirst ⟨xd, xf, xm⟩) ps (c + 1) = (F || (p1 == xd && p2 == xf))) := Lib.hid (by rw [anyUpto_next HPX.out, HFT.out.1]; rfl)
            have HNT : Hid (anyUpto (isLast ⟨xd, xf, xm⟩) ps (c + 1) = (T || (p1 == xd && p2 == xf + xm - 1))) := Lib.hid (by rw [anyUpto_next HPX.out, HFT.out.2]; rfl)
            clear HFT
            go_upto_region 16 with fail
            generalize hwa : wr.alloc (.cells #[.string p0, .int .i64 p1, .int .i64 p2, .int .i64 p3, .int .i64 p4, .int .i64 p5] 35) = wa at *
            obtain ⟨q, hq⟩ : ∃ q, q = wr.heap.size := ⟨_, rfl⟩
            rw [← hq] at HBX ⊢
            have s1 : wa.cell? ⟨q, 1, none⟩ = some (.int .i64 p1) := HBX.out.cell 1
            have s2 : wa.cell? ⟨q, 2, none⟩ = some (.int .i64 p2) := HBX.out.cell 2
            have hw1 : IntKind.i64.wrap (xf + xm) = xf + xm := IntWalk.i64_in _ (by omega)
            have hw2 : IntKind.i64.wrap (xf + xm - 1) = xf + xm - 1 := IntWalk.i64_in _ (by omega)
            clear q0 q1 q2 q3 q4 q5 z6 hwa hq
            have hdv : (p1 == xd) = true ∨ (p1 == xd) = false := by cases (p1 == xd) <;> simp
            rcases hdv with hdv | hdv
            · rw [hdv] at HNF HNT
              cases F with
              | true =>
                cases T with
                | true =>
                  go_quiet (fail)
                  have HW1 := Lib.hid (below_drewn HWb.out nq)
                  have HB1 := Lib.hid (HBX.out.drewN nq)
                  replace y0 : (wa.drewN nq).cell? ⟨bl, ol + k * 3, none⟩ = some (.int .i64 xd) := y0
                  replace y1 : (wa.drewN nq).cell? ⟨bl, ol + k * 3 + 1, none⟩ = some (.int .i64 xf) := y1
                  replace y2 : (wa.drewN nq).cell? ⟨bl, ol + k * 3 + 2, none⟩ = some (.int .i64 xm) := y2
                  replace s1 : (wa.drewN nq).cell? ⟨q, 1, none⟩ = some (.int .i64 p1) := s1
                  replace s2 : (wa.drewN nq).cell? ⟨q, 2, none⟩ = some (.int .i64 p2) := s2
                  clear HWb HBX
                  generalize wa.drewN nq = wb at *
                  go_upto_region 17 with fail
                  go_quiet (fail)
                  have HW2 := Lib.hid (below_drewn HW1.out nq)
                  clear y0 y1 y2 s1 s2 HB1 HW1
                  generalize wb.drewN nq = wd at *
                  go_wp2_with fail
                  go_roundw
                  case rel => exact ⟨c + 1, true, true, by omega, by go_num, by go_num, by go_num, Lib.hid ⟨by rw [HNF.out]; simp, by rw [HNT.out]; simp⟩, HW2⟩
                  case measure => simp [intOf]; omega
                | false =>
                  go_quiet (fail)
                  have HW1 := Lib.hid (below_drewn HWb.out nq)
                  have HB1 := Lib.hid (HBX.out.drewN nq)
                  replace y0 : (wa.drewN nq).cell? ⟨bl, ol + k * 3, none⟩ = some (.int .i64 xd) := y0
                  replace y1 : (wa.drewN nq).cell? ⟨bl, ol + k * 3 + 1, none⟩ = some (.int .i64 xf) := y1
                  replace y2 : (wa.drewN nq).cell? ⟨bl, ol + k * 3 + 2, none⟩ = some (.int .i64 xm) := y2
                  replace s1 : (wa.drewN nq).cell? ⟨q, 1, none⟩ = some (.int .i64 p1) := s1
                  replace s2 : (wa.drewN nq).cell? ⟨q, 2, none⟩ = some (.int .i64 p2) := s2
                  clear HWb HBX
                  generalize wa.drewN nq = wb at *
                  go_upto_region 17 with fail
                  go_quiet (fail)
                  have HW2 := Lib.hid (below_drewn HW1.out nq)
                  clear y0 y1 y2 s1 s2 HB1 HW1
                  generalize wb.drewN nq = wd at *
                  go_wp2_with fail
                  go_roundw
                  case rel => exact ⟨c + 1, true, (p2 == xf + xm - 1), by omega, by go_num, by go_num, by go_num, Lib.hid ⟨by rw [HNF.out]; simp, by rw [HNT.out]; simp⟩, HW2⟩
                  case measure => simp [intOf]; omega
              | false =>
                cases T with
                | true =>
                  go_quiet (fail)
                  have HW1 := Lib.hid (below_drewn HWb.out nq)
                  have HB1 := Lib.hid (HBX.out.drewN nq)
                  replace y0 : (wa.drewN nq).cell? ⟨bl, ol + k * 3, none⟩ = some (.int .i64 xd) := y0
                  replace y1 : (wa.drewN nq).cell? ⟨bl, ol + k * 3 + 1, none⟩ = some (.int .i64 xf) := y1
                  replace y2 : (wa.drewN nq).cell? ⟨bl, ol + k * 3 + 2, none⟩ = some (.int .i64 xm) := y2
                  replace s1 : (wa.drewN nq).cell? ⟨q, 1, none⟩ = some (.int .i64 p1) := s1
                  replace s2 : (wa.drewN nq).cell? ⟨q, 2, none⟩ = some (.int .i64 p2) := s2
                  clear HWb HBX
                  generalize wa.drewN nq = wb at *
                  go_upto_region 17 with fail
                  go_quiet (fail)
                  have HW2 := Lib.hid (below_drewn HW1.out nq)
                  clear y0 y1 y2 s1 s2 HB1 HW1
                  generalize wb.drewN nq = wd at *
                  go_wp2_with fail
                  go_roundw
                  case rel => exact ⟨c + 1, (p2 == xf), true, by omega, by go_num, by go_num, by go_num, Lib.hid ⟨by rw [HNF.out]; simp, by rw [HNT.out]; simp⟩, HW2⟩
                  case measure => simp [intOf]; omega
                | false =>
                  go_quiet (fail)
                  have HW1 := Lib.hid (below_drewn HWb.out nq)
                  have HB1 := Lib.hid (HBX.out.drewN nq)
                  replace y0 : (wa.drewN nq).cell? ⟨bl, ol + k * 3, none⟩ = some (.int .i64 xd) := y0
                  replace y1 : (wa.drewN nq).cell? ⟨bl, ol + k * 3 + 1, none⟩ = some (.int .i64 xf) := y1
                  replace y2 : (wa.drewN nq).cell? ⟨bl, ol + k * 3 + 2, none⟩ = some (.int .i64 xm) := y2
                  replace s1 : (wa.drewN nq).cell? ⟨q, 1, none⟩ = some (.int .i64 p1) := s1
                  replace s2 : (wa.drewN nq).cell? ⟨q, 2, none⟩ = some (.int .i64 p2) := s2
                  clear HWb HBX
                  generalize wa.drewN nq = wb at *
                  go_upto_region 17 with fail
                  go_quiet (fail)
                  have HW2 := Lib.hid (below_drewn HW1.out nq)
                  clear y0 y1 y2 s1 s2 HB1 HW1
                  generalize wb.drewN nq = wd at *
                  go_wp2_with fail
                  go_roundw
                  case rel => exact ⟨c + 1, (p2 == xf), (p2 == xf + xm - 1), by omega, by go_num, by go_num, by go_num, Lib.hid ⟨by rw [HNF.out]; simp, by rw [HNT.out]; simp⟩, HW2⟩
                  case measure => simp [intOf]; omega
            · rw [hdv] at HNF HNT
              cases F with
              | true =>
                cases T with
                | true =>
                  go_quiet (fail)
                  have HW1 := Lib.hid (below_drewn HWb.out nq)
                  have HB1 := Lib.hid (HBX.out.drewN nq)
                  replace y0 : (wa.drewN nq).cell? ⟨bl, ol + k * 3, none⟩ = some (.int .i64 xd) := y0
                  replace y1 : (wa.drewN nq).cell? ⟨bl, ol + k * 3 + 1, none⟩ = some (.int .i64 xf) := y1
                  replace y2 : (wa.drewN nq).cell? ⟨bl, ol + k * 3 + 2, none⟩ = some (.int .i64 xm) := y2
                  replace s1 : (wa.drewN nq).cell? ⟨q, 1, none⟩ = some (.int .i64 p1) := s1
                  replace s2 : (wa.drewN nq).cell? ⟨q, 2, none⟩ = some (.int .i64 p2) := s2
                  clear HWb HBX
                  generalize wa.drewN nq = wb at *
                  go_upto_region 17 with fail
                  go_quiet (fail)
                  have HW2 := Lib.hid (below_drewn HW1.out nq)
                  clear y0 y1 y2 s1 s2 HB1 HW1
                  generalize wb.drewN nq = wd at *
                  go_wp2_with fail
                  go_roundw
                  case rel => exact ⟨c + 1, true, true, by omega, by go_num, by go_num, by go_num, Lib.hid ⟨by rw [HNF.out]; simp, by rw [HNT.out]; simp⟩, HW2⟩
                  case measure => simp [intOf]; omega
                | false =>
                  go_quiet (fail)
                  have HW1 := Lib.hid (below_drewn HWb.out nq)
                  have HB1 := Lib.hid (HBX.out.drewN nq)
                  replace y0 : (wa.drewN nq).cell? ⟨bl, ol + k * 3, none⟩ = some (.int .i64 xd) := y0
                  replace y1 : (wa.drewN nq).cell? ⟨bl, ol + k * 3 + 1, none⟩ = some (.int .i64 xf) := y1
                  replace y2 : (wa.drewN nq).cell? ⟨bl, ol + k * 3 + 2, none⟩ = some (.int .i64 xm) := y2
                  replace s1 : (wa.drewN nq).cell? ⟨q, 1, none⟩ = some (.int .i64 p1) := s1
                  replace s2 : (wa.drewN nq).cell? ⟨q, 2, none⟩ = some (.int .i64 p2) := s2
                  clear HWb HBX
                  generalize wa.drewN nq = wb at *
                  go_upto_region 17 with fail
                  go_quiet (fail)
                  have HW2 := Lib.hid (below_drewn HW1.out nq)
                  clear y0 y1 y2 s1 s2 HB1 HW1
                  generalize wb.drewN nq = wd at *
                  go_wp2_with fail
                  go_roundw
                  case rel => exact ⟨c + 1, true, false, by omega, by go_num, by go_num, by go_num, Lib.hid ⟨by rw [HNF.out]; simp, by rw [HNT.out]; simp⟩, HW2⟩
                  case measure => simp [intOf]; omega
              | false =>
                cases T with
                | true =>
                  go_quiet (fail)
                  have HW1 := Lib.hid (below_drewn HWb.out nq)
                  have HB1 := Lib.hid (HBX.out.drewN nq)
                  replace y0 : (wa.drewN nq).cell? ⟨bl, ol + k * 3, none⟩ = some (.int .i64 xd) := y0
                  replace y1 : (wa.drewN nq).cell? ⟨bl, ol + k * 3 + 1, none⟩ = some (.int .i64 xf) := y1
                  replace y2 : (wa.drewN nq).cell? ⟨bl, ol + k * 3 + 2, none⟩ = some (.int .i64 xm) := y2
                  replace s1 : (wa.drewN nq).cell? ⟨q, 1, none⟩ = some (.int .i64 p1) := s1
                  replace s2 : (wa.drewN nq).cell? ⟨q, 2, none⟩ = some (.int .i64 p2) := s2
                  clear HWb HBX
                  generalize wa.drewN nq = wb at *
                  go_upto_region 17 with fail
                  go_quiet (fail)
                  have HW2 := Lib.hid (below_drewn HW1.out nq)
                  clear y0 y1 y2 s1 s2 HB1 HW1
                  generalize wb.drewN nq = wd at *
                  go_wp2_with fail
                  go_roundw
                  case rel => exact ⟨c + 1, false, true, by omega, by go_num, by go_num, by go_num, Lib.hid ⟨by rw [HNF.out]; simp, by rw [HNT.out]; simp⟩, HW2⟩
                  case measure => simp [intOf]; omega
                | false =>
                  go_quiet (fail)
                  have HW1 := Lib.hid (below_drewn HWb.out nq)
                  have HB1 := Lib.hid (HBX.out.drewN nq)
                  replace y0 : (wa.drewN nq).cell? ⟨bl, ol + k * 3, none⟩ = some (.int .i64 xd) := y0
                  replace y1 : (wa.drewN nq).cell? ⟨bl, ol + k * 3 + 1, none⟩ = some (.int .i64 xf) := y1
                  replace y2 : (wa.drewN nq).cell? ⟨bl, ol + k * 3 + 2, none⟩ = some (.int .i64 xm) := y2
                  replace s1 : (wa.drewN nq).cell? ⟨q, 1, none⟩ = some (.int .i64 p1) := s1
                  replace s2 : (wa.drewN nq).cell? ⟨q, 2, none⟩ = some (.int .i64 p2) := s2
                  clear HWb HBX
                  generalize wa.drewN nq = wb at *
                  go_upto_region 17 with fail
                  go_quiet (fail)
                  have HW2 := Lib.hid (below_drewn HW1.out nq)
                  clear y0 y1 y2 s1 s2 HB1 HW1
                  generalize wb.drewN nq = wd at *
                  go_wp2_with fail
                  go_roundw
                  case rel => exact ⟨c + 1, false, false, by omega, by go_num, by go_num, by go_num, Lib.hid ⟨by rw [HNF.out]; simp, by rw [HNT.out]; simp⟩, HW2⟩
                  case measure => simp [intOf]; omega
          · have hc2 : ¬ (c : Int) < (ps.length : Int) := by omega
            have hcp2 : c = ps.length := by omega
            have hFt : F = true := by rw [HFT.out.1, hcp2]; exact HFA.out
            have hTt : T = true := by rw [HFT.out.2, hcp2]; exact HLA.out
            subst hFt hTt
            clear hcp2 HSr HFT
            go_wp2_with fail
            have hK := HK.out
            subst hK
            go_roundw
            case rel => exact ⟨k + 1, by omega, by go_num, HW⟩
            case measure => simp [intOf]; omega
      · have hkd : decide (0 < K) = false := decide_eq_false hkz
        clear hK
        go_upto_region 8 with fail
        go_quiet (fail)
        have HW1 := Lib.hid (below_drewn HW.out nq)
        clear HW
        generalize wr.drewN nq = wr at *
        have HW := HW1
        clear HW1
        go_wp2_with fail
        clear y0 y1 y2 hn1 hn2 hnd1 hnd2 hkd
        obtain ⟨wo, rfl⟩ : ∃ wo : World, wo = wr := ⟨_, rfl⟩
        go_loopw [6, 7, 8] (fun f t i wr => ∃ (c : Nat) (F T : Bool), c ≤ ps.length ∧ i = .int .i64 (c : Int) ∧ f = .bool F ∧ t = .bool T ∧ Hid (F = anyUpto (isFirst ⟨xd, xf, xm⟩) ps c ∧ T = anyUpto (isLast ⟨xd, xf, xm⟩) ps c) ∧ Hid (Below w4.heap.size w4 wr)) (fun _ _ i _ => ps.length - (intOf i).toNat)
        case atStart => exact ⟨0, false, false, Nat.zero_le _, rfl, rfl, rfl, Lib.hid ⟨rfl, rfl⟩, HW⟩
        case round =>
          clear HW
          obtain ⟨c, F, T, hc, rfl, rfl, rfl, HFT, HW⟩ := hrel
          have hc0 : (0 : Int) ≤ (c : Int) := by omega
          have HSr := Lib.hid (HS.out.below HW.out)
          have z6 : wr.cell? ⟨w.heap.size, 6, none⟩ = some (.slice Ap ps.length cp) := HSr.out.2.2.cell 6
          by_cases hcl2 : c < ps.length
          · obtain ⟨p, hp⟩ : ∃ p, ps[c]? = some p := ⟨_, List.getElem?_eq_getElem hcl2⟩
            have HPX := Lib.hid hp
            have hc1 : (c : Int) < (ps.length : Int) := by omega
            obtain ⟨bp, op, hA, hb, hcell⟩ := row_at HSr.out.2.1.2.1 hp
            subst hA
            obtain ⟨p0, p1, p2, p3, p4, p5⟩ := p
            have q0 := hcell 0 _ rfl
            have q1 := hcell 1 _ rfl
            have q2 := hcell 2 _ rfl
            have q3 := hcell 3 _ rfl
            have q4 := hcell 4 _ rfl
            have q5 := hcell 5 _ rfl
            simp only [Nat.add_zero] at q0 q1 q2 q3 q4 q5
            clear hcell hb hp
            have HWb := Lib.hid (HW.out.alloc HW.out.size (.cells #[.string p0, .int .i64 p1, .int .i64 p2, .int .i64 p3, .int .i64 p4, .int .i64 p5] 35))
            have HBX := Lib.hid (Words.Blk.new wr 35 #[.string p0, .int .i64 p1, .int .i64 p2, .int .i64 p3, .int .i64 p4, .int .i64 p5])
            obtain ⟨bl', ol', hA, hb, hcell⟩ := row_at (LawFrame.RowsAt.below HV.out HWb.out) HX.out
            injection hA with hA
            injection hA with hA1 hA2 _
            subst hA1 hA2
            have y0 := hcell 0 _ rfl
            have y1 := hcell 1 _ rfl
            have y2 := hcell 2 _ rfl
            simp only [Nat.add_zero] at y0 y1 y2
            clear hcell hb HSr HW
            have HNF : Hid (anyUpto (isFirst ⟨xd, xf, xm⟩) ps (c + 1) = (F || (p1 == xd && p2 == xf))) := Lib.hid (by rw [anyUpto_next HPX.out, HFT.out.1]; rfl)
            have HNT : Hid (anyUpto (isLast ⟨xd, xf, xm⟩) ps (c + 1) = (T || (p1 == xd && p2 == xf + xm - 1))) := Lib.hid (by rw [anyUpto_next HPX.out, HFT.out.2]; rfl)
            clear HFT
            go_upto_region 16 with fail
            generalize hwa : wr.alloc (.cells #[.string p0, .int .i64 p1, .int .i64 p2, .int .i64 p3, .int .i64 p4, .int .i64 p5] 35) = wa at *
            obtain ⟨q, hq⟩ : ∃ q, q = wr.heap.size := ⟨_, rfl⟩
            rw [← hq] at HBX ⊢
            have s1 : wa.cell? ⟨q, 1, none⟩ = some (.int .i64 p1) := HBX.out.cell 1
            have s2 : wa.cell? ⟨q, 2, none⟩ = some (.int .i64 p2) := HBX.out.cell 2
            have hw1 : IntKind.i64.wrap (xf + xm) = xf + xm := IntWalk.i64_in _ (by omega)
            have hw2 : IntKind.i64.wrap (xf + xm - 1) = xf + xm - 1 := IntWalk.i64_in _ (by omega)
            clear q0 q1 q2 q3 q4 q5 z6 hwa hq
            have hdv : (p1 == xd) = true ∨ (p1 == xd) = false := by cases (p1 == xd) <;> simp
            rcases hdv with hdv | hdv
            · rw [hdv] at HNF HNT
              cases F with
              | true =>
                cases T with
                | true =>
                  go_quiet (fail)
                  have HW1 := Lib.hid (below_drewn HWb.out nq)
                  have HB1 := Lib.hid (HBX.out.drewN nq)
                  replace y0 : (wa.drewN nq).cell? ⟨bl, ol + k * 3, none⟩ = some (.int .i64 xd) := y0
                  replace y1 : (wa.drewN nq).cell? ⟨bl, ol + k * 3 + 1, none⟩ = some (.int .i64 xf) := y1
                  replace y2 : (wa.drewN nq).cell? ⟨bl, ol + k * 3 + 2, none⟩ = some (.int .i64 xm) := y2
                  replace s1 : (wa.drewN nq).cell? ⟨q, 1, none⟩ = some (.int .i64 p1) := s1
                  replace s2 : (wa.drewN nq).cell? ⟨q, 2, none⟩ = some (.int .i64 p2) := s2
                  clear HWb HBX
                  generalize wa.drewN nq = wb at *
                  go_upto_region 17 with fail
                  go_quiet (fail)
                  have HW2 := Lib.hid (below_drewn HW1.out nq)
                  clear y0 y1 y2 s1 s2 HB1 HW1
                  generalize wb.drewN nq = wd at *
                  go_wp2_with fail
                  go_roundw
                  case rel => exact ⟨c + 1, true, true, by omega, by go_num, by go_num, by go_num, Lib.hid ⟨by rw [HNF.out]; simp, by rw [HNT.out]; simp⟩, HW2⟩
                  case measure => simp [intOf]; omega
                | false =>
                  go_quiet (fail)
                  have HW1 := Lib.hid (below_drewn HWb.out nq)
                  have HB1 := Lib.hid (HBX.out.drewN nq)
                  replace y0 : (wa.drewN nq).cell? ⟨bl, ol + k * 3, none⟩ = some (.int .i64 xd) := y0
                  replace y1 : (wa.drewN nq).cell? ⟨bl, ol + k * 3 + 1, none⟩ = some (.int .i64 xf) := y1
                  replace y2 : (wa.drewN nq).cell? ⟨bl, ol + k * 3 + 2, none⟩ = some (.int .i64 xm) := y2
                  replace s1 : (wa.drewN nq).cell? ⟨q, 1, none⟩ = some (.int .i64 p1) := s1
                  replace s2 : (wa.drewN nq).cell? ⟨q, 2, none⟩ = some (.int .i64 p2) := s2
                  clear HWb HBX
                  generalize wa.drewN nq = wb at *
                  go_upto_region 17 with fail
                  go_quiet (fail)
                  have HW2 := Lib.hid (below_drewn HW1.out nq)
                  clear y0 y1 y2 s1 s2 HB1 HW1
                  generalize wb.drewN nq = wd at *
                  go_wp2_with fail
                  go_roundw
                  case rel => exact ⟨c + 1, true, (p2 == xf + xm - 1), by omega, by go_num, by go_num, by go_num, Lib.hid ⟨by rw [HNF.out]; simp, by rw [HNT.out]; simp⟩, HW2⟩
                  case measure => simp [intOf]; omega
              | false =>
                cases T with
                | true =>
                  go_quiet (fail)
                  have HW1 := Lib.hid (below_drewn HWb.out nq)
                  have HB1 := Lib.hid (HBX.out.drewN nq)
                  replace y0 : (wa.drewN nq).cell? ⟨bl, ol + k * 3, none⟩ = some (.int .i64 xd) := y0
                  replace y1 : (wa.drewN nq).cell? ⟨bl, ol + k * 3 + 1, none⟩ = some (.int .i64 xf) := y1
                  replace y2 : (wa.drewN nq).cell? ⟨bl, ol + k * 3 + 2, none⟩ = some (.int .i64 xm) := y2
                  replace s1 : (wa.drewN nq).cell? ⟨q, 1, none⟩ = some (.int .i64 p1) := s1
                  replace s2 : (wa.drewN nq).cell? ⟨q, 2, none⟩ = some (.int .i64 p2) := s2
                  clear HWb HBX
                  generalize wa.drewN nq = wb at *
                  go_upto_region 17 with fail
                  go_quiet (fail)
                  have HW2 := Lib.hid (below_drewn HW1.out nq)
                  clear y0 y1 y2 s1 s2 HB1 HW1
                  generalize wb.drewN nq = wd at *
                  go_wp2_with fail
                  go_roundw
                  case rel => exact ⟨c + 1, (p2 == xf), true, by omega, by go_num, by go_num, by go_num, Lib.hid ⟨by rw [HNF.out]; simp, by rw [HNT.out]; simp⟩, HW2⟩
                  case measure => simp [intOf]; omega
                | false =>
                  go_quiet (fail)
                  have HW1 := Lib.hid (below_drewn HWb.out nq)
                  have HB1 := Lib.hid (HBX.out.drewN nq)
                  replace y0 : (wa.drewN nq).cell? ⟨bl, ol + k * 3, none⟩ = some (.int .i64 xd) := y0
                  replace y1 : (wa.drewN nq).cell? ⟨bl, ol + k * 3 + 1, none⟩ = some (.int .i64 xf) := y1
                  replace y2 : (wa.drewN nq).cell? ⟨bl, ol + k * 3 + 2, none⟩ = some (.int .i64 xm) := y2
                  replace s1 : (wa.drewN nq).cell? ⟨q, 1, none⟩ = some (.int .i64 p1) := s1
                  replace s2 : (wa.drewN nq).cell? ⟨q, 2, none⟩ = some (.int .i64 p2) := s2
                  clear HWb HBX
                  generalize wa.drewN nq = wb at *
                  go_upto_region 17 with fail
                  go_quiet (fail)
                  have HW2 := Lib.hid (below_drewn HW1.out nq)
                  clear y0 y1 y2 s1 s2 HB1 HW1
                  generalize wb.drewN nq = wd at *
                  go_wp2_with fail
                  go_roundw
                  case rel => exact ⟨c + 1, (p2 == xf), (p2 == xf + xm - 1), by omega, by go_num, by go_num, by go_num, Lib.hid ⟨by rw [HNF.out]; simp, by rw [HNT.out]; simp⟩, HW2⟩
                  case measure => simp [intOf]; omega
            · rw [hdv] at HNF HNT
              cases F with
              | true =>
                cases T with
                | true =>
                  go_quiet (fail)
                  have HW1 := Lib.hid (below_drewn HWb.out nq)
                  have HB1 := Lib.hid (HBX.out.drewN nq)
                  replace y0 : (wa.drewN nq).cell? ⟨bl, ol + k * 3, none⟩ = some (.int .i64 xd) := y0
                  replace y1 : (wa.drewN nq).cell? ⟨bl, ol + k * 3 + 1, none⟩ = some (.int .i64 xf) := y1
                  replace y2 : (wa.drewN nq).cell? ⟨bl, ol + k * 3 + 2, none⟩ = some (.int .i64 xm) := y2
                  replace s1 : (wa.drewN nq).cell? ⟨q, 1, none⟩ = some (.int .i64 p1) := s1
                  replace s2 : (wa.drewN nq).cell? ⟨q, 2, none⟩ = some (.int .i64 p2) := s2
                  clear HWb HBX
                  generalize wa.drewN nq = wb at *
                  go_upto_region 17 with fail
                  go_quiet (fail)
                  have HW2 := Lib.hid (below_drewn HW1.out nq)
                  clear y0 y1 y2 s1 s2 HB1 HW1
                  generalize wb.drewN nq = wd at *
                  go_wp2_with fail
                  go_roundw
                  case rel => exact ⟨c + 1, true, true, by omega, by go_num, by go_num, by go_num, Lib.hid ⟨by rw [HNF.out]; simp, by rw [HNT.out]; simp⟩, HW2⟩
                  case measure => simp [intOf]; omega
                | false =>
                  go_quiet (fail)
                  have HW1 := Lib.hid (below_drewn HWb.out nq)
                  have HB1 := Lib.hid (HBX.out.drewN nq)
                  replace y0 : (wa.drewN nq).cell? ⟨bl, ol + k * 3, none⟩ = some (.int .i64 xd) := y0
                  replace y1 : (wa.drewN nq).cell? ⟨bl, ol + k * 3 + 1, none⟩ = some (.int .i64 xf) := y1
                  replace y2 : (wa.drewN nq).cell? ⟨bl, ol + k * 3 + 2, none⟩ = some (.int .i64 xm) := y2
                  replace s1 : (wa.drewN nq).cell? ⟨q, 1, none⟩ = some (.int .i64 p1) := s1
                  replace s2 : (wa.drewN nq).cell? ⟨q, 2, none⟩ = some (.int .i64 p2) := s2
                  clear HWb HBX
                  generalize wa.drewN nq = wb at *
                  go_upto_region 17 with fail
                  go_quiet (fail)
                  have HW2 := Lib.hid (below_drewn HW1.out nq)
                  clear y0 y1 y2 s1 s2 HB1 HW1
                  generalize wb.drewN nq = wd at *
                  go_wp2_with fail
                  go_roundw
                  case rel => exact ⟨c + 1, true, false, by omega, by go_num, by go_num, by go_num, Lib.hid ⟨by rw [HNF.out]; simp, by rw [HNT.out]; simp⟩, HW2⟩
                  case measure => simp [intOf]; omega
              | false =>
                cases T with
                | true =>
                  go_quiet (fail)
                  have HW1 := Lib.hid (below_drewn HWb.out nq)
                  have HB1 := Lib.hid (HBX.out.drewN nq)
                  replace y0 : (wa.drewN nq).cell? ⟨bl, ol + k * 3, none⟩ = some (.int .i64 xd) := y0
                  replace y1 : (wa.drewN nq).cell? ⟨bl, ol + k * 3 + 1, none⟩ = some (.int .i64 xf) := y1
                  replace y2 : (wa.drewN nq).cell? ⟨bl, ol + k * 3 + 2, none⟩ = some (.int .i64 xm) := y2
                  replace s1 : (wa.drewN nq).cell? ⟨q, 1, none⟩ = some (.int .i64 p1) := s1
                  replace s2 : (wa.drewN nq).cell? ⟨q, 2, none⟩ = some (.int .i64 p2) := s2
                  clear HWb HBX
                  generalize wa.drewN nq = wb at *
                  go_upto_region 17 with fail
                  go_quiet (fail)
                  have HW2 := Lib.hid (below_drewn HW1.out nq)
                  clear y0 y1 y2 s1 s2 HB1 HW1
                  generalize wb.drewN nq = wd at *
                  go_wp2_with fail
                  go_roundw
                  case rel => exact ⟨c + 1, false, true, by omega, by go_num, by go_num, by go_num, Lib.hid ⟨by rw [HNF.out]; simp, by rw [HNT.out]; simp⟩, HW2⟩
                  case measure => simp [intOf]; omega
                | false =>
                  go_quiet (fail)
                  have HW1 := Lib.hid (below_drewn HWb.out nq)
                  have HB1 := Lib.hid (HBX.out.drewN nq)
                  replace y0 : (wa.drewN nq).cell? ⟨bl, ol + k * 3, none⟩ = some (.int .i64 xd) := y0
                  replace y1 : (wa.drewN nq).cell? ⟨bl, ol + k * 3 + 1, none⟩ = some (.int .i64 xf) := y1
                  replace y2 : (wa.drewN nq).cell? ⟨bl, ol + k * 3 + 2, none⟩ = some (.int .i64 xm) := y2
                  replace s1 : (wa.drewN nq).cell? ⟨q, 1, none⟩ = some (.int .i64 p1) := s1
                  replace s2 : (wa.drewN nq).cell? ⟨q, 2, none⟩ = some (.int .i64 p2) := s2
                  clear HWb HBX
                  generalize wa.drewN nq = wb at *
                  go_upto_region 17 with fail
                  go_quiet (fail)
                  have HW2 := Lib.hid (below_drewn HW1.out nq)
                  clear y0 y1 y2 s1 s2 HB1 HW1
                  generalize wb.drewN nq = wd at *
                  go_wp2_with fail
                  go_roundw
                  case rel => exact ⟨c + 1, false, false, by omega, by go_num, by go_num, by go_num, Lib.hid ⟨by rw [HNF.out]; simp, by rw [HNT.out]; simp⟩, HW2⟩
                  case measure => simp [intOf]; omega
          · have hc2 : ¬ (c : Int) < (ps.length : Int) := by omega
            have hcp2 : c = ps.length := by omega
            have hFt : F = true := by rw [HFT.out.1, hcp2]; exact HFA.out
            have hTt : T = true := by rw [HFT.out.2, hcp2]; exact HLA.out
            subst hFt hTt
            clear hcp2 HSr HFT
            go_wp2_with fail
            have hK := HK.out
            subst hK
            go_roundw
            case rel => exact ⟨k + 1, by omega, by go_num, HW⟩
            case measure => simp [intOf]; omega
    · have hk2 : ¬ (k : Int) < (l.length : Int) := by omega
      go_wp2_with fail
      clear hk2 hlt hk hk0
      obtain ⟨wo, rfl⟩ : ∃ wo : World, wo = wr := ⟨_, rfl⟩
      go_loopw [10] (fun i wr => ∃ k : Nat, k ≤ ps.length ∧ i = .int .i64 (k : Int) ∧ Hid (Below w4.heap.size w4 wr)) (fun i _ => ps.length - (intOf i).toNat)
      case atStart => exact ⟨0, Nat.zero_le _, rfl, HW⟩
      case round =>
        clear HW
        obtain ⟨k, hk, rfl, HW⟩ := hrel
        have hk0 : (0 : Int) ≤ (k : Int) := by omega
        have HSr := Lib.hid (HS.out.below HW.out)
        have z6 : wr.cell? ⟨w.heap.size, 6, none⟩ = some (.slice Ap ps.length cp) := HSr.out.2.2.cell 6
        by_cases hlt : k < ps.length
        · obtain ⟨p, hp⟩ : ∃ p, ps[k]? = some p := ⟨_, List.getElem?_eq_getElem hlt⟩
          have HPX := Lib.hid hp
          have hk1 : (k : Int) < (ps.length : Int) := by omega
          have HON : Hid (l.countP (inPoll p) = 1) := Lib.hid (by rw [HPL.out]; exact in_once HR.out (List.mem_of_getElem? hp))
          have hpl1 := (HR.out.2.2.2.1.2 k p hp).2.1
          obtain ⟨p0, p1, p2, p3, p4, p5⟩ := p
          simp only at hpl1
          obtain ⟨hpl1, hpl2⟩ := hpl1
          clear hp HSr
          go_wp2_with fail
          clear z6
          obtain ⟨wp, rfl⟩ : ∃ wp : World, wp = wr := ⟨_, rfl⟩
          go_loopw [11, 12] (fun n i wr => ∃ (c N : Nat), c ≤ l.length ∧ i = .int .i64 (c : Int) ∧ n = .int .i64 (N : Int) ∧ N ≤ c ∧ Hid (N = cntUpto (inPoll ⟨p0, p1, p2, p3, p4, p5⟩) l c) ∧ Hid (Below w4.heap.size w4 wr)) (fun _ i _ => l.length - (intOf i).toNat)
          case atStart => exact ⟨0, 0, Nat.zero_le _, rfl, rfl, Nat.le_refl _, Lib.hid rfl, HW⟩
          case round =>
            clear HW
            obtain ⟨c, N, hc, rfl, rfl, hN, HN, HW⟩ := hrel
            have hc0 : (0 : Int) ≤ (c : Int) := by omega
            by_cases hcl2 : c < l.length
            · obtain ⟨x, hx⟩ : ∃ x, l[c]? = some x := ⟨_, List.getElem?_eq_getElem hcl2⟩
              have hc1 : (c : Int) < (l.length : Int) := by omega
              obtain ⟨d, hd⟩ := polls_mem HR.out (x := x) (by rw [← HPL.out]; exact List.mem_of_getElem? hx)
              have hm1 := hd.many
              have hf1 := hd.frm
              have HCN : Hid (cntUpto (inPoll ⟨p0, p1, p2, p3, p4, p5⟩) l (c + 1) = N + if inPoll ⟨p0, p1, p2, p3, p4, p5⟩ x = true then 1 else 0) := Lib.hid (by rw [cntUpto_next hx, HN.out])
              obtain ⟨bl, ol, hA, hb, hcell⟩ := row_at (LawFrame.RowsAt.below HV.out HW.out) hx
              subst hA
              have y0 := hcell 0 _ rfl
              have y1 := hcell 1 _ rfl
              have y2 := hcell 2 _ rfl
              simp only [Nat.add_zero] at y0 y1 y2
              clear hcell hb hx hd HN
              obtain ⟨xd, xf, xm⟩ := x
              simp only at y0 y1 y2 hm1 hf1
              obtain ⟨hm1, hm2⟩ := hm1
              obtain ⟨hf1, hf2⟩ := hf1
              have HSr := Lib.hid (HS.out.below HW.out)
              obtain ⟨bp, op, hA, hb, hcell⟩ := row_at HSr.out.2.1.2.1 HPX.out
              subst hA
              have q0 := hcell 0 _ rfl
              have q1 := hcell 1 _ rfl
              have q2 := hcell 2 _ rfl
              have q3 := hcell 3 _ rfl
              have q4 := hcell 4 _ rfl
              have q5 := hcell 5 _ rfl
              simp only [Nat.add_zero] at q0 q1 q2 q3 q4 q5
              have z6 : wr.cell? ⟨w.heap.size, 6, none⟩ = some (.slice (some ⟨bp, op, none⟩) ps.length cp) := HSr.out.2.2.cell 6
              clear hcell hb HSr
              have hw1 : IntKind.i64.wrap (xf + xm) = xf + xm := IntWalk.i64_in _ (by omega)
              have hdv0 : (xd == p1) = true ∨ (xd == p1) = false := by cases (xd == p1) <;> simp
              rcases hdv0 with hdv | hdv
              · by_cases h1 : xf ≤ p2
                · have h1d : decide (xf ≤ p2) = true := decide_eq_true h1
                  by_cases h2 : p2 < xf + xm
                  · have h2d : decide (p2 < xf + xm) = true := decide_eq_true h2
                    go_upto_region 27 with fail
                    go_quiet (fail)
                    have HW1 := Lib.hid (below_drewn HW.out nq)
                    clear y0 y1 y2 q0 q1 q2 q3 q4 q5 z6 HW
                    generalize wr.drewN nq = wd at *
                    go_wp2_with fail
                    go_roundw
                    case rel => exact ⟨c + 1, N + 1, by omega, by go_num, by go_num, by omega, Lib.hid (by rw [HCN.out]; simp [inPoll, hdv, h1, h2]), HW1⟩
                    case measure => simp [intOf]; omega
                  · have h2d : decide (p2 < xf + xm) = false := decide_eq_false h2
                    go_upto_region 27 with fail
                    go_quiet (fail)
                    have HW1 := Lib.hid (below_drewn HW.out nq)
                    clear y0 y1 y2 q0 q1 q2 q3 q4 q5 z6 HW
                    generalize wr.drewN nq = wd at *
                    go_wp2_with fail
                    go_roundw
                    case rel => exact ⟨c + 1, N, by omega, by go_num, by go_num, by omega, Lib.hid (by rw [HCN.out]; simp [inPoll, hdv, h1, h2]), HW1⟩
                    case measure => simp [intOf]; omega
                · have h1d : decide (xf ≤ p2) = false := decide_eq_false h1
                  go_upto_region 27 with fail
                  go_quiet (fail)
                  have HW1 := Lib.hid (below_drewn HW.out nq)
                  clear y0 y1 y2 q0 q1 q2 q3 q4 q5 z6 HW
                  generalize wr.drewN nq = wd at *
                  go_wp2_with fail
                  go_roundw
                  case rel => exact ⟨c + 1, N, by omega, by go_num, by go_num, by omega, Lib.hid (by rw [HCN.out]; simp [inPoll, hdv, h1]), HW1⟩
                  case measure => simp [intOf]; omega
              · have hx0 : True := trivial
                go_upto_region 27 with fail
                go_quiet (fail)
                have HW1 := Lib.hid (below_drewn HW.out nq)
                clear y0 y1 y2 q0 q1 q2 q3 q4 q5 z6 HW
                generalize wr.drewN nq = wd at *
                go_wp2_with fail
                go_roundw
                case rel => exact ⟨c + 1, N, by omega, by go_num, by go_num, by omega, Lib.hid (by rw [HCN.out]; simp [inPoll, hdv]), HW1⟩
                case measure => simp [intOf]; omega
            · have hc2 : ¬ (c : Int) < (l.length : Int) := by omega
              have hcll : c = l.length := by omega
              have hN1 : N = 1 := by rw [HN.out, hcll, cntUpto_all]; exact HON.out
              subst hN1
              clear hcll HN
              go_wp2_with fail
              go_roundw
              case rel => exact ⟨k + 1, by omega, by go_num, HW⟩
              case measure => simp [intOf]; omega
        · have hk2 : ¬ (k : Int) < (ps.length : Int) := by omega
          go_wp2_with fail
          go_ret
          exact ⟨rfl, HSr.out.1⟩
end Go.Proofs.Ytbpenoelmangkaa
