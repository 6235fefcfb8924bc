/-
  The document's causes and effects, walked.
-/
import Derived.Test.YtbpenoelmangkaaMatRef4
namespace Go.Proofs.Ytbpenoelmangkaa
open Go.RowKit
set_option maxHeartbeats 4000000 in
set_option maxRecDepth 100000 in
theorem rcauses_any (w : World) (l : List Cs) (v : Value) (h : CssAt w l v) (hl : l.length ≤ 1125899906842624) (hls : ∀ c ∈ l, c.pts.length ≤ 1125899906842624) (size : Int) :
    Calls Try.prog 25 #[v, .int .i64 size] w (Tells (cssP l size) w) := by
  obtain ⟨A, c, e, hc, -⟩ := id h.1
  subst e
  have HL := Lib.hid h
  have HLS := Lib.hid hls
  clear h hls
  go_enter Try.func25, Try.ntmps25
  go_wp2_with fail
  go_loopw [5] (fun i wr => ∃ k : Nat, k ≤ l.length ∧ i = .int .i64 k ∧ Hid (Upto (csP size) l k) ∧ Hid (Below w.heap.size w wr)) (fun i _ => l.length - (intOf i).toNat)
  case atStart => exact ⟨0, Nat.zero_le _, rfl, Lib.hid (upto_zero _ _), Lib.hid (Below.refl _ _)⟩
  case round =>
    obtain ⟨k, hk, rfl, HU, HW⟩ := hrel
    by_cases hlt : k < l.length
    · obtain ⟨x, hx⟩ : ∃ x, l[k]? = some x := ⟨_, List.getElem?_eq_getElem hlt⟩
      have HL2 := HL.out.below HW.out
      obtain ⟨b, off, hA, hb, hcell⟩ := row_at HL2.1 hx
      subst hA
      have y0 := hcell 0 _ rfl
      have y1 := hcell 1 _ rfl
      have y2 := hcell 2 _ rfl
      have y3 := hcell 3 _ rfl
      have y4 := hcell 4 _ rfl
      simp only [Nat.add_zero] at y0
      clear hcell
      have HX := Lib.hid hx
      have HPT := Lib.hid (HL2.2 x (List.mem_of_getElem? hx))
      have HPL := Lib.hid (HLS.out x (List.mem_of_getElem? hx))
      have hk1 : (k : Int) < (l.length : Int) := by omega
      have hk0 : (0 : Int) ≤ (k : Int) := by omega
      clear hx hb HL2
      obtain ⟨xn, xv, xl, xm, xs, xp⟩ := x
      simp only at y0 y1 y2 y3 y4
      obtain ⟨Ap, cp, e, hcp, -⟩ := id HPT.out
      simp only at e
      subst e
      go_wp2_with fail
      refine (rsome_any _ xp _ (NumsAt.below HPT.out ((Below.refl _ _).alloc (Nat.le_refl _) _)) HPL.out 4 size).mono ?_
      rintro e w1 ⟨b1, rfl, hb1, hB⟩
      have HB1 : Hid (Below w.heap.size w w1) := Lib.hid ((HW.out.alloc HW.out.size _).trans (hB.mono (by have := HW.out.size; simp; omega)))
      obtain ⟨g, hg⟩ : ∃ g, g = wr.heap.size := ⟨_, rfl⟩
      have HBX : Hid (Words.Blk w1 g 42 #[.string xn, .int .i64 xv, .int .i64 xl, .int .i64 xm, .slice Ap xp.length cp] ∧ w.heap.size ≤ g) := Lib.hid ⟨by rw [hg]; exact (Words.Blk.new wr _ _).below hB (by simp), by rw [hg]; exact HW.out.size⟩
      rw [← hg]
      clear hB y0 y1 y2 y3 y4 HW hg
      have z1 : w1.cell? ⟨g, 1, none⟩ = some (.int .i64 xv) := HBX.out.1.cell 1
      have z2 : w1.cell? ⟨g, 2, none⟩ = some (.int .i64 xl) := HBX.out.1.cell 2
      have z3 : w1.cell? ⟨g, 3, none⟩ = some (.int .i64 xm) := HBX.out.1.cell 3
      have z4 : w1.cell? ⟨g, 4, none⟩ = some (.slice Ap xp.length cp) := HBX.out.1.cell 4
      have HN : Hid (¬ csP size k ⟨xn, xv, xl, xm, .slice Ap xp.length cp, xp⟩ → ¬ cssP l size) := Lib.hid (fun hn hp => hn (hp.2 k _ HX.out))
      have HC1 := Lib.hid hb1
      clear hb1
      cases b1 with
      | false =>
        have HNO := Lib.hid (HN.out (fun hp => by have := HC1.out.2 hp.1; cases this))
        go_wp2_with fail
        go_ret
        exact tells_no HNO.out HB1.out
      | true =>
      have C1 := Lib.hid (HC1.out.1 rfl)
      clear HC1
      go_wp2_with fail
      refine (within_any _ _ _ _).mono ?_
      rintro e w2 ⟨rfl, rfl⟩
      by_cases c2 : 1 ≤ xv ∧ xv ≤ (xp.length : Int)
      case neg =>
        rw [decide_eq_false c2]
        have HNO := Lib.hid (HN.out (fun hp => c2 hp.2.1))
        clear c2
        go_wp2_with fail
        go_ret
        exact tells_no HNO.out HB1.out
      rw [decide_eq_true c2]
      have C2 := Lib.hid c2
      clear c2
      go_wp2_with fail
      refine (within_any _ _ _ _).mono ?_
      rintro e w2 ⟨rfl, rfl⟩
      by_cases c3 : 1 ≤ xl ∧ xl ≤ 6
      case neg =>
        rw [decide_eq_false c3]
        have HNO := Lib.hid (HN.out (fun hp => c3 hp.2.2.1))
        clear c3
        go_wp2_with fail
        go_ret
        exact tells_no HNO.out HB1.out
      rw [decide_eq_true c3]
      have C3 := Lib.hid c3
      clear c3
      go_wp2_with fail
      refine (within_any _ _ _ _).mono ?_
      rintro e w2 ⟨rfl, rfl⟩
      by_cases c4 : 0 ≤ xm ∧ xm ≤ 100000
      case neg =>
        rw [decide_eq_false c4]
        have HNO := Lib.hid (HN.out (fun hp => c4 hp.2.2.2))
        clear c4
        go_wp2_with fail
        go_ret
        exact tells_no HNO.out HB1.out
      rw [decide_eq_true c4]
      have C4 := Lib.hid c4
      clear c4
      go_wp2_with fail
      go_roundw
      case rel => exact ⟨k + 1, by omega, by go_num, Lib.hid (upto_step HU.out HX.out ⟨C1.out, C2.out, C3.out, C4.out⟩), HB1⟩
      case measure => simp [intOf]; omega
    · have hkl : k = l.length := by omega
      have HA := Lib.hid (upto_all (by rw [← hkl]; exact HU.out))
      clear hkl
      have hk2 : ¬ (k : Int) < (l.length : Int) := by omega
      by_cases h1 : (l.length : Int) ≤ 8
      · go_wp2_with fail
        go_ret
        exact tells_yes ⟨by omega, HA.out⟩ HW.out
      · go_wp2_with fail
        go_ret
        exact tells_no (fun hp => absurd hp.1 (by omega)) HW.out
set_option maxHeartbeats 4000000 in
set_option maxRecDepth 100000 in
theorem reffects_any (w : World) (l : List Ef) (v : Value) (h : EfsAt w l v) (hl : l.length ≤ 1125899906842624) (hls : ∀ c ∈ l, c.cs.length ≤ 1125899906842624) (size many : Int) :
    Calls Try.prog 26 #[v, .int .i64 size, .int .i64 many] w (Tells (efsP l size many) w) := by
  obtain ⟨A, c, e, hc, -⟩ := id h.1
  subst e
  have HL := Lib.hid h
  have HLS := Lib.hid hls
  clear h hls
  go_enter Try.func26, Try.ntmps26
  go_wp2_with fail
  go_loopw [7] (fun i wr => ∃ k : Nat, k ≤ l.length ∧ i = .int .i64 k ∧ Hid (Upto (efP l size many) l k) ∧ Hid (Below w.heap.size w wr)) (fun i _ => l.length - (intOf i).toNat)
  case atStart => exact ⟨0, Nat.zero_le _, rfl, Lib.hid (upto_zero _ _), Lib.hid (Below.refl _ _)⟩
  case round =>
    obtain ⟨k, hk, rfl, HU, HW⟩ := hrel
    by_cases hlt : k < l.length
    · obtain ⟨x, hx⟩ : ∃ x, l[k]? = some x := ⟨_, List.getElem?_eq_getElem hlt⟩
      have HL2 := HL.out.below HW.out
      obtain ⟨b, off, hA, hb, hcell⟩ := row_at HL2.1 hx
      subst hA
      have y0 := hcell 0 _ rfl
      have y1 := hcell 1 _ rfl
      have y2 := hcell 2 _ rfl
      have y3 := hcell 3 _ rfl
      have y4 := hcell 4 _ rfl
      simp only [Nat.add_zero] at y0
      clear hcell
      have HX := Lib.hid hx
      have HPT := Lib.hid (HL.out.2 x (List.mem_of_getElem? hx))
      have HPL := Lib.hid (HLS.out x (List.mem_of_getElem? hx))
      have hk1 : (k : Int) < (l.length : Int) := by omega
      have hk0 : (0 : Int) ≤ (k : Int) := by omega
      clear hx hb HL2
      obtain ⟨xn, xd, xp, xt, xs, xc⟩ := x
      simp only at y0 y1 y2 y3 y4
      obtain ⟨Ap, cp, e, hcp, -⟩ := id HPT.out
      simp only at e
      subst e
      go_wp2_with fail
      refine (rsome_any _ [xd] _ (nums_one _ xd (by simp) _) (by simp) 1 size).mono ?_
      rintro e w1 ⟨b1, rfl, hb1, hB⟩
      have HB1 : Hid (Below w.heap.size w w1) := Lib.hid (((HW.out.alloc HW.out.size _).alloc (by have := HW.out.size; simp; omega) _).trans (hB.mono (by have := HW.out.size; simp; omega)))
      obtain ⟨g, hg⟩ : ∃ g, g = wr.heap.size := ⟨_, rfl⟩
      have HBX : Hid (Words.Blk w1 g 39 #[.string xn, .int .i64 xd, .int .i64 xp, .int .i64 xt, .slice Ap xc.length cp] ∧ w.heap.size ≤ g) := Lib.hid ⟨by rw [hg]; exact ((Words.Blk.new wr _ _).alloc _).below hB (by simp; omega), by rw [hg]; exact HW.out.size⟩
      rw [← hg]
      clear hB y0 y1 y2 y3 y4 HW hg
      have z1 : w1.cell? ⟨g, 1, none⟩ = some (.int .i64 xd) := HBX.out.1.cell 1
      have z2 : w1.cell? ⟨g, 2, none⟩ = some (.int .i64 xp) := HBX.out.1.cell 2
      have z3 : w1.cell? ⟨g, 3, none⟩ = some (.int .i64 xt) := HBX.out.1.cell 3
      have z4 : w1.cell? ⟨g, 4, none⟩ = some (.slice Ap xc.length cp) := HBX.out.1.cell 4
      have HN : Hid (¬ efP l size many k ⟨xn, xd, xp, xt, .slice Ap xc.length cp, xc⟩ → ¬ efsP l size many) := Lib.hid (fun hn hp => hn (hp.2 k _ HX.out))
      have HC1 := Lib.hid hb1
      clear hb1
      cases b1 with
      | false =>
        have HNO := Lib.hid (HN.out (fun hp => by have := HC1.out.2 ((some_one _ _).2 hp.1); cases this))
        go_wp2_with fail
        go_ret
        exact tells_no HNO.out HB1.out
      | true =>
      have C1 := Lib.hid ((some_one _ _).1 (HC1.out.1 rfl))
      clear HC1
      go_wp2_with fail
      refine (within_any _ _ _ _).mono ?_
      rintro e w2 ⟨rfl, rfl⟩
      by_cases c2 : 0 ≤ xp ∧ xp ≤ 255
      case neg =>
        rw [decide_eq_false c2]
        have HNO := Lib.hid (HN.out (fun hp => c2 hp.2.1))
        clear c2
        go_wp2_with fail
        go_ret
        exact tells_no HNO.out HB1.out
      rw [decide_eq_true c2]
      have C2 := Lib.hid c2
      clear c2
      go_wp2_with fail
      refine (within_any _ _ _ _).mono ?_
      rintro e w2 ⟨rfl, rfl⟩
      by_cases c3 : 0 ≤ xt ∧ xt ≤ 1
      case neg =>
        rw [decide_eq_false c3]
        have HNO := Lib.hid (HN.out (fun hp => c3 hp.2.2.1))
        clear c3
        go_wp2_with fail
        go_ret
        exact tells_no HNO.out HB1.out
      rw [decide_eq_true c3]
      have C3 := Lib.hid c3
      clear c3
      go_wp2_with fail
      clear z1 z2 z3 z4
      refine (rsome_any _ xc _ (NumsAt.below HPT.out HB1.out) HPL.out 8 many).mono ?_
      rintro e w3 ⟨b1, rfl, hb1, hB⟩
      have HBY : Hid (Below w.heap.size w w3 ∧ Words.Blk w3 g 39 #[.string xn, .int .i64 xd, .int .i64 xp, .int .i64 xt, .slice Ap xc.length cp]) := Lib.hid ⟨HB1.out.trans (hB.mono HB1.out.size), HBX.out.1.below hB HBX.out.1.lt⟩
      have HC1 := Lib.hid hb1
      clear hb1 hB HB1 HBX
      cases b1 with
      | false =>
        have HNO := Lib.hid (HN.out (fun hp => by have := HC1.out.2 hp.2.2.2.1; cases this))
        go_wp2_with fail
        go_ret
        exact tells_no HNO.out HBY.out.1
      | true =>
      have C4 := Lib.hid (HC1.out.1 rfl)
      clear HC1
      go_wp2_with fail
      obtain ⟨wo, rfl⟩ : ∃ wo : World, wo = w3 := ⟨_, rfl⟩
      go_loopw [9] (fun i wr => ∃ j : Nat, j ≤ k ∧ i = .int .i64 j ∧ Hid (FreshAt (fun a b : Ef => a.dev = b.dev ∧ a.place = b.place) l k j) ∧ Hid (Below w.heap.size w wr ∧ Words.Blk wr g 39 #[.string xn, .int .i64 xd, .int .i64 xp, .int .i64 xt, .slice Ap xc.length cp])) (fun i _ => l.length - (intOf i).toNat)
      case atStart => exact ⟨0, Nat.zero_le _, rfl, Lib.hid (freshAt_zero _ _ _), HBY⟩
      case round =>
        clear HBY
        obtain ⟨j, hj, rfl, HF, HW⟩ := hrel
        by_cases hjk : j < k
        · have z1 : wr.cell? ⟨g, 1, none⟩ = some (.int .i64 xd) := HW.out.2.cell 1
          have z2 : wr.cell? ⟨g, 2, none⟩ = some (.int .i64 xp) := HW.out.2.cell 2
          obtain ⟨y, hy⟩ : ∃ y, l[j]? = some y := ⟨_, List.getElem?_eq_getElem (by omega)⟩
          obtain ⟨b', off', hA, hb, hcell⟩ := row_at (HL.out.below HW.out.1).1 hy
          injection hA with hA
          injection hA with hA1 hA2 _
          subst hA1 hA2
          have y1 := hcell 1 _ rfl
          have y2 := hcell 2 _ rfl
          have HY := Lib.hid hy
          have hjl : (j : Int) < (l.length : Int) := by omega
          have hj0 : (0 : Int) ≤ (j : Int) := by omega
          have hjk1 : (j : Int) < (k : Int) := by omega
          clear hcell hy hb
          obtain ⟨yn, yd, yp, yt, ys, yc⟩ := y
          simp only at y1 y2
          have hcs : Hid (yd = xd ∧ yp = xp) ∧ (yd == xd) = true ∧ (yp == xp) = true ∨ Hid (¬ (yd = xd ∧ yp = xp)) ∧ ((yd == xd) = false ∨ (yd == xd) = true ∧ (yp == xp) = false) := by
            by_cases e1 : yd = xd <;> by_cases e2 : yp = xp <;> simp [e1, e2, Lib.hid]
          rcases hcs with ⟨HE, h1, h2⟩ | ⟨HE, hcs⟩
          · have HNO := Lib.hid (show ¬ efsP l size many from fun hp => not_fresh hjk HY.out HE.out (hp.2 k _ HX.out).2.2.2.2)
            go_upto_region 10 with fail
            go_quiet (fail)
            have HW1 := Lib.hid (below_drewn HW.out.1 nq)
            clear y1 y2 z1 z2 HW
            generalize wr.drewN nq = wa at *
            go_wp2_with fail
            go_ret
            exact tells_no HNO.out HW1.out
          · rcases hcs with h1 | ⟨h1, h2⟩
            all_goals
              go_upto_region 10 with fail
              go_quiet (fail)
              have HW1 := Lib.hid (And.intro (below_drewn HW.out.1 nq) (HW.out.2.drewN nq))
              clear y1 y2 z1 z2 HW
              generalize wr.drewN nq = wa at *
              go_wp2_with fail
              go_roundw
              case rel => exact ⟨j + 1, by omega, by go_num, Lib.hid (freshAt_step HF.out HX.out HY.out HE.out), HW1⟩
              case measure => simp [intOf]; omega
        · obtain rfl : j = k := by omega
          have HP : Hid (Upto (efP l size many) l (j + 1)) := Lib.hid (upto_step HU.out HX.out ⟨C1.out, C2.out, C3.out, C4.out, HF.out _ HX.out⟩)
          have HB2 := Lib.hid HW.out.1
          clear HW
          go_wp2_with fail
          go_roundw
          case rel => exact ⟨j + 1, by omega, by go_num, HP, HB2⟩
          case measure => simp [intOf]; omega
    · have hkl : k = l.length := by omega
      have HA := Lib.hid (upto_all (by rw [← hkl]; exact HU.out))
      clear hkl
      have hk2 : ¬ (k : Int) < (l.length : Int) := by omega
      by_cases h1 : (l.length : Int) ≤ 8
      · go_wp2_with fail
        go_ret
        exact tells_yes ⟨by omega, HA.out⟩ HW.out
      · go_wp2_with fail
        go_ret
        exact tells_no (fun hp => absurd hp.1 (by omega)) HW.out
end Go.Proofs.Ytbpenoelmangkaa
