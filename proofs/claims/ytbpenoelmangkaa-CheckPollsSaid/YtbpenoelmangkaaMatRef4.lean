/-
  The document's points, walked.
-/
import Derived.Test.YtbpenoelmangkaaMatRef3
namespace Go.Proofs.Ytbpenoelmangkaa
open Go.RowKit
theorem some_one (x size : Int) : someP [x] 1 size ↔ 0 ≤ x ∧ x < size := by
  constructor
  · intro h
    exact (h.2.2 0 x rfl).1
  · intro h
    refine ⟨by simp, by simp, fun i y hy => ?_⟩
    obtain ⟨hi, e⟩ := List.getElem?_eq_some_iff.1 hy
    obtain rfl : i = 0 := by simp at hi; omega
    simp at e
    subst e
    exact ⟨h, fresh_zero _ _ _⟩
/-- a row of one number, laid anew -/
theorem nums_one (w : World) (x : Int) {g : Nat} (hg : w.heap.size = g) (t : TypeId) : NumsAt (w.alloc (.cells #[.int .i64 x] t)) [x] (.slice (some ⟨g, 0, none⟩) 1 1) := by
  subst hg
  refine ⟨_, 1, rfl, Nat.le_refl _, fun _ => ⟨w.heap.size, 0, rfl, by simp, fun i y hy d u hu => ?_⟩⟩
  obtain ⟨hi, e⟩ := List.getElem?_eq_some_iff.1 hy
  obtain rfl : i = 0 := by simp at hi; omega
  simp at e
  subst e
  obtain ⟨hd, e⟩ := List.getElem?_eq_some_iff.1 hu
  obtain rfl : d = 0 := by simp [nC] at hd; omega
  simp [nC] at e
  subst e
  rw [cell_of_row _ _ _ _ _ _ (heap_alloc_new w _)]
  rfl
set_option maxHeartbeats 4000000 in
set_option maxRecDepth 100000 in
theorem rpoints_any (w : World) (l : List Pt) (v : Value) (h : PtsAt w l v) (hl : l.length ≤ 1125899906842624) (size : Int) :
    Calls Try.prog 24 #[v, .int .i64 size] w (Tells (ptsP l size) w) := by
  obtain ⟨A, c, e, hc, -⟩ := id h
  subst e
  have HL := Lib.hid h
  clear h
  go_enter Try.func24, Try.ntmps24
  go_wp2_with fail
  go_loopw [5] (fun i wr => ∃ k : Nat, k ≤ l.length ∧ i = .int .i64 k ∧ Hid (Upto (ptP l size) l k) ∧ Hid (Below w.heap.size w wr)) (fun i _ => l.length - (intOf i).toNat)
  case atStart => exact ⟨0, Nat.zero_le _, rfl, Lib.hid (upto_zero _ _), Lib.hid (Below.refl _ _)⟩
  case round =>
    obtain ⟨k, hk, rfl, HU, HW⟩ := hrel
    by_cases hlt : k < l.length
    · obtain ⟨x, hx⟩ : ∃ x, l[k]? = some x := ⟨_, List.getElem?_eq_getElem hlt⟩
      obtain ⟨b, off, hA, hb, hcell⟩ := row_at (LawFrame.RowsAt.below HL.out HW.out) hx
      subst hA
      have y0 := hcell 0 _ rfl
      have y1 := hcell 1 _ rfl
      have y2 := hcell 2 _ rfl
      have y3 := hcell 3 _ rfl
      have y4 := hcell 4 _ rfl
      have y5 := hcell 5 _ rfl
      simp only [Nat.add_zero] at y0
      clear hcell
      have HX := Lib.hid hx
      have hk1 : (k : Int) < (l.length : Int) := by omega
      have hk0 : (0 : Int) ≤ (k : Int) := by omega
      clear hx hb
      obtain ⟨xn, xd, xp, xt, xo, xf⟩ := x
      simp only at y0 y1 y2 y3 y4 y5
      go_wp2_with fail
      refine (rsome_any _ [xd] _ (nums_one _ xd (by simp) _) (by simp) 1 size).mono ?_
      rintro e w1 ⟨b1, rfl, hb1, hB⟩
      have HB1 : Hid (Below w.heap.size w w1) := Lib.hid (((HW.out.alloc HW.out.size _).alloc (by have := HW.out.size; simp; omega) _).trans (hB.mono (by have := HW.out.size; simp; omega)))
      obtain ⟨g, hg⟩ : ∃ g, g = wr.heap.size := ⟨_, rfl⟩
      have HBX : Hid (Words.Blk w1 g 35 #[.string xn, .int .i64 xd, .int .i64 xp, .int .i64 xt, .int .i64 xo, .int .i64 xf] ∧ w.heap.size ≤ g) := Lib.hid ⟨by rw [hg]; exact ((Words.Blk.new wr _ _).alloc _).below hB (by simp; omega), by rw [hg]; exact HW.out.size⟩
      rw [← hg]
      clear hB y0 y1 y2 y3 y4 y5 HW hg
      have z1 : w1.cell? ⟨g, 1, none⟩ = some (.int .i64 xd) := HBX.out.1.cell 1
      have z2 : w1.cell? ⟨g, 2, none⟩ = some (.int .i64 xp) := HBX.out.1.cell 2
      have z3 : w1.cell? ⟨g, 3, none⟩ = some (.int .i64 xt) := HBX.out.1.cell 3
      have z4 : w1.cell? ⟨g, 4, none⟩ = some (.int .i64 xo) := HBX.out.1.cell 4
      have z5 : w1.cell? ⟨g, 5, none⟩ = some (.int .i64 xf) := HBX.out.1.cell 5
      have HN : Hid (¬ ptP l size k ⟨xn, xd, xp, xt, xo, xf⟩ → ¬ ptsP l size) := Lib.hid (fun hn hp => hn (hp.2 k _ HX.out))
      have HC1 := Lib.hid hb1
      clear hb1
      cases b1 with
      | false =>
        have HNO := Lib.hid (HN.out (fun hp => by have := HC1.out.2 ((some_one _ _).2 hp.1); cases this))
        go_wp2_with fail
        go_ret
        exact tells_no HNO.out HB1.out
      | true =>
      have C1 := Lib.hid ((some_one _ _).1 (HC1.out.1 rfl))
      clear HC1
      go_wp2_with fail
      refine (within_any _ _ _ _).mono ?_
      rintro e w2 ⟨rfl, rfl⟩
      by_cases c2 : 0 ≤ xp ∧ xp ≤ 255
      case neg =>
        rw [decide_eq_false c2]
        have HNO := Lib.hid (HN.out (fun hp => c2 hp.2.1))
        clear c2
        go_wp2_with fail
        go_ret
        exact tells_no HNO.out HB1.out
      rw [decide_eq_true c2]
      have C2 := Lib.hid c2
      clear c2
      go_wp2_with fail
      refine (within_any _ _ _ _).mono ?_
      rintro e w2 ⟨rfl, rfl⟩
      by_cases c3 : 0 ≤ xt ∧ xt ≤ 1
      case neg =>
        rw [decide_eq_false c3]
        have HNO := Lib.hid (HN.out (fun hp => c3 hp.2.2.1))
        clear c3
        go_wp2_with fail
        go_ret
        exact tells_no HNO.out HB1.out
      rw [decide_eq_true c3]
      have C3 := Lib.hid c3
      clear c3
      go_wp2_with fail
      refine (within_any _ _ _ _).mono ?_
      rintro e w2 ⟨rfl, rfl⟩
      by_cases c4 : 0 ≤ xo ∧ xo ≤ 1000
      case neg =>
        rw [decide_eq_false c4]
        have HNO := Lib.hid (HN.out (fun hp => c4 hp.2.2.2.1))
        clear c4
        go_wp2_with fail
        go_ret
        exact tells_no HNO.out HB1.out
      rw [decide_eq_true c4]
      have C4 := Lib.hid c4
      clear c4
      go_wp2_with fail
      refine (within_any _ _ _ _).mono ?_
      rintro e w2 ⟨rfl, rfl⟩
      by_cases c5 : 0 ≤ xf ∧ xf ≤ 1000
      case neg =>
        rw [decide_eq_false c5]
        have HNO := Lib.hid (HN.out (fun hp => c5 hp.2.2.2.2.1))
        clear c5
        go_wp2_with fail
        go_ret
        exact tells_no HNO.out HB1.out
      rw [decide_eq_true c5]
      have C5 := Lib.hid c5
      clear c5
      go_wp2_with fail
      clear z1 z2 z3 z4 z5
      obtain ⟨wo, rfl⟩ : ∃ wo : World, wo = w1 := ⟨_, rfl⟩
      go_loopw [7] (fun i wr => ∃ j : Nat, j ≤ k ∧ i = .int .i64 j ∧ Hid (FreshAt (fun a b : Pt => a.dev = b.dev ∧ a.place = b.place) l k j) ∧ Hid (Below w.heap.size w wr ∧ Words.Blk wr g 35 #[.string xn, .int .i64 xd, .int .i64 xp, .int .i64 xt, .int .i64 xo, .int .i64 xf])) (fun i _ => l.length - (intOf i).toNat)
      case atStart => exact ⟨0, Nat.zero_le _, rfl, Lib.hid (freshAt_zero _ _ _), Lib.hid ⟨HB1.out, HBX.out.1⟩⟩
      case round =>
        clear HB1 HBX
        obtain ⟨j, hj, rfl, HF, HW⟩ := hrel
        by_cases hjk : j < k
        · have z1 : wr.cell? ⟨g, 1, none⟩ = some (.int .i64 xd) := HW.out.2.cell 1
          have z2 : wr.cell? ⟨g, 2, none⟩ = some (.int .i64 xp) := HW.out.2.cell 2
          obtain ⟨y, hy⟩ : ∃ y, l[j]? = some y := ⟨_, List.getElem?_eq_getElem (by omega)⟩
          obtain ⟨b', off', hA, hb, hcell⟩ := row_at (LawFrame.RowsAt.below HL.out HW.out.1) hy
          injection hA with hA
          injection hA with hA1 hA2 _
          subst hA1 hA2
          have y1 := hcell 1 _ rfl
          have y2 := hcell 2 _ rfl
          have HY := Lib.hid hy
          have hjl : (j : Int) < (l.length : Int) := by omega
          have hj0 : (0 : Int) ≤ (j : Int) := by omega
          have hjk1 : (j : Int) < (k : Int) := by omega
          clear hcell hy hb
          obtain ⟨yn, yd, yp, yt, yo, yf⟩ := y
          simp only at y1 y2
          have hcs : Hid (yd = xd ∧ yp = xp) ∧ (yd == xd) = true ∧ (yp == xp) = true ∨ Hid (¬ (yd = xd ∧ yp = xp)) ∧ ((yd == xd) = false ∨ (yd == xd) = true ∧ (yp == xp) = false) := by
            by_cases e1 : yd = xd <;> by_cases e2 : yp = xp <;> simp [e1, e2, Lib.hid]
          rcases hcs with ⟨HE, h1, h2⟩ | ⟨HE, hcs⟩
          · have HNO := Lib.hid (show ¬ ptsP l size from fun hp => not_fresh hjk HY.out HE.out (hp.2 k _ HX.out).2.2.2.2.2)
            go_upto_region 10 with fail
            go_quiet (fail)
            have HW1 := Lib.hid (below_drewn HW.out.1 nq)
            clear y1 y2 z1 z2 HW
            generalize wr.drewN nq = wa at *
            go_wp2_with fail
            go_ret
            exact tells_no HNO.out HW1.out
          · rcases hcs with h1 | ⟨h1, h2⟩
            all_goals
              go_upto_region 10 with fail
              go_quiet (fail)
              have HW1 := Lib.hid (And.intro (below_drewn HW.out.1 nq) (HW.out.2.drewN nq))
              clear y1 y2 z1 z2 HW
              generalize wr.drewN nq = wa at *
              go_wp2_with fail
              go_roundw
              case rel => exact ⟨j + 1, by omega, by go_num, Lib.hid (freshAt_step HF.out HX.out HY.out HE.out), HW1⟩
              case measure => simp [intOf]; omega
        · obtain rfl : j = k := by omega
          have HP : Hid (Upto (ptP l size) l (j + 1)) := Lib.hid (upto_step HU.out HX.out ⟨C1.out, C2.out, C3.out, C4.out, C5.out, HF.out _ HX.out⟩)
          have HB2 := Lib.hid HW.out.1
          clear HW
          go_wp2_with fail
          go_roundw
          case rel => exact ⟨j + 1, by omega, by go_num, HP, HB2⟩
          case measure => simp [intOf]; omega
    · have hkl : k = l.length := by omega
      have HA := Lib.hid (upto_all (by rw [← hkl]; exact HU.out))
      clear hkl
      have hk2 : ¬ (k : Int) < (l.length : Int) := by omega
      by_cases h1 : (l.length : Int) ≤ 16
      · go_wp2_with fail
        go_ret
        exact tells_yes ⟨by omega, HA.out⟩ HW.out
      · go_wp2_with fail
        go_ret
        exact tells_no (fun hp => absurd hp.1 (by omega)) HW.out
end Go.Proofs.Ytbpenoelmangkaa
