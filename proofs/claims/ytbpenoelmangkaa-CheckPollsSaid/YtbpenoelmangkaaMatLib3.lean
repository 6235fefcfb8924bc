/-
  The program's twins of devices, points and effects, walked.
-/
import Derived.Test.YtbpenoelmangkaaMatLib2
namespace Go.Proofs.Ytbpenoelmangkaa
open Go.RowKit
set_option maxHeartbeats 4000000 in
set_option maxRecDepth 100000 in
theorem devTwin_any (w : World) (yn xn : ByteArray) (yl yu xl xu : Int) :
    Calls Try.prog 65 #[.agg #[.string yn, .int .i64 yl, .int .i64 yu], .agg #[.string xn, .int .i64 xl, .int .i64 xu]] w fun e w' => e = .returned (.bool (decide (yl = xl ∧ yu = xu))) ∧ Below w.heap.size w w' := by
  have HB := Lib.hid (((Below.refl w.heap.size w).alloc (Nat.le_refl _) (.cells #[.string yn, .int .i64 yl, .int .i64 yu] 54)).alloc (by simp) (.cells #[.string xn, .int .i64 xl, .int .i64 xu] 54))
  by_cases h1 : yl = xl
  · by_cases h2 : yu = xu
    · rw [decide_eq_true ⟨h1, h2⟩]
      have e1 : (yl == xl) = true := by simp [h1]
      have e2 : (yu == xu) = true := by simp [h2]
      clear h1 h2
      go_enter Try.func65, Try.ntmps65
      go_wp2_with fail
      go_ret
      exact ⟨rfl, HB.out⟩
    · rw [decide_eq_false (fun h => h2 h.2)]
      have e1 : (yl == xl) = true := by simp [h1]
      have e2 : (yu == xu) = false := by simp [h2]
      clear h1 h2
      go_enter Try.func65, Try.ntmps65
      go_wp2_with fail
      go_ret
      exact ⟨rfl, HB.out⟩
  · rw [decide_eq_false (fun h => h1 h.1)]
    have e1 : (yl == xl) = false := by simp [h1]
    clear h1
    go_enter Try.func65, Try.ntmps65
    go_wp2_with fail
    go_ret
    exact ⟨rfl, HB.out⟩
set_option maxHeartbeats 4000000 in
set_option maxRecDepth 100000 in
theorem twinsD_any (w : World) (l : List Dev) (v : Value) (h : DevsAt w l v) (hl : l.length ≤ 1125899906842624) :
    Calls Try.prog 64 #[v, .func (.func 65) #[] #[]] w (Tells (¬ All (fun i s => Fresh (fun a b : Dev => a.line = b.line ∧ a.unit = b.unit) l s i) l) w) := by
  obtain ⟨A, c, e, hc, -⟩ := id h
  subst e
  have HL := Lib.hid h
  clear h
  go_enter Try.func64, Try.ntmps64
  go_wp2_with fail
  go_loopw [9] (fun i wr => ∃ k : Nat, k ≤ l.length ∧ i = .int .i64 k ∧ Hid (Upto (fun i s => Fresh (fun a b : Dev => a.line = b.line ∧ a.unit = b.unit) l s i) l k) ∧ Hid (Below w.heap.size w wr)) (fun i _ => l.length - (intOf i).toNat)
  case atStart => exact ⟨0, Nat.zero_le _, rfl, Lib.hid (upto_zero _ _), Lib.hid (Below.refl _ _)⟩
  case round =>
    obtain ⟨k, hk, rfl, HU, HW⟩ := hrel
    by_cases hlt : k < l.length
    · obtain ⟨x, hx⟩ : ∃ x, l[k]? = some x := ⟨_, List.getElem?_eq_getElem hlt⟩
      obtain ⟨b, off, hA, hb, hcell⟩ := row_at (LawFrame.RowsAt.below HL.out HW.out) hx
      subst hA
      clear hcell hb
      have HX := Lib.hid hx
      have hk1 : (k : Int) < (l.length : Int) := by omega
      have hk0 : (0 : Int) ≤ (k : Int) := by omega
      clear hx
      go_wp2_with fail
      obtain ⟨wo, rfl⟩ : ∃ wo : World, wo = wr := ⟨_, rfl⟩
      go_loopw [13] (fun i wr => ∃ j : Nat, j ≤ k ∧ i = .int .i64 j ∧ Hid (FreshAt (fun a b : Dev => a.line = b.line ∧ a.unit = b.unit) l k j) ∧ Hid (Below w.heap.size w wr)) (fun i _ => l.length - (intOf i).toNat)
      case atStart => exact ⟨0, Nat.zero_le _, rfl, Lib.hid (freshAt_zero _ _ _), HW⟩
      case round =>
        clear HW
        obtain ⟨j, hj, rfl, HF, HW⟩ := hrel
        by_cases hjk : j < k
        · obtain ⟨b', off', hA, hb, hcell⟩ := row_at (LawFrame.RowsAt.below HL.out HW.out) HX.out
          injection hA with hA
          injection hA with hA1 hA2 _
          subst hA1 hA2
          have y0 := hcell 0 _ rfl
          have y1 := hcell 1 _ rfl
          have y2 := hcell 2 _ rfl
          clear hcell hb
          obtain ⟨y, hy⟩ : ∃ y, l[j]? = some y := ⟨_, List.getElem?_eq_getElem (by omega)⟩
          obtain ⟨b', off', hA, hb, hcell⟩ := row_at (LawFrame.RowsAt.below HL.out HW.out) hy
          injection hA with hA
          injection hA with hA1 hA2 _
          subst hA1 hA2
          have z0 := hcell 0 _ rfl
          have z1 := hcell 1 _ rfl
          have z2 := hcell 2 _ rfl
          simp only [Nat.add_zero] at y0 z0
          have HY := Lib.hid hy
          have hjl : (j : Int) < (l.length : Int) := by omega
          have hj0 : (0 : Int) ≤ (j : Int) := by omega
          have hjk1 : (j : Int) < (k : Int) := by omega
          clear hcell hy hb
          obtain ⟨xn, xl, xu⟩ := x
          obtain ⟨yn, yl, yu⟩ := y
          simp only at y0 z0 y1 z1 y2 z2
          go_upto_region 7 with fail
          go_still_tail 9, (by kernel_rfl)
          have HW1 := Lib.hid HW.out.drew
          change wpList _ _ _ _ _ wr.drew
          clear y0 z0 y1 z1 y2 z2 HW
          generalize wr.drew = wa at *
          go_wp2_with fail
          refine (devTwin_any _ _ _ _ _ _ _).mono ?_
          rintro e w1 ⟨rfl, hB⟩
          have HW2 := Lib.hid (HW1.out.trans (hB.mono HW1.out.size))
          clear hB HW1
          by_cases hxy : yl = xl ∧ yu = xu
          · have HNO := Lib.hid (show ¬ All (fun i s => Fresh (fun a b : Dev => a.line = b.line ∧ a.unit = b.unit) l s i) l from fun hp => not_fresh hjk HY.out hxy (hp k _ HX.out))
            rw [decide_eq_true hxy]
            clear hxy
            go_wp2_with fail
            go_ret
            exact tells_yes HNO.out HW2.out
          · rw [decide_eq_false hxy]
            have HE := Lib.hid hxy
            clear hxy
            go_wp2_with fail
            go_roundw
            case rel => exact ⟨j + 1, by omega, by go_num, Lib.hid (freshAt_step HF.out HX.out HY.out HE.out), HW2⟩
            case measure => simp [intOf]; omega
        · obtain rfl : j = k := by omega
          have HP := Lib.hid (upto_step HU.out HX.out (HF.out x HX.out))
          go_wp2_with fail
          go_roundw
          case rel => exact ⟨j + 1, by omega, by go_num, HP, HW⟩
          case measure => simp [intOf]; omega
    · have hkl : k = l.length := by omega
      have HA := Lib.hid (upto_all (by rw [← hkl]; exact HU.out))
      clear hkl
      have hk2 : ¬ (k : Int) < (l.length : Int) := by omega
      go_wp2_with fail
      go_ret
      exact tells_no (fun hn => hn HA.out) HW.out
set_option maxHeartbeats 4000000 in
set_option maxRecDepth 100000 in
theorem ptTwin_any (w : World) (yn xn : ByteArray) (yd yp yt yo yf xd xp xt xo xf : Int) :
    Calls Try.prog 67 #[.agg #[.string yn, .int .i64 yd, .int .i64 yp, .int .i64 yt, .int .i64 yo, .int .i64 yf], .agg #[.string xn, .int .i64 xd, .int .i64 xp, .int .i64 xt, .int .i64 xo, .int .i64 xf]] w fun e w' => e = .returned (.bool (decide (yd = xd ∧ yp = xp))) ∧ Below w.heap.size w w' := by
  have HB := Lib.hid (((Below.refl w.heap.size w).alloc (Nat.le_refl _) (.cells #[.string yn, .int .i64 yd, .int .i64 yp, .int .i64 yt, .int .i64 yo, .int .i64 yf] 35)).alloc (by simp) (.cells #[.string xn, .int .i64 xd, .int .i64 xp, .int .i64 xt, .int .i64 xo, .int .i64 xf] 35))
  by_cases h1 : yd = xd
  · by_cases h2 : yp = xp
    · rw [decide_eq_true ⟨h1, h2⟩]
      have e1 : (yd == xd) = true := by simp [h1]
      have e2 : (yp == xp) = true := by simp [h2]
      clear h1 h2
      go_enter Try.func67, Try.ntmps67
      go_wp2_with fail
      go_ret
      exact ⟨rfl, HB.out⟩
    · rw [decide_eq_false (fun h => h2 h.2)]
      have e1 : (yd == xd) = true := by simp [h1]
      have e2 : (yp == xp) = false := by simp [h2]
      clear h1 h2
      go_enter Try.func67, Try.ntmps67
      go_wp2_with fail
      go_ret
      exact ⟨rfl, HB.out⟩
  · rw [decide_eq_false (fun h => h1 h.1)]
    have e1 : (yd == xd) = false := by simp [h1]
    clear h1
    go_enter Try.func67, Try.ntmps67
    go_wp2_with fail
    go_ret
    exact ⟨rfl, HB.out⟩
set_option maxHeartbeats 4000000 in
set_option maxRecDepth 100000 in
theorem twinsP_any (w : World) (l : List Pt) (v : Value) (h : PtsAt w l v) (hl : l.length ≤ 1125899906842624) :
    Calls Try.prog 66 #[v, .func (.func 67) #[] #[]] w (Tells (¬ All (fun i s => Fresh (fun a b : Pt => a.dev = b.dev ∧ a.place = b.place) l s i) l) w) := by
  obtain ⟨A, c, e, hc, -⟩ := id h
  subst e
  have HL := Lib.hid h
  clear h
  go_enter Try.func66, Try.ntmps66
  go_wp2_with fail
  go_loopw [9] (fun i wr => ∃ k : Nat, k ≤ l.length ∧ i = .int .i64 k ∧ Hid (Upto (fun i s => Fresh (fun a b : Pt => a.dev = b.dev ∧ a.place = b.place) l s i) l k) ∧ Hid (Below w.heap.size w wr)) (fun i _ => l.length - (intOf i).toNat)
  case atStart => exact ⟨0, Nat.zero_le _, rfl, Lib.hid (upto_zero _ _), Lib.hid (Below.refl _ _)⟩
  case round =>
    obtain ⟨k, hk, rfl, HU, HW⟩ := hrel
    by_cases hlt : k < l.length
    · obtain ⟨x, hx⟩ : ∃ x, l[k]? = some x := ⟨_, List.getElem?_eq_getElem hlt⟩
      obtain ⟨b, off, hA, hb, hcell⟩ := row_at (LawFrame.RowsAt.below HL.out HW.out) hx
      subst hA
      clear hcell hb
      have HX := Lib.hid hx
      have hk1 : (k : Int) < (l.length : Int) := by omega
      have hk0 : (0 : Int) ≤ (k : Int) := by omega
      clear hx
      go_wp2_with fail
      obtain ⟨wo, rfl⟩ : ∃ wo : World, wo = wr := ⟨_, rfl⟩
      go_loopw [13] (fun i wr => ∃ j : Nat, j ≤ k ∧ i = .int .i64 j ∧ Hid (FreshAt (fun a b : Pt => a.dev = b.dev ∧ a.place = b.place) l k j) ∧ Hid (Below w.heap.size w wr)) (fun i _ => l.length - (intOf i).toNat)
      case atStart => exact ⟨0, Nat.zero_le _, rfl, Lib.hid (freshAt_zero _ _ _), HW⟩
      case round =>
        clear HW
        obtain ⟨j, hj, rfl, HF, HW⟩ := hrel
        by_cases hjk : j < k
        · obtain ⟨b', off', hA, hb, hcell⟩ := row_at (LawFrame.RowsAt.below HL.out HW.out) HX.out
          injection hA with hA
          injection hA with hA1 hA2 _
          subst hA1 hA2
          have y0 := hcell 0 _ rfl
          have y1 := hcell 1 _ rfl
          have y2 := hcell 2 _ rfl
          have y3 := hcell 3 _ rfl
          have y4 := hcell 4 _ rfl
          have y5 := hcell 5 _ rfl
          clear hcell hb
          obtain ⟨y, hy⟩ : ∃ y, l[j]? = some y := ⟨_, List.getElem?_eq_getElem (by omega)⟩
          obtain ⟨b', off', hA, hb, hcell⟩ := row_at (LawFrame.RowsAt.below HL.out HW.out) hy
          injection hA with hA
          injection hA with hA1 hA2 _
          subst hA1 hA2
          have z0 := hcell 0 _ rfl
          have z1 := hcell 1 _ rfl
          have z2 := hcell 2 _ rfl
          have z3 := hcell 3 _ rfl
          have z4 := hcell 4 _ rfl
          have z5 := hcell 5 _ rfl
          simp only [Nat.add_zero] at y0 z0
          have HY := Lib.hid hy
          have hjl : (j : Int) < (l.length : Int) := by omega
          have hj0 : (0 : Int) ≤ (j : Int) := by omega
          have hjk1 : (j : Int) < (k : Int) := by omega
          clear hcell hy hb
          obtain ⟨xn, xd, xp, xt, xo, xf⟩ := x
          obtain ⟨yn, yd, yp, yt, yo, yf⟩ := y
          simp only at y0 z0 y1 z1 y2 z2 y3 z3 y4 z4 y5 z5
          go_upto_region 7 with fail
          go_still_tail 9, (by kernel_rfl)
          have HW1 := Lib.hid HW.out.drew
          change wpList _ _ _ _ _ wr.drew
          clear y0 z0 y1 z1 y2 z2 y3 z3 y4 z4 y5 z5 HW
          generalize wr.drew = wa at *
          go_wp2_with fail
          refine (ptTwin_any _ _ _ _ _ _ _ _ _ _ _ _ _).mono ?_
          rintro e w1 ⟨rfl, hB⟩
          have HW2 := Lib.hid (HW1.out.trans (hB.mono HW1.out.size))
          clear hB HW1
          by_cases hxy : yd = xd ∧ yp = xp
          · have HNO := Lib.hid (show ¬ All (fun i s => Fresh (fun a b : Pt => a.dev = b.dev ∧ a.place = b.place) l s i) l from fun hp => not_fresh hjk HY.out hxy (hp k _ HX.out))
            rw [decide_eq_true hxy]
            clear hxy
            go_wp2_with fail
            go_ret
            exact tells_yes HNO.out HW2.out
          · rw [decide_eq_false hxy]
            have HE := Lib.hid hxy
            clear hxy
            go_wp2_with fail
            go_roundw
            case rel => exact ⟨j + 1, by omega, by go_num, Lib.hid (freshAt_step HF.out HX.out HY.out HE.out), HW2⟩
            case measure => simp [intOf]; omega
        · obtain rfl : j = k := by omega
          have HP := Lib.hid (upto_step HU.out HX.out (HF.out x HX.out))
          go_wp2_with fail
          go_roundw
          case rel => exact ⟨j + 1, by omega, by go_num, HP, HW⟩
          case measure => simp [intOf]; omega
    · have hkl : k = l.length := by omega
      have HA := Lib.hid (upto_all (by rw [← hkl]; exact HU.out))
      clear hkl
      have hk2 : ¬ (k : Int) < (l.length : Int) := by omega
      go_wp2_with fail
      go_ret
      exact tells_no (fun hn => hn HA.out) HW.out
set_option maxHeartbeats 4000000 in
set_option maxRecDepth 100000 in
theorem efTwin_any (w : World) (yn xn : ByteArray) (yd yp yt xd xp xt : Int) (yA xA : Option Addr) (yb yc xb xc : Nat) :
    Calls Try.prog 70 #[.agg #[.string yn, .int .i64 yd, .int .i64 yp, .int .i64 yt, .slice yA yb yc], .agg #[.string xn, .int .i64 xd, .int .i64 xp, .int .i64 xt, .slice xA xb xc]] w fun e w' => e = .returned (.bool (decide (yd = xd ∧ yp = xp))) ∧ Below w.heap.size w w' := by
  have HB := Lib.hid (((Below.refl w.heap.size w).alloc (Nat.le_refl _) (.cells #[.string yn, .int .i64 yd, .int .i64 yp, .int .i64 yt, .slice yA yb yc] 39)).alloc (by simp) (.cells #[.string xn, .int .i64 xd, .int .i64 xp, .int .i64 xt, .slice xA xb xc] 39))
  by_cases h1 : yd = xd
  · by_cases h2 : yp = xp
    · rw [decide_eq_true ⟨h1, h2⟩]
      have e1 : (yd == xd) = true := by simp [h1]
      have e2 : (yp == xp) = true := by simp [h2]
      clear h1 h2
      go_enter Try.func70, Try.ntmps70
      go_wp2_with fail
      go_ret
      exact ⟨rfl, HB.out⟩
    · rw [decide_eq_false (fun h => h2 h.2)]
      have e1 : (yd == xd) = true := by simp [h1]
      have e2 : (yp == xp) = false := by simp [h2]
      clear h1 h2
      go_enter Try.func70, Try.ntmps70
      go_wp2_with fail
      go_ret
      exact ⟨rfl, HB.out⟩
  · rw [decide_eq_false (fun h => h1 h.1)]
    have e1 : (yd == xd) = false := by simp [h1]
    clear h1
    go_enter Try.func70, Try.ntmps70
    go_wp2_with fail
    go_ret
    exact ⟨rfl, HB.out⟩
set_option maxHeartbeats 4000000 in
set_option maxRecDepth 100000 in
theorem twinsE_any (w : World) (l : List Ef) (v : Value) (h : EfsAt w l v) (hl : l.length ≤ 1125899906842624) :
    Calls Try.prog 69 #[v, .func (.func 70) #[] #[]] w (Tells (¬ All (fun i s => Fresh (fun a b : Ef => a.dev = b.dev ∧ a.place = b.place) l s i) l) w) := by
  obtain ⟨A, c, e, hc, -⟩ := id h.1
  subst e
  have HL := Lib.hid h
  clear h
  go_enter Try.func69, Try.ntmps69
  go_wp2_with fail
  go_loopw [9] (fun i wr => ∃ k : Nat, k ≤ l.length ∧ i = .int .i64 k ∧ Hid (Upto (fun i s => Fresh (fun a b : Ef => a.dev = b.dev ∧ a.place = b.place) l s i) l k) ∧ Hid (Below w.heap.size w wr)) (fun i _ => l.length - (intOf i).toNat)
  case atStart => exact ⟨0, Nat.zero_le _, rfl, Lib.hid (upto_zero _ _), Lib.hid (Below.refl _ _)⟩
  case round =>
    obtain ⟨k, hk, rfl, HU, HW⟩ := hrel
    by_cases hlt : k < l.length
    · obtain ⟨x, hx⟩ : ∃ x, l[k]? = some x := ⟨_, List.getElem?_eq_getElem hlt⟩
      obtain ⟨b, off, hA, hb, hcell⟩ := row_at (HL.out.below HW.out).1 hx
      subst hA
      clear hcell hb
      have HX := Lib.hid hx
      have hk1 : (k : Int) < (l.length : Int) := by omega
      have hk0 : (0 : Int) ≤ (k : Int) := by omega
      clear hx
      go_wp2_with fail
      obtain ⟨wo, rfl⟩ : ∃ wo : World, wo = wr := ⟨_, rfl⟩
      go_loopw [13] (fun i wr => ∃ j : Nat, j ≤ k ∧ i = .int .i64 j ∧ Hid (FreshAt (fun a b : Ef => a.dev = b.dev ∧ a.place = b.place) l k j) ∧ Hid (Below w.heap.size w wr)) (fun i _ => l.length - (intOf i).toNat)
      case atStart => exact ⟨0, Nat.zero_le _, rfl, Lib.hid (freshAt_zero _ _ _), HW⟩
      case round =>
        clear HW
        obtain ⟨j, hj, rfl, HF, HW⟩ := hrel
        by_cases hjk : j < k
        · obtain ⟨b', off', hA, hb, hcell⟩ := row_at (HL.out.below HW.out).1 HX.out
          injection hA with hA
          injection hA with hA1 hA2 _
          subst hA1 hA2
          have y0 := hcell 0 _ rfl
          have y1 := hcell 1 _ rfl
          have y2 := hcell 2 _ rfl
          have y3 := hcell 3 _ rfl
          have y4 := hcell 4 _ rfl
          clear hcell hb
          obtain ⟨y, hy⟩ : ∃ y, l[j]? = some y := ⟨_, List.getElem?_eq_getElem (by omega)⟩
          obtain ⟨b', off', hA, hb, hcell⟩ := row_at (HL.out.below HW.out).1 hy
          injection hA with hA
          injection hA with hA1 hA2 _
          subst hA1 hA2
          have z0 := hcell 0 _ rfl
          have z1 := hcell 1 _ rfl
          have z2 := hcell 2 _ rfl
          have z3 := hcell 3 _ rfl
          have z4 := hcell 4 _ rfl
          simp only [Nat.add_zero] at y0 z0
          have HY := Lib.hid hy
          have hjl : (j : Int) < (l.length : Int) := by omega
          have hj0 : (0 : Int) ≤ (j : Int) := by omega
          have hjk1 : (j : Int) < (k : Int) := by omega
          clear hcell hy hb
          obtain ⟨xn, xd, xp, xt, xv, xcs⟩ := x
          obtain ⟨yn, yd, yp, yt, yv, ycs⟩ := y
          simp only at y0 z0 y1 z1 y2 z2 y3 z3 y4 z4
          obtain ⟨Ax, cx, ex, hcx, -⟩ := id (HL.out.2 _ (List.mem_of_getElem? HX.out))
          obtain ⟨Ay, cy, ey, hcy, -⟩ := id (HL.out.2 _ (List.mem_of_getElem? HY.out))
          simp only at ex ey
          subst ex ey
          go_upto_region 7 with fail
          go_still_tail 9, (by kernel_rfl)
          have HW1 := Lib.hid HW.out.drew
          change wpList _ _ _ _ _ wr.drew
          clear y0 z0 y1 z1 y2 z2 y3 z3 y4 z4 HW
          generalize wr.drew = wa at *
          go_wp2_with fail
          refine (efTwin_any _ _ _ _ _ _ _ _ _ _ _ _ _ _ _).mono ?_
          rintro e w1 ⟨rfl, hB⟩
          have HW2 := Lib.hid (HW1.out.trans (hB.mono HW1.out.size))
          clear hB HW1
          by_cases hxy : yd = xd ∧ yp = xp
          · have HNO := Lib.hid (show ¬ All (fun i s => Fresh (fun a b : Ef => a.dev = b.dev ∧ a.place = b.place) l s i) l from fun hp => not_fresh hjk HY.out hxy (hp k _ HX.out))
            rw [decide_eq_true hxy]
            clear hxy
            go_wp2_with fail
            go_ret
            exact tells_yes HNO.out HW2.out
          · rw [decide_eq_false hxy]
            have HE := Lib.hid hxy
            clear hxy
            go_wp2_with fail
            go_roundw
            case rel => exact ⟨j + 1, by omega, by go_num, Lib.hid (freshAt_step HF.out HX.out HY.out HE.out), HW2⟩
            case measure => simp [intOf]; omega
        · obtain rfl : j = k := by omega
          have HP := Lib.hid (upto_step HU.out HX.out (HF.out x HX.out))
          go_wp2_with fail
          go_roundw
          case rel => exact ⟨j + 1, by omega, by go_num, HP, HW⟩
          case measure => simp [intOf]; omega
    · have hkl : k = l.length := by omega
      have HA := Lib.hid (upto_all (by rw [← hkl]; exact HU.out))
      clear hkl
      have hk2 : ¬ (k : Int) < (l.length : Int) := by omega
      go_wp2_with fail
      go_ret
      exact tells_no (fun hn => hn HA.out) HW.out
end Go.Proofs.Ytbpenoelmangkaa
