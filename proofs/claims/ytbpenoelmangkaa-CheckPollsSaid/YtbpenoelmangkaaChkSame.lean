/-
  SameInts and SamePolls, walked.
-/
import Derived.Test.YtbpenoelmangkaaChkPolls
namespace Go.Proofs.Ytbpenoelmangkaa
open Go.RowKit
theorem eq_of_upto {α : Type} {a b : List α} (hl : a.length = b.length) (h : Upto (fun i x => b[i]? = some x) a a.length) : a = b := by
  refine List.ext_getElem? fun i => ?_
  rcases Nat.lt_or_ge i a.length with hi | hi
  · rw [h i _ hi (List.getElem?_eq_getElem hi), List.getElem?_eq_getElem hi]
  · rw [List.getElem?_eq_none hi, List.getElem?_eq_none (by omega)]
set_option maxHeartbeats 4000000 in
set_option maxRecDepth 100000 in
theorem sameInts_any (w : World) (a b : List Int) (va vb : Value) (ha : NumsAt w a va) (hb : NumsAt w b vb) (_hla : a.length ≤ 1125899906842624) (hlb : b.length ≤ 1125899906842624) :
    Calls Try.prog 17 #[va, vb] w (Tells (a = b) w) := by
  obtain ⟨A, c, e, hc, -⟩ := id ha
  subst e
  obtain ⟨B, d, e, hd, -⟩ := id hb
  subst e
  have HA := Lib.hid ha
  have HB := Lib.hid hb
  clear ha hb
  by_cases hl : a.length = b.length
  case neg =>
    have HNO := Lib.hid (show ¬ a = b from fun e => hl (by rw [e]))
    have h1 : ((a.length : Int) == (b.length : Int)) = false := by rw [beq_eq_false_iff_ne]; omega
    have h2 : ((a.length : Int) != (b.length : Int)) = true := by rw [bne, h1]; rfl
    clear hl
    go_enter Try.func17, Try.ntmps17
    go_wp2_with fail
    go_ret
    exact tells_no HNO.out (Below.refl _ _)
  have HLL := Lib.hid hl
  have h1 : ((a.length : Int) == (b.length : Int)) = true := by simp [hl]
  have h2 : ((a.length : Int) != (b.length : Int)) = false := by rw [bne, h1]; rfl
  have hl1 : a.length ≤ b.length := by omega
  clear hl
  go_enter Try.func17, Try.ntmps17
  go_wp2_with fail
  clear h1 h2
  go_loopw [5] (fun i wr => ∃ k : Nat, k ≤ a.length ∧ i = .int .i64 k ∧ Hid (Upto (fun i x => b[i]? = some x) a k) ∧ Hid (Below w.heap.size w wr)) (fun i _ => a.length - (intOf i).toNat)
  case atStart => exact ⟨0, Nat.zero_le _, rfl, Lib.hid (upto_zero _ _), Lib.hid (Below.refl _ _)⟩
  case round =>
    obtain ⟨k, hk, rfl, HU, HW⟩ := hrel
    by_cases hlt : k < a.length
    · obtain ⟨x, hx⟩ : ∃ x, a[k]? = some x := ⟨_, List.getElem?_eq_getElem hlt⟩
      obtain ⟨y, hy⟩ : ∃ y, b[k]? = some y := ⟨_, List.getElem?_eq_getElem (by omega)⟩
      obtain ⟨g, off, hA, hcell⟩ := one_at (NumsAt.below HA.out HW.out) hx
      subst hA
      have y0 := hcell _ rfl
      clear hcell
      obtain ⟨g2, off2, hA, hcell⟩ := one_at (NumsAt.below HB.out HW.out) hy
      subst hA
      have y1 := hcell _ rfl
      have HX := Lib.hid hx
      have HY := Lib.hid hy
      have hk1 : (k : Int) < (a.length : Int) := by omega
      have hk2 : (k : Int) < (b.length : Int) := by omega
      have hk0 : (0 : Int) ≤ (k : Int) := by omega
      clear hcell hx hy
      have hcs : Hid (x = y) ∧ (x == y) = true ∧ (x != y) = false ∨ Hid (¬ x = y) ∧ (x == y) = false ∧ (x != y) = true := by
        by_cases e : x = y
        · exact .inl ⟨Lib.hid e, by simp [e], by simp [e]⟩
        · exact .inr ⟨Lib.hid e, by simp [e], by simp [e]⟩
      rcases hcs with ⟨HE, hxy, hxy2⟩ | ⟨HE, hxy, hxy2⟩
      · go_upto_region 6 with fail
        go_quiet (fail)
        have HW1 := Lib.hid (below_drewn HW.out nq)
        clear y0 y1 HW
        generalize wr.drewN nq = wa at *
        go_wp2_with fail
        go_roundw
        case rel => exact ⟨k + 1, by omega, by go_num, Lib.hid (upto_step HU.out HX.out (by rw [HY.out, HE.out])), HW1⟩
        case measure => simp [intOf]; omega
      · have HNO := Lib.hid (show ¬ a = b from fun e => HE.out (by have h := HX.out; rw [e, HY.out] at h; injection h with h; exact h.symm))
        go_upto_region 6 with fail
        go_quiet (fail)
        have HW1 := Lib.hid (below_drewn HW.out nq)
        clear y0 y1 HW
        generalize wr.drewN nq = wa at *
        go_wp2_with fail
        go_ret
        exact tells_no HNO.out HW1.out
    · have hkl : k = a.length := by omega
      have HEQ := Lib.hid (eq_of_upto HLL.out (by rw [← hkl]; exact HU.out))
      clear hkl
      have hk2 : ¬ (k : Int) < (a.length : Int) := by omega
      go_wp2_with fail
      go_ret
      exact tells_yes HEQ.out HW.out
set_option maxHeartbeats 4000000 in
set_option maxRecDepth 100000 in
theorem samePolls_any (w : World) (a b : List Pl) (va vb : Value) (ha : PlsAt w a va) (hb : PlsAt w b vb) (_hla : a.length ≤ 1125899906842624) (hlb : b.length ≤ 1125899906842624) :
    Calls Try.prog 18 #[va, vb] w (Tells (a = b) w) := by
  obtain ⟨A, c, e, hc, -⟩ := id ha
  subst e
  obtain ⟨B, d, e, hd, -⟩ := id hb
  subst e
  have HA := Lib.hid ha
  have HB := Lib.hid hb
  clear ha hb
  by_cases hl : a.length = b.length
  case neg =>
    have HNO := Lib.hid (show ¬ a = b from fun e => hl (by rw [e]))
    have h1 : ((a.length : Int) == (b.length : Int)) = false := by rw [beq_eq_false_iff_ne]; omega
    have h2 : ((a.length : Int) != (b.length : Int)) = true := by rw [bne, h1]; rfl
    clear hl
    go_enter Try.func18, Try.ntmps18
    go_wp2_with fail
    go_ret
    exact tells_no HNO.out (Below.refl _ _)
  have HLL := Lib.hid hl
  have h1 : ((a.length : Int) == (b.length : Int)) = true := by simp [hl]
  have h2 : ((a.length : Int) != (b.length : Int)) = false := by rw [bne, h1]; rfl
  have hl1 : a.length ≤ b.length := by omega
  clear hl
  go_enter Try.func18, Try.ntmps18
  go_wp2_with fail
  clear h1 h2
  go_loopw [5] (fun i wr => ∃ k : Nat, k ≤ a.length ∧ i = .int .i64 k ∧ Hid (Upto (fun i x => b[i]? = some x) a k) ∧ Hid (Below w.heap.size w wr)) (fun i _ => a.length - (intOf i).toNat)
  case atStart => exact ⟨0, Nat.zero_le _, rfl, Lib.hid (upto_zero _ _), Lib.hid (Below.refl _ _)⟩
  case round =>
    obtain ⟨k, hk, rfl, HU, HW⟩ := hrel
    by_cases hlt : k < a.length
    · obtain ⟨x, hx⟩ : ∃ x, a[k]? = some x := ⟨_, List.getElem?_eq_getElem hlt⟩
      obtain ⟨y, hy⟩ : ∃ y, b[k]? = some y := ⟨_, List.getElem?_eq_getElem (by omega)⟩
      obtain ⟨g, off, hA, hb, hcell⟩ := row_at (LawFrame.RowsAt.below HA.out HW.out) hx
      subst hA
      have y0 := hcell 0 _ rfl
      have y1 := hcell 1 _ rfl
      have y2 := hcell 2 _ rfl
      clear hcell hb
      obtain ⟨g2, off2, hA, hb, hcell⟩ := row_at (LawFrame.RowsAt.below HB.out HW.out) hy
      subst hA
      have z0 := hcell 0 _ rfl
      have z1 := hcell 1 _ rfl
      have z2 := hcell 2 _ rfl
      clear hb
      simp only [Nat.add_zero] at y0 z0
      have HX := Lib.hid hx
      have HY := Lib.hid hy
      have hk1 : (k : Int) < (a.length : Int) := by omega
      have hk2 : (k : Int) < (b.length : Int) := by omega
      have hk0 : (0 : Int) ≤ (k : Int) := by omega
      clear hcell hx hy
      obtain ⟨xd, xf, xm⟩ := x
      obtain ⟨yd, yf, ym⟩ := y
      simp only at y0 y1 y2 z0 z1 z2
      have hcs : Hid (Pl.mk xd xf xm = Pl.mk yd yf ym) ∧ (xd == yd) = true ∧ (xf == yf) = true ∧ (xm == ym) = true ∨ Hid (¬ Pl.mk xd xf xm = Pl.mk yd yf ym) ∧ ((xd == yd) = false ∨ (xd == yd) = true ∧ ((xf == yf) = false ∨ (xf == yf) = true ∧ (xm == ym) = false)) := by
        by_cases e1 : xd = yd
        · by_cases e2 : xf = yf
          · by_cases e3 : xm = ym
            · exact .inl ⟨Lib.hid (by rw [e1, e2, e3]), by simp [e1], by simp [e2], by simp [e3]⟩
            · exact .inr ⟨Lib.hid (fun e => by injection e with a b c; exact e3 c), .inr ⟨by simp [e1], .inr ⟨by simp [e2], by simp [e3]⟩⟩⟩
          · exact .inr ⟨Lib.hid (fun e => by injection e with a b c; exact e2 b), .inr ⟨by simp [e1], .inl (by simp [e2])⟩⟩
        · exact .inr ⟨Lib.hid (fun e => by injection e with a b c; exact e1 a), .inl (by simp [e1])⟩
      rcases hcs with ⟨HE, h1, h2, h3⟩ | ⟨HE, hcs⟩
      · go_upto_region 6 with fail
        go_quiet (fail)
        have HW1 := Lib.hid (below_drewn HW.out nq)
        clear y0 y1 y2 z0 z1 z2 HW
        generalize wr.drewN nq = wa at *
        go_wp2_with fail
        go_roundw
        case rel => exact ⟨k + 1, by omega, by go_num, Lib.hid (upto_step HU.out HX.out (by rw [HY.out, HE.out])), HW1⟩
        case measure => simp [intOf]; omega
      · have HNO := Lib.hid (show ¬ a = b from fun e => HE.out (by have h := HX.out; rw [e, HY.out] at h; injection h with h; exact h.symm))
        rcases hcs with h1 | ⟨h1, h2 | ⟨h2, h3⟩⟩
        · go_upto_region 6 with fail
          go_quiet (fail)
          have HW1 := Lib.hid (below_drewn HW.out nq)
          clear y0 y1 y2 z0 z1 z2 HW
          generalize wr.drewN nq = wa at *
          go_wp2_with fail
          go_ret
          exact tells_no HNO.out HW1.out
        · go_upto_region 6 with fail
          go_quiet (fail)
          have HW1 := Lib.hid (below_drewn HW.out nq)
          clear y0 y1 y2 z0 z1 z2 HW
          generalize wr.drewN nq = wa at *
          go_wp2_with fail
          go_ret
          exact tells_no HNO.out HW1.out
        · go_upto_region 6 with fail
          go_quiet (fail)
          have HW1 := Lib.hid (below_drewn HW.out nq)
          clear y0 y1 y2 z0 z1 z2 HW
          generalize wr.drewN nq = wa at *
          go_wp2_with fail
          go_ret
          exact tells_no HNO.out HW1.out
    · have hkl : k = a.length := by omega
      have HEQ := Lib.hid (eq_of_upto HLL.out (by rw [← hkl]; exact HU.out))
      clear hkl
      have hk2 : ¬ (k : Int) < (a.length : Int) := by omega
      go_wp2_with fail
      go_ret
      exact tells_yes HEQ.out HW.out
end Go.Proofs.Ytbpenoelmangkaa
