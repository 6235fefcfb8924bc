/-
  SameInts, sameCause and sameEffect, walked.
-/
import Derived.Test.YtckbdnkonccmiaaDoorMatPlan
namespace Go.Proofs.YtckbdnkonccmiaaDoor
open Go.RowKit
set_option maxHeartbeats 4000000 in
set_option maxRecDepth 100000 in
theorem sameInts_any (w : World) (a b : List Int) (va vb : Value) (ha : NumsAt w a va) (hb : NumsAt w b vb) (_hla : a.length ≤ 1125899906842624) (hlb : b.length ≤ 1125899906842624) :
    Calls Tryd.prog 17 #[va, vb] w (Tells (a = b) w) := by
  obtain ⟨A, c, e, hc, -⟩ := id ha
  subst e
  obtain ⟨B, d, e, hd, -⟩ := id hb
  subst e
  have HA := Lib.hid ha
  have HB := Lib.hid hb
  clear ha hb
  by_cases hl : a.length = b.length
  case neg =>
    have HNO := Lib.hid (show ¬ a = b from fun e => hl (by rw [e]))
    have h1 : ((a.length : Int) == (b.length : Int)) = false := by rw [beq_eq_false_iff_ne]; omega
    have h2 : ((a.length : Int) != (b.length : Int)) = true := by rw [bne, h1]; rfl
    clear hl
    go_enter Tryd.func17, Tryd.ntmps17
    go_wp2_with fail
    go_ret
    exact tells_no HNO.out (Below.refl _ _)
  have HLL := Lib.hid hl
  have h1 : ((a.length : Int) == (b.length : Int)) = true := by simp [hl]
  have h2 : ((a.length : Int) != (b.length : Int)) = false := by rw [bne, h1]; rfl
  have hl1 : a.length ≤ b.length := by omega
  clear hl
  go_enter Tryd.func17, Tryd.ntmps17
  go_wp2_with fail
  clear h1 h2
  go_loopw [5] (fun i wr => ∃ k : Nat, k ≤ a.length ∧ i = .int .i64 k ∧ Hid (Upto (fun i x => b[i]? = some x) a k) ∧ Hid (Below w.heap.size w wr)) (fun i _ => a.length - (intOf i).toNat)
  case atStart => exact ⟨0, Nat.zero_le _, rfl, Lib.hid (upto_zero _ _), Lib.hid (Below.refl _ _)⟩
  case round =>
    obtain ⟨k, hk, rfl, HU, HW⟩ := hrel
    by_cases hlt : k < a.length
    · obtain ⟨x, hx⟩ : ∃ x, a[k]? = some x := ⟨_, List.getElem?_eq_getElem hlt⟩
      obtain ⟨y, hy⟩ : ∃ y, b[k]? = some y := ⟨_, List.getElem?_eq_getElem (by omega)⟩
      obtain ⟨g, off, hA, hcell⟩ := one_at (NumsAt.below HA.out HW.out) hx
      subst hA
      have y0 := hcell _ rfl
      clear hcell
      obtain ⟨g2, off2, hA, hcell⟩ := one_at (NumsAt.below HB.out HW.out) hy
      subst hA
      have y1 := hcell _ rfl
      have HX := Lib.hid hx
      have HY := Lib.hid hy
      have hk1 : (k : Int) < (a.length : Int) := by omega
      have hk2 : (k : Int) < (b.length : Int) := by omega
      have hk0 : (0 : Int) ≤ (k : Int) := by omega
      clear hcell hx hy
      have hcs : Hid (x = y) ∧ (x == y) = true ∧ (x != y) = false ∨ Hid (¬ x = y) ∧ (x == y) = false ∧ (x != y) = true := by
        by_cases e : x = y
        · exact .inl ⟨Lib.hid e, by simp [e], by simp [e]⟩
        · exact .inr ⟨Lib.hid e, by simp [e], by simp [e]⟩
      rcases hcs with ⟨HE, hxy, hxy2⟩ | ⟨HE, hxy, hxy2⟩
      · go_upto_region 6 with fail
        go_quiet (fail)
        have HW1 := Lib.hid (below_drewn HW.out nq)
        clear y0 y1 HW
        generalize wr.drewN nq = wa at *
        go_wp2_with fail
        go_roundw
        case rel => exact ⟨k + 1, by omega, by go_num, Lib.hid (upto_step HU.out HX.out (by rw [HY.out, HE.out])), HW1⟩
        case measure => simp [intOf]; omega
      · have HNO := Lib.hid (show ¬ a = b from fun e => HE.out (by have h := HX.out; rw [e, HY.out] at h; injection h with h; exact h.symm))
        go_upto_region 6 with fail
        go_quiet (fail)
        have HW1 := Lib.hid (below_drewn HW.out nq)
        clear y0 y1 HW
        generalize wr.drewN nq = wa at *
        go_wp2_with fail
        go_ret
        exact tells_no HNO.out HW1.out
    · have hkl : k = a.length := by omega
      have HEQ := Lib.hid (eq_of_upto HLL.out (by rw [← hkl]; exact HU.out))
      clear hkl
      have hk2 : ¬ (k : Int) < (a.length : Int) := by omega
      go_wp2_with fail
      go_ret
      exact tells_yes HEQ.out HW.out
theorem bareC_eq (x y : Cs) : bareC x = bareC y ↔ x.name = y.name ∧ x.votes = y.votes ∧ x.lamp = y.lamp ∧ x.limit = y.limit ∧ x.pts = y.pts := by
  obtain ⟨a, b, c, d, v, l⟩ := x
  obtain ⟨a', b', c', d', v', l'⟩ := y
  unfold bareC
  simp
theorem bareE_eq (x y : Ef) : bareE x = bareE y ↔ x.name = y.name ∧ x.dev = y.dev ∧ x.place = y.place ∧ x.safe = y.safe ∧ x.cs = y.cs := by
  obtain ⟨a, b, c, d, v, l⟩ := x
  obtain ⟨a', b', c', d', v', l'⟩ := y
  unfold bareE
  simp
set_option maxHeartbeats 4000000 in
set_option maxRecDepth 100000 in
theorem sameCause_any (w : World) (x y : Cs) (hx : NumsAt w x.pts x.v) (hy : NumsAt w y.pts y.v) (hxl : x.pts.length ≤ 100000) (hyl : y.pts.length ≤ 100000) :
    Calls Tryd.prog 33 #[.agg #[.string x.name, .int .i64 x.votes, .int .i64 x.lamp, .int .i64 x.limit, x.v], .agg #[.string y.name, .int .i64 y.votes, .int .i64 y.lamp, .int .i64 y.limit, y.v]] w (Tells (bareC x = bareC y) w) := by
  have hb : Below w.heap.size w ((w.alloc (.cells #[.string x.name, .int .i64 x.votes, .int .i64 x.lamp, .int .i64 x.limit, x.v] 43)).alloc (.cells #[.string y.name, .int .i64 y.votes, .int .i64 y.lamp, .int .i64 y.limit, y.v] 43)) := ((Below.refl _ _).alloc (Nat.le_refl _) _).alloc (by simp) _
  obtain ⟨A, c, e, -, -⟩ := id hx
  obtain ⟨B, d, f, -, -⟩ := id hy
  have HXY := Lib.hid (And.intro (hx.below hb) (hy.below hb))
  rw [e, f] at HXY hb
  have HB := Lib.hid hb
  have HL := Lib.hid (And.intro hxl hyl)
  have HQ := Lib.hid (bareC_eq x y)
  rw [e, f]
  clear hx hy hb hxl hyl e f
  go_enter Tryd.func33, Tryd.ntmps33
  have hc0 : Hid (x.name = y.name) ∧ (x.name.toList == y.name.toList) = true ∨ Hid (¬ x.name = y.name) ∧ (x.name.toList == y.name.toList) = false := by
    by_cases e : x.name = y.name
    · exact .inl ⟨Lib.hid e, (bytes_eq _ _).2 e⟩
    · exact .inr ⟨Lib.hid e, bytes_ne e⟩
  rcases hc0 with ⟨HE0, hq0⟩ | ⟨HE0, hq0⟩
  case inr =>
    have HNO := Lib.hid (show ¬ bareC x = bareC y from fun e => HE0.out (HQ.out.1 e).1)
    go_wp2_with fail
    go_ret
    exact tells_no HNO.out HB.out
  have hc1 : Hid (x.votes = y.votes) ∧ (x.votes == y.votes) = true ∨ Hid (¬ x.votes = y.votes) ∧ (x.votes == y.votes) = false := by
    by_cases e : x.votes = y.votes
    · exact .inl ⟨Lib.hid e, by simp [e]⟩
    · exact .inr ⟨Lib.hid e, by simp [e]⟩
  rcases hc1 with ⟨HE1, hq1⟩ | ⟨HE1, hq1⟩
  case inr =>
    have HNO := Lib.hid (show ¬ bareC x = bareC y from fun e => HE1.out (HQ.out.1 e).2.1)
    go_wp2_with fail
    go_ret
    exact tells_no HNO.out HB.out
  have hc2 : Hid (x.lamp = y.lamp) ∧ (x.lamp == y.lamp) = true ∨ Hid (¬ x.lamp = y.lamp) ∧ (x.lamp == y.lamp) = false := by
    by_cases e : x.lamp = y.lamp
    · exact .inl ⟨Lib.hid e, by simp [e]⟩
    · exact .inr ⟨Lib.hid e, by simp [e]⟩
  rcases hc2 with ⟨HE2, hq2⟩ | ⟨HE2, hq2⟩
  case inr =>
    have HNO := Lib.hid (show ¬ bareC x = bareC y from fun e => HE2.out (HQ.out.1 e).2.2.1)
    go_wp2_with fail
    go_ret
    exact tells_no HNO.out HB.out
  have hc3 : Hid (x.limit = y.limit) ∧ (x.limit == y.limit) = true ∨ Hid (¬ x.limit = y.limit) ∧ (x.limit == y.limit) = false := by
    by_cases e : x.limit = y.limit
    · exact .inl ⟨Lib.hid e, by simp [e]⟩
    · exact .inr ⟨Lib.hid e, by simp [e]⟩
  rcases hc3 with ⟨HE3, hq3⟩ | ⟨HE3, hq3⟩
  case inr =>
    have HNO := Lib.hid (show ¬ bareC x = bareC y from fun e => HE3.out (HQ.out.1 e).2.2.2.1)
    go_wp2_with fail
    go_ret
    exact tells_no HNO.out HB.out
  go_wp2_with fail
  refine (sameInts_any _ x.pts y.pts _ _ HXY.out.1 HXY.out.2 (by have := HL.out.1; omega) (by have := HL.out.2; omega)).mono ?_
  rintro e w1 ⟨bb, rfl, hb, hbe⟩
  go_wp2_with fail
  go_ret
  refine ⟨bb, rfl, ?_, HB.out.trans (hbe.mono HB.out.size)⟩
  rw [HQ.out, hb]
  exact ⟨fun h => ⟨HE0.out, HE1.out, HE2.out, HE3.out, h⟩, fun h => h.2.2.2.2⟩
set_option maxHeartbeats 4000000 in
set_option maxRecDepth 100000 in
theorem sameEffect_any (w : World) (x y : Ef) (hx : NumsAt w x.cs x.v) (hy : NumsAt w y.cs y.v) (hxl : x.cs.length ≤ 100000) (hyl : y.cs.length ≤ 100000) :
    Calls Tryd.prog 34 #[.agg #[.string x.name, .int .i64 x.dev, .int .i64 x.place, .int .i64 x.safe, x.v], .agg #[.string y.name, .int .i64 y.dev, .int .i64 y.place, .int .i64 y.safe, y.v]] w (Tells (bareE x = bareE y) w) := by
  have hb : Below w.heap.size w ((w.alloc (.cells #[.string x.name, .int .i64 x.dev, .int .i64 x.place, .int .i64 x.safe, x.v] 54)).alloc (.cells #[.string y.name, .int .i64 y.dev, .int .i64 y.place, .int .i64 y.safe, y.v] 54)) := ((Below.refl _ _).alloc (Nat.le_refl _) _).alloc (by simp) _
  obtain ⟨A, c, e, -, -⟩ := id hx
  obtain ⟨B, d, f, -, -⟩ := id hy
  have HXY := Lib.hid (And.intro (hx.below hb) (hy.below hb))
  rw [e, f] at HXY hb
  have HB := Lib.hid hb
  have HL := Lib.hid (And.intro hxl hyl)
  have HQ := Lib.hid (bareE_eq x y)
  rw [e, f]
  clear hx hy hb hxl hyl e f
  go_enter Tryd.func34, Tryd.ntmps34
  have hc0 : Hid (x.name = y.name) ∧ (x.name.toList == y.name.toList) = true ∨ Hid (¬ x.name = y.name) ∧ (x.name.toList == y.name.toList) = false := by
    by_cases e : x.name = y.name
    · exact .inl ⟨Lib.hid e, (bytes_eq _ _).2 e⟩
    · exact .inr ⟨Lib.hid e, bytes_ne e⟩
  rcases hc0 with ⟨HE0, hq0⟩ | ⟨HE0, hq0⟩
  case inr =>
    have HNO := Lib.hid (show ¬ bareE x = bareE y from fun e => HE0.out (HQ.out.1 e).1)
    go_wp2_with fail
    go_ret
    exact tells_no HNO.out HB.out
  have hc1 : Hid (x.dev = y.dev) ∧ (x.dev == y.dev) = true ∨ Hid (¬ x.dev = y.dev) ∧ (x.dev == y.dev) = false := by
    by_cases e : x.dev = y.dev
    · exact .inl ⟨Lib.hid e, by simp [e]⟩
    · exact .inr ⟨Lib.hid e, by simp [e]⟩
  rcases hc1 with ⟨HE1, hq1⟩ | ⟨HE1, hq1⟩
  case inr =>
    have HNO := Lib.hid (show ¬ bareE x = bareE y from fun e => HE1.out (HQ.out.1 e).2.1)
    go_wp2_with fail
    go_ret
    exact tells_no HNO.out HB.out
  have hc2 : Hid (x.place = y.place) ∧ (x.place == y.place) = true ∨ Hid (¬ x.place = y.place) ∧ (x.place == y.place) = false := by
    by_cases e : x.place = y.place
    · exact .inl ⟨Lib.hid e, by simp [e]⟩
    · exact .inr ⟨Lib.hid e, by simp [e]⟩
  rcases hc2 with ⟨HE2, hq2⟩ | ⟨HE2, hq2⟩
  case inr =>
    have HNO := Lib.hid (show ¬ bareE x = bareE y from fun e => HE2.out (HQ.out.1 e).2.2.1)
    go_wp2_with fail
    go_ret
    exact tells_no HNO.out HB.out
  have hc3 : Hid (x.safe = y.safe) ∧ (x.safe == y.safe) = true ∨ Hid (¬ x.safe = y.safe) ∧ (x.safe == y.safe) = false := by
    by_cases e : x.safe = y.safe
    · exact .inl ⟨Lib.hid e, by simp [e]⟩
    · exact .inr ⟨Lib.hid e, by simp [e]⟩
  rcases hc3 with ⟨HE3, hq3⟩ | ⟨HE3, hq3⟩
  case inr =>
    have HNO := Lib.hid (show ¬ bareE x = bareE y from fun e => HE3.out (HQ.out.1 e).2.2.2.1)
    go_wp2_with fail
    go_ret
    exact tells_no HNO.out HB.out
  go_wp2_with fail
  refine (sameInts_any _ x.cs y.cs _ _ HXY.out.1 HXY.out.2 (by have := HL.out.1; omega) (by have := HL.out.2; omega)).mono ?_
  rintro e w1 ⟨bb, rfl, hb, hbe⟩
  go_wp2_with fail
  go_ret
  refine ⟨bb, rfl, ?_, HB.out.trans (hbe.mono HB.out.size)⟩
  rw [HQ.out, hb]
  exact ⟨fun h => ⟨HE0.out, HE1.out, HE2.out, HE3.out, h⟩, fun h => h.2.2.2.2⟩
end Go.Proofs.YtckbdnkonccmiaaDoor
