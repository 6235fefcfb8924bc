/-
  Same, walked: two matrices are the same.
-/
import Derived.Test.YtckbdnkonccmiaaDoorMatSameC
namespace Go.Proofs.YtckbdnkonccmiaaDoor
open Go.RowKit
set_option maxHeartbeats 8000000 in
set_option maxRecDepth 100000 in
theorem sameM_on (w : World) (a b : Mat) (vd vp vc ve ud up uc ue : Value) (ha : MatAt w a vd vp vc ve) (hb : MatAt w b ud up uc ue) (hsa : SmallM a 100000) (hsb : SmallM b 100000) (h0 : a.retries = b.retries) (h1 : a.wait = b.wait) (h2 : a.back = b.back) (h3 : a.cycle = b.cycle) (h4 : a.key = b.key) (h5 : a.devs.length = b.devs.length) (h6 : a.pts.length = b.pts.length) (h7 : a.css.length = b.css.length) (h8 : a.efs.length = b.efs.length) :
    Calls Tryd.prog 13 #[a.val vd vp vc ve, b.val ud up uc ue] w (Tells (a.bare = b.bare) w) := by
  obtain ⟨r, wt, bk, cy, key, ds, ps, cs, es⟩ := a
  obtain ⟨r', wt', bk', cy', key', ds', ps', cs', es'⟩ := b
  obtain ⟨A0, a0, e, -, -⟩ := id ha.1
  simp only at e
  subst e
  obtain ⟨A1, a1, e, -, -⟩ := id ha.2.1
  simp only at e
  subst e
  obtain ⟨A2, a2, e, -, -⟩ := id ha.2.2.1.1
  simp only at e
  subst e
  obtain ⟨A3, a3, e, -, -⟩ := id ha.2.2.2.1
  simp only at e
  subst e
  obtain ⟨B0, b0, e, -, -⟩ := id hb.1
  simp only at e
  subst e
  obtain ⟨B1, b1, e, -, -⟩ := id hb.2.1
  simp only at e
  subst e
  obtain ⟨B2, b2, e, -, -⟩ := id hb.2.2.1.1
  simp only at e
  subst e
  obtain ⟨B3, b3, e, -, -⟩ := id hb.2.2.2.1
  simp only at e
  subst e
  unfold Mat.val
  simp only
  have hbw : Below w.heap.size w ((w.alloc (.cells #[.int .i64 r, .int .i64 wt, .int .i64 bk, .int .i64 cy, .string key, .slice A0 ds.length a0, .slice A1 ps.length a1, .slice A2 cs.length a2, .slice A3 es.length a3] 27)).alloc (.cells #[.int .i64 r', .int .i64 wt', .int .i64 bk', .int .i64 cy', .string key', .slice B0 ds'.length b0, .slice B1 ps'.length b1, .slice B2 cs'.length b2, .slice B3 es'.length b3] 27)) := ((Below.refl _ _).alloc (Nat.le_refl _) _).alloc (by simp) _
  have HBW := Lib.hid hbw
  have HAT := Lib.hid (And.intro (ha.below hbw) (hb.below hbw))
  have HKA : Hid (Words.Blk ((w.alloc (.cells #[.int .i64 r, .int .i64 wt, .int .i64 bk, .int .i64 cy, .string key, .slice A0 ds.length a0, .slice A1 ps.length a1, .slice A2 cs.length a2, .slice A3 es.length a3] 27)).alloc (.cells #[.int .i64 r', .int .i64 wt', .int .i64 bk', .int .i64 cy', .string key', .slice B0 ds'.length b0, .slice B1 ps'.length b1, .slice B2 cs'.length b2, .slice B3 es'.length b3] 27)) w.heap.size 27 #[.int .i64 r, .int .i64 wt, .int .i64 bk, .int .i64 cy, .string key, .slice A0 ds.length a0, .slice A1 ps.length a1, .slice A2 cs.length a2, .slice A3 es.length a3]) := Lib.hid ((Words.Blk.new w _ _).alloc _)
  have HKB : Hid (Words.Blk ((w.alloc (.cells #[.int .i64 r, .int .i64 wt, .int .i64 bk, .int .i64 cy, .string key, .slice A0 ds.length a0, .slice A1 ps.length a1, .slice A2 cs.length a2, .slice A3 es.length a3] 27)).alloc (.cells #[.int .i64 r', .int .i64 wt', .int .i64 bk', .int .i64 cy', .string key', .slice B0 ds'.length b0, .slice B1 ps'.length b1, .slice B2 cs'.length b2, .slice B3 es'.length b3] 27)) (w.heap.size + 1) 27 #[.int .i64 r', .int .i64 wt', .int .i64 bk', .int .i64 cy', .string key', .slice B0 ds'.length b0, .slice B1 ps'.length b1, .slice B2 cs'.length b2, .slice B3 es'.length b3]) := Lib.hid (by
    have := Words.Blk.new (w.alloc (.cells #[.int .i64 r, .int .i64 wt, .int .i64 bk, .int .i64 cy, .string key, .slice A0 ds.length a0, .slice A1 ps.length a1, .slice A2 cs.length a2, .slice A3 es.length a3] 27)) 27 #[.int .i64 r', .int .i64 wt', .int .i64 bk', .int .i64 cy', .string key', .slice B0 ds'.length b0, .slice B1 ps'.length b1, .slice B2 cs'.length b2, .slice B3 es'.length b3]
    simpa using this)
  have HSA := Lib.hid hsa
  have HSB := Lib.hid hsb
  have HQ := Lib.hid (bare_eq ⟨r, wt, bk, cy, key, ds, ps, cs, es⟩ ⟨r', wt', bk', cy', key', ds', ps', cs', es'⟩)
  simp only at HQ
  clear ha hb hsa hsb hbw
  simp only at h0 h1 h2 h3 h4 h5 h6 h7 h8
  have HE0 := Lib.hid h0
  have HE1 := Lib.hid h1
  have HE2 := Lib.hid h2
  have HE3 := Lib.hid h3
  have HE4 := Lib.hid h4
  have HE5 := Lib.hid h5
  have HE6 := Lib.hid h6
  have HE7 := Lib.hid h7
  have HE8 := Lib.hid h8
  have hp0 : (r == r') = true := by simpa using h0
  have hq0 : (r != r') = false := by simpa using h0
  have hp1 : (wt == wt') = true := by simpa using h1
  have hq1 : (wt != wt') = false := by simpa using h1
  have hp2 : (bk == bk') = true := by simpa using h2
  have hq2 : (bk != bk') = false := by simpa using h2
  have hp3 : (cy == cy') = true := by simpa using h3
  have hq3 : (cy != cy') = false := by simpa using h3
  have hp4 : (key.toList == key'.toList) = true := (bytes_eq _ _).2 h4
  have hq4 : (key.toList != key'.toList) = false := by rw [bne, hp4]; rfl
  have hp5 : ((ds.length : Int) == (ds'.length : Int)) = true := by rw [beq_iff_eq]; omega
  have hq5 : ((ds.length : Int) != (ds'.length : Int)) = false := by rw [bne, hp5]; rfl
  have hp6 : ((ps.length : Int) == (ps'.length : Int)) = true := by rw [beq_iff_eq]; omega
  have hq6 : ((ps.length : Int) != (ps'.length : Int)) = false := by rw [bne, hp6]; rfl
  have hp7 : ((cs.length : Int) == (cs'.length : Int)) = true := by rw [beq_iff_eq]; omega
  have hq7 : ((cs.length : Int) != (cs'.length : Int)) = false := by rw [bne, hp7]; rfl
  have hp8 : ((es.length : Int) == (es'.length : Int)) = true := by rw [beq_iff_eq]; omega
  have hq8 : ((es.length : Int) != (es'.length : Int)) = false := by rw [bne, hp8]; rfl
  clear h0 h1 h2 h3 h4 h5 h6 h7 h8
  go_enter Tryd.func13, Tryd.ntmps13
  go_wp2_with fail
  clear hp0 hq0 hp1 hq1 hp2 hq2 hp3 hq3 hp4 hq4 hp5 hq5 hp6 hq6 hp7 hq7 hp8 hq8
  obtain ⟨wB, hwB⟩ : ∃ wB, wB = ((w.alloc (.cells #[.int .i64 r, .int .i64 wt, .int .i64 bk, .int .i64 cy, .string key, .slice A0 ds.length a0, .slice A1 ps.length a1, .slice A2 cs.length a2, .slice A3 es.length a3] 27)).alloc (.cells #[.int .i64 r', .int .i64 wt', .int .i64 bk', .int .i64 cy', .string key', .slice B0 ds'.length b0, .slice B1 ps'.length b1, .slice B2 cs'.length b2, .slice B3 es'.length b3] 27)) := ⟨_, rfl⟩
  rw [← hwB] at HBW HAT HKA HKB ⊢
  clear hwB
  have hl0 : ds.length ≤ 100000 := HSA.out.len.1
  have hl1 : ps.length ≤ 100000 := HSA.out.len.2.1
  have hl2 : cs.length ≤ 100000 := HSA.out.len.2.2.1
  have hl3 : es.length ≤ 100000 := HSA.out.len.2.2.2
  go_loopw [5] (fun i wr => ∃ k : Nat, k ≤ ds.length ∧ i = .int .i64 k ∧ Hid (Upto (fun i x => ds'[i]? = some x) ds k) ∧ Hid (Below wB.heap.size wB wr)) (fun i _ => ds.length - (intOf i).toNat)
  case atStart => exact ⟨0, Nat.zero_le _, rfl, Lib.hid (upto_zero _ _), Lib.hid (Below.refl _ _)⟩
  case round =>
    obtain ⟨k, hk, rfl, HU, HW⟩ := hrel
    have m0 : wr.cell? ⟨w.heap.size, 5, none⟩ = some (.slice A0 ds.length a0) := (HKA.out.below HW.out HKA.out.lt).cell 5
    have m1 : wr.cell? ⟨w.heap.size + 1, 5, none⟩ = some (.slice B0 ds'.length b0) := (HKB.out.below HW.out HKB.out.lt).cell 5
    by_cases hlt : k < ds.length
    · obtain ⟨x, hx⟩ : ∃ x, ds[k]? = some x := ⟨_, List.getElem?_eq_getElem hlt⟩
      obtain ⟨y, hy⟩ : ∃ y, ds'[k]? = some y := ⟨_, List.getElem?_eq_getElem (by have := HE5.out; omega)⟩
      obtain ⟨g, off, hA, hb, hcell⟩ := row_at (LawFrame.RowsAt.below HAT.out.1.1 HW.out) hx
      subst hA
      have y0 := hcell 0 _ rfl
      have y1 := hcell 1 _ rfl
      have y2 := hcell 2 _ rfl
      clear hcell hb
      obtain ⟨g2, off2, hA, hb, hcell⟩ := row_at (LawFrame.RowsAt.below HAT.out.2.1 HW.out) hy
      subst hA
      have z0 := hcell 0 _ rfl
      have z1 := hcell 1 _ rfl
      have z2 := hcell 2 _ rfl
      clear hb hcell
      simp only [Nat.add_zero] at y0 z0
      have HX := Lib.hid hx
      have HY := Lib.hid hy
      have hk1 : (k : Int) < (ds.length : Int) := by omega
      have hk2 : (k : Int) < (ds'.length : Int) := by have := HE5.out; omega
      have hk0 : (0 : Int) ≤ (k : Int) := by omega
      clear hx hy
      obtain ⟨x0, x1, x2⟩ := x
      obtain ⟨u0, u1, u2⟩ := y
      simp only at y0 z0 y1 z1 y2 z2
      have hcs : Hid (Dev.mk x0 x1 x2 = Dev.mk u0 u1 u2) ∧ (x0.toList == u0.toList) = true ∧ (x1 == u1) = true ∧ (x2 == u2) = true ∨ Hid (¬ Dev.mk x0 x1 x2 = Dev.mk u0 u1 u2) ∧ ((x0.toList == u0.toList) = false ∨ (x0.toList == u0.toList) = true ∧ ((x1 == u1) = false ∨ (x1 == u1) = true ∧ (x2 == u2) = false)) := by
        by_cases e0 : x0 = u0
        · skip
          by_cases e1 : x1 = u1
          · skip
            by_cases e2 : x2 = u2
            · exact .inl ⟨Lib.hid (by rw [e0, e1, e2]), (bytes_eq _ _).2 e0, by simp [e1], by simp [e2]⟩
            · exact .inr ⟨Lib.hid (fun e => by injection e with i0 i1 i2; exact e2 i2), .inr ⟨(bytes_eq _ _).2 e0, .inr ⟨by simp [e1], by simp [e2]⟩⟩⟩
          · exact .inr ⟨Lib.hid (fun e => by injection e with i0 i1 i2; exact e1 i1), .inr ⟨(bytes_eq _ _).2 e0, .inl (by simp [e1])⟩⟩
        · exact .inr ⟨Lib.hid (fun e => by injection e with i0 i1 i2; exact e0 i0), .inl (bytes_ne e0)⟩
      rcases hcs with ⟨HE, h0, h1, h2⟩ | ⟨HE, hcs⟩
      · go_upto_region 6 with fail
        go_quiet (fail)
        have HW1 := Lib.hid (below_drewn HW.out nq)
        clear y0 z0 y1 z1 y2 z2 m0 m1 HW
        generalize wr.drewN nq = wa at *
        go_wp2_with fail
        go_roundw
        case rel => exact ⟨k + 1, by omega, by go_num, Lib.hid (upto_step HU.out HX.out (by rw [HY.out, HE.out])), HW1⟩
        case measure => simp [intOf]; omega
      · have HNO := Lib.hid (fun e => HE.out (by have h := HX.out; rw [show ds = ds' from (HQ.out.1 e).2.2.2.2.2.1, HY.out] at h; injection h with h; exact h.symm) : ¬ Mat.bare ⟨r, wt, bk, cy, key, ds, ps, cs, es⟩ = Mat.bare ⟨r', wt', bk', cy', key', ds', ps', cs', es'⟩)
        rcases hcs with h0 | ⟨h0, h1 | ⟨h1, h2⟩⟩
        all_goals (
          go_upto_region 6 with fail
          go_quiet (fail)
          have HW1 := Lib.hid (below_drewn HW.out nq)
          clear y0 z0 y1 z1 y2 z2 m0 m1 HW
          generalize wr.drewN nq = wa at *
          go_wp2_with fail
          go_ret
          exact tells_no HNO.out (HBW.out.trans (HW1.out.mono HBW.out.size)))
    · have hkl : k = ds.length := by omega
      have HEQ0 := Lib.hid (eq_of_upto HE5.out (by rw [← hkl]; exact HU.out))
      clear hkl
      have hk2 : ¬ (k : Int) < (ds.length : Int) := by omega
      go_wp2_with fail
      clear HU hk2 hlt hk m0 m1
      go_loopw [6] (fun i wr => ∃ k : Nat, k ≤ ps.length ∧ i = .int .i64 k ∧ Hid (Upto (fun i x => ps'[i]? = some x) ps k) ∧ Hid (Below wB.heap.size wB wr)) (fun i _ => ps.length - (intOf i).toNat)
      case atStart => exact ⟨0, Nat.zero_le _, rfl, Lib.hid (upto_zero _ _), HW⟩
      case round =>
        clear HW
        obtain ⟨k, hk, rfl, HU, HW⟩ := hrel
        have m0 : wr.cell? ⟨w.heap.size, 6, none⟩ = some (.slice A1 ps.length a1) := (HKA.out.below HW.out HKA.out.lt).cell 6
        have m1 : wr.cell? ⟨w.heap.size + 1, 6, none⟩ = some (.slice B1 ps'.length b1) := (HKB.out.below HW.out HKB.out.lt).cell 6
        by_cases hlt : k < ps.length
        · obtain ⟨x, hx⟩ : ∃ x, ps[k]? = some x := ⟨_, List.getElem?_eq_getElem hlt⟩
          obtain ⟨y, hy⟩ : ∃ y, ps'[k]? = some y := ⟨_, List.getElem?_eq_getElem (by have := HE6.out; omega)⟩
          obtain ⟨g, off, hA, hb, hcell⟩ := row_at (LawFrame.RowsAt.below HAT.out.1.2.1 HW.out) hx
          subst hA
          have y0 := hcell 0 _ rfl
          have y1 := hcell 1 _ rfl
          have y2 := hcell 2 _ rfl
          have y3 := hcell 3 _ rfl
          have y4 := hcell 4 _ rfl
          have y5 := hcell 5 _ rfl
          clear hcell hb
          obtain ⟨g2, off2, hA, hb, hcell⟩ := row_at (LawFrame.RowsAt.below HAT.out.2.2.1 HW.out) hy
          subst hA
          have z0 := hcell 0 _ rfl
          have z1 := hcell 1 _ rfl
          have z2 := hcell 2 _ rfl
          have z3 := hcell 3 _ rfl
          have z4 := hcell 4 _ rfl
          have z5 := hcell 5 _ rfl
          clear hb hcell
          simp only [Nat.add_zero] at y0 z0
          have HX := Lib.hid hx
          have HY := Lib.hid hy
          have hk1 : (k : Int) < (ps.length : Int) := by omega
          have hk2 : (k : Int) < (ps'.length : Int) := by have := HE6.out; omega
          have hk0 : (0 : Int) ≤ (k : Int) := by omega
          clear hx hy
          obtain ⟨x0, x1, x2, x3, x4, x5⟩ := x
          obtain ⟨u0, u1, u2, u3, u4, u5⟩ := y
          simp only at y0 z0 y1 z1 y2 z2 y3 z3 y4 z4 y5 z5
          have hcs : Hid (Pt.mk x0 x1 x2 x3 x4 x5 = Pt.mk u0 u1 u2 u3 u4 u5) ∧ (x0.toList == u0.toList) = true ∧ (x1 == u1) = true ∧ (x2 == u2) = true ∧ (x3 == u3) = true ∧ (x4 == u4) = true ∧ (x5 == u5) = true ∨ Hid (¬ Pt.mk x0 x1 x2 x3 x4 x5 = Pt.mk u0 u1 u2 u3 u4 u5) ∧ ((x0.toList == u0.toList) = false ∨ (x0.toList == u0.toList) = true ∧ ((x1 == u1) = false ∨ (x1 == u1) = true ∧ ((x2 == u2) = false ∨ (x2 == u2) = true ∧ ((x3 == u3) = false ∨ (x3 == u3) = true ∧ ((x4 == u4) = false ∨ (x4 == u4) = true ∧ (x5 == u5) = false))))) := by
            by_cases e0 : x0 = u0
            · skip
              by_cases e1 : x1 = u1
              · skip
                by_cases e2 : x2 = u2
                · skip
                  by_cases e3 : x3 = u3
                  · skip
                    by_cases e4 : x4 = u4
                    · skip
                      by_cases e5 : x5 = u5
                      · exact .inl ⟨Lib.hid (by rw [e0, e1, e2, e3, e4, e5]), (bytes_eq _ _).2 e0, by simp [e1], by simp [e2], by simp [e3], by simp [e4], by simp [e5]⟩
                      · exact .inr ⟨Lib.hid (fun e => by injection e with i0 i1 i2 i3 i4 i5; exact e5 i5), .inr ⟨(bytes_eq _ _).2 e0, .inr ⟨by simp [e1], .inr ⟨by simp [e2], .inr ⟨by simp [e3], .inr ⟨by simp [e4], by simp [e5]⟩⟩⟩⟩⟩⟩
                    · exact .inr ⟨Lib.hid (fun e => by injection e with i0 i1 i2 i3 i4 i5; exact e4 i4), .inr ⟨(bytes_eq _ _).2 e0, .inr ⟨by simp [e1], .inr ⟨by simp [e2], .inr ⟨by simp [e3], .inl (by simp [e4])⟩⟩⟩⟩⟩
                  · exact .inr ⟨Lib.hid (fun e => by injection e with i0 i1 i2 i3 i4 i5; exact e3 i3), .inr ⟨(bytes_eq _ _).2 e0, .inr ⟨by simp [e1], .inr ⟨by simp [e2], .inl (by simp [e3])⟩⟩⟩⟩
                · exact .inr ⟨Lib.hid (fun e => by injection e with i0 i1 i2 i3 i4 i5; exact e2 i2), .inr ⟨(bytes_eq _ _).2 e0, .inr ⟨by simp [e1], .inl (by simp [e2])⟩⟩⟩
              · exact .inr ⟨Lib.hid (fun e => by injection e with i0 i1 i2 i3 i4 i5; exact e1 i1), .inr ⟨(bytes_eq _ _).2 e0, .inl (by simp [e1])⟩⟩
            · exact .inr ⟨Lib.hid (fun e => by injection e with i0 i1 i2 i3 i4 i5; exact e0 i0), .inl (bytes_ne e0)⟩
          rcases hcs with ⟨HE, h0, h1, h2, h3, h4, h5⟩ | ⟨HE, hcs⟩
          · go_upto_region 11 with fail
            go_quiet (fail)
            have HW1 := Lib.hid (below_drewn HW.out nq)
            clear y0 z0 y1 z1 y2 z2 y3 z3 y4 z4 y5 z5 m0 m1 HW
            generalize wr.drewN nq = wa at *
            go_wp2_with fail
            go_roundw
            case rel => exact ⟨k + 1, by omega, by go_num, Lib.hid (upto_step HU.out HX.out (by rw [HY.out, HE.out])), HW1⟩
            case measure => simp [intOf]; omega
          · have HNO := Lib.hid (fun e => HE.out (by have h := HX.out; rw [show ps = ps' from (HQ.out.1 e).2.2.2.2.2.2.1, HY.out] at h; injection h with h; exact h.symm) : ¬ Mat.bare ⟨r, wt, bk, cy, key, ds, ps, cs, es⟩ = Mat.bare ⟨r', wt', bk', cy', key', ds', ps', cs', es'⟩)
            rcases hcs with h0 | ⟨h0, h1 | ⟨h1, h2 | ⟨h2, h3 | ⟨h3, h4 | ⟨h4, h5⟩⟩⟩⟩⟩
            all_goals (
              go_upto_region 11 with fail
              go_quiet (fail)
              have HW1 := Lib.hid (below_drewn HW.out nq)
              clear y0 z0 y1 z1 y2 z2 y3 z3 y4 z4 y5 z5 m0 m1 HW
              generalize wr.drewN nq = wa at *
              go_wp2_with fail
              go_ret
              exact tells_no HNO.out (HBW.out.trans (HW1.out.mono HBW.out.size)))
        · have hkl : k = ps.length := by omega
          have HEQ1 := Lib.hid (eq_of_upto HE6.out (by rw [← hkl]; exact HU.out))
          clear hkl
          have hk2 : ¬ (k : Int) < (ps.length : Int) := by omega
          go_wp2_with fail
          clear HU hk2 hlt hk m0 m1
          go_loopw [7] (fun i wr => ∃ k : Nat, k ≤ cs.length ∧ i = .int .i64 k ∧ Hid (Upto (fun i x => ∃ y, cs'[i]? = some y ∧ bareC x = bareC y) cs k) ∧ Hid (Below wB.heap.size wB wr)) (fun i _ => cs.length - (intOf i).toNat)
          case atStart => exact ⟨0, Nat.zero_le _, rfl, Lib.hid (upto_zero _ _), HW⟩
          case round =>
            clear HW
            obtain ⟨k, hk, rfl, HU, HW⟩ := hrel
            have m0 : wr.cell? ⟨w.heap.size, 7, none⟩ = some (.slice A2 cs.length a2) := (HKA.out.below HW.out HKA.out.lt).cell 7
            have m1 : wr.cell? ⟨w.heap.size + 1, 7, none⟩ = some (.slice B2 cs'.length b2) := (HKB.out.below HW.out HKB.out.lt).cell 7
            by_cases hlt : k < cs.length
            · obtain ⟨x, hx⟩ : ∃ x, cs[k]? = some x := ⟨_, List.getElem?_eq_getElem hlt⟩
              obtain ⟨y, hy⟩ : ∃ y, cs'[k]? = some y := ⟨_, List.getElem?_eq_getElem (by have := HE7.out; omega)⟩
              obtain ⟨g, off, hA, hb, hcell⟩ := row_at (LawFrame.RowsAt.below HAT.out.1.2.2.1.1 HW.out) hx
              subst hA
              have y0 := hcell 0 _ rfl
              have y1 := hcell 1 _ rfl
              have y2 := hcell 2 _ rfl
              have y3 := hcell 3 _ rfl
              have y4 := hcell 4 _ rfl
              clear hcell hb
              obtain ⟨g2, off2, hA, hb, hcell⟩ := row_at (LawFrame.RowsAt.below HAT.out.2.2.2.1.1 HW.out) hy
              subst hA
              have z0 := hcell 0 _ rfl
              have z1 := hcell 1 _ rfl
              have z2 := hcell 2 _ rfl
              have z3 := hcell 3 _ rfl
              have z4 := hcell 4 _ rfl
              clear hb hcell
              simp only [Nat.add_zero] at y0 z0
              have HX := Lib.hid hx
              have HY := Lib.hid hy
              have hk1 : (k : Int) < (cs.length : Int) := by omega
              have hk2 : (k : Int) < (cs'.length : Int) := by have := HE7.out; omega
              have hk0 : (0 : Int) ≤ (k : Int) := by omega
              clear hx hy
              have hxn := (HAT.out.1.2.2.1.2 x (List.mem_of_getElem? HX.out)).below HW.out
              have hyn := (HAT.out.2.2.2.1.2 y (List.mem_of_getElem? HY.out)).below HW.out
              obtain ⟨XA, xc, hxv, -, -⟩ := id hxn
              obtain ⟨YA, yc, hyv, -, -⟩ := id hyn
              have HXL := Lib.hid (HSA.out.cs x (List.mem_of_getElem? HX.out)).2
              have HYL := Lib.hid (HSB.out.cs y (List.mem_of_getElem? HY.out)).2
              have hcall := sameCause_any wr.drew x y (hxn.below (below_drewn (Below.refl _ _) 1)) (hyn.below (below_drewn (Below.refl _ _) 1)) HXL.out HYL.out
              rw [hxv, hyv] at hcall
              rw [hxv] at y4
              rw [hyv] at z4
              have HCALL := Lib.hid hcall
              clear hcall hxn hyn hxv hyv
              go_upto_region 16 with fail
              go_still_tail 10, (by kernel_rfl)
              change wpList _ _ _ _ _ wr.drew
              go_wp2_with fail
              refine HCALL.out.mono ?_
              rintro e w1 ⟨bb, rfl, hbb, hbe⟩
              have HW1 := Lib.hid ((below_drewn HW.out 1).trans (hbe.mono HW.out.size))
              have HBB := Lib.hid hbb
              clear y0 z0 y1 z1 y2 z2 y3 z3 y4 z4 m0 m1 hbe hbb HCALL
              cases bb with
              | true =>
                go_wp2_with fail
                go_roundw
                case rel => exact ⟨k + 1, by omega, by go_num, Lib.hid (upto_step HU.out HX.out ⟨y, HY.out, HBB.out.1 (by first | rfl | trivial)⟩), HW1⟩
                case measure => simp [intOf]; omega
              | false =>
                have HNO := Lib.hid (fun e => (by have := HBB.out.2 (map_at (HQ.out.1 e).2.2.2.2.2.2.2.1 HX.out HY.out); first | cases this | simp at this) : ¬ Mat.bare ⟨r, wt, bk, cy, key, ds, ps, cs, es⟩ = Mat.bare ⟨r', wt', bk', cy', key', ds', ps', cs', es'⟩)
                go_wp2_with fail
                go_ret
                exact tells_no HNO.out (HBW.out.trans (HW1.out.mono HBW.out.size))
            · have hkl : k = cs.length := by omega
              have HEQ2 := Lib.hid (map_upto HE7.out (by rw [← hkl]; exact HU.out))
              clear hkl
              have hk2 : ¬ (k : Int) < (cs.length : Int) := by omega
              go_wp2_with fail
              clear HU hk2 hlt hk m0 m1
              go_loopw [8] (fun i wr => ∃ k : Nat, k ≤ es.length ∧ i = .int .i64 k ∧ Hid (Upto (fun i x => ∃ y, es'[i]? = some y ∧ bareE x = bareE y) es k) ∧ Hid (Below wB.heap.size wB wr)) (fun i _ => es.length - (intOf i).toNat)
              case atStart => exact ⟨0, Nat.zero_le _, rfl, Lib.hid (upto_zero _ _), HW⟩
              case round =>
                clear HW
                obtain ⟨k, hk, rfl, HU, HW⟩ := hrel
                have m0 : wr.cell? ⟨w.heap.size, 8, none⟩ = some (.slice A3 es.length a3) := (HKA.out.below HW.out HKA.out.lt).cell 8
                have m1 : wr.cell? ⟨w.heap.size + 1, 8, none⟩ = some (.slice B3 es'.length b3) := (HKB.out.below HW.out HKB.out.lt).cell 8
                by_cases hlt : k < es.length
                · obtain ⟨x, hx⟩ : ∃ x, es[k]? = some x := ⟨_, List.getElem?_eq_getElem hlt⟩
                  obtain ⟨y, hy⟩ : ∃ y, es'[k]? = some y := ⟨_, List.getElem?_eq_getElem (by have := HE8.out; omega)⟩
                  obtain ⟨g, off, hA, hb, hcell⟩ := row_at (LawFrame.RowsAt.below HAT.out.1.2.2.2.1 HW.out) hx
                  subst hA
                  have y0 := hcell 0 _ rfl
                  have y1 := hcell 1 _ rfl
                  have y2 := hcell 2 _ rfl
                  have y3 := hcell 3 _ rfl
                  have y4 := hcell 4 _ rfl
                  clear hcell hb
                  obtain ⟨g2, off2, hA, hb, hcell⟩ := row_at (LawFrame.RowsAt.below HAT.out.2.2.2.2.1 HW.out) hy
                  subst hA
                  have z0 := hcell 0 _ rfl
                  have z1 := hcell 1 _ rfl
                  have z2 := hcell 2 _ rfl
                  have z3 := hcell 3 _ rfl
                  have z4 := hcell 4 _ rfl
                  clear hb hcell
                  simp only [Nat.add_zero] at y0 z0
                  have HX := Lib.hid hx
                  have HY := Lib.hid hy
                  have hk1 : (k : Int) < (es.length : Int) := by omega
                  have hk2 : (k : Int) < (es'.length : Int) := by have := HE8.out; omega
                  have hk0 : (0 : Int) ≤ (k : Int) := by omega
                  clear hx hy
                  have hxn := (HAT.out.1.2.2.2.2 x (List.mem_of_getElem? HX.out)).below HW.out
                  have hyn := (HAT.out.2.2.2.2.2 y (List.mem_of_getElem? HY.out)).below HW.out
                  obtain ⟨XA, xc, hxv, -, -⟩ := id hxn
                  obtain ⟨YA, yc, hyv, -, -⟩ := id hyn
                  have HXL := Lib.hid (HSA.out.es x (List.mem_of_getElem? HX.out)).2
                  have HYL := Lib.hid (HSB.out.es y (List.mem_of_getElem? HY.out)).2
                  have hcall := sameEffect_any wr.drew x y (hxn.below (below_drewn (Below.refl _ _) 1)) (hyn.below (below_drewn (Below.refl _ _) 1)) HXL.out HYL.out
                  rw [hxv, hyv] at hcall
                  rw [hxv] at y4
                  rw [hyv] at z4
                  have HCALL := Lib.hid hcall
                  clear hcall hxn hyn hxv hyv
                  go_upto_region 21 with fail
                  go_still_tail 10, (by kernel_rfl)
                  change wpList _ _ _ _ _ wr.drew
                  go_wp2_with fail
                  refine HCALL.out.mono ?_
                  rintro e w1 ⟨bb, rfl, hbb, hbe⟩
                  have HW1 := Lib.hid ((below_drewn HW.out 1).trans (hbe.mono HW.out.size))
                  have HBB := Lib.hid hbb
                  clear y0 z0 y1 z1 y2 z2 y3 z3 y4 z4 m0 m1 hbe hbb HCALL
                  cases bb with
                  | true =>
                    go_wp2_with fail
                    go_roundw
                    case rel => exact ⟨k + 1, by omega, by go_num, Lib.hid (upto_step HU.out HX.out ⟨y, HY.out, HBB.out.1 (by first | rfl | trivial)⟩), HW1⟩
                    case measure => simp [intOf]; omega
                  | false =>
                    have HNO := Lib.hid (fun e => (by have := HBB.out.2 (map_at (HQ.out.1 e).2.2.2.2.2.2.2.2 HX.out HY.out); first | cases this | simp at this) : ¬ Mat.bare ⟨r, wt, bk, cy, key, ds, ps, cs, es⟩ = Mat.bare ⟨r', wt', bk', cy', key', ds', ps', cs', es'⟩)
                    go_wp2_with fail
                    go_ret
                    exact tells_no HNO.out (HBW.out.trans (HW1.out.mono HBW.out.size))
                · have hkl : k = es.length := by omega
                  have HEQ3 := Lib.hid (map_upto HE8.out (by rw [← hkl]; exact HU.out))
                  clear hkl
                  have hk2 : ¬ (k : Int) < (es.length : Int) := by omega
                  go_wp2_with fail
                  go_ret
                  exact tells_yes (HQ.out.2 ⟨HE0.out, HE1.out, HE2.out, HE3.out, HE4.out, HEQ0.out, HEQ1.out, HEQ2.out, HEQ3.out⟩) (HBW.out.trans (HW.out.mono HBW.out.size))
theorem sameM_any (w : World) (a b : Mat) (vd vp vc ve ud up uc ue : Value) (ha : MatAt w a vd vp vc ve) (hb : MatAt w b ud up uc ue) (hsa : SmallM a 100000) (hsb : SmallM b 100000) :
    Calls Tryd.prog 13 #[a.val vd vp vc ve, b.val ud up uc ue] w (Tells (a.bare = b.bare) w) := by
  by_cases h0 : a.retries = b.retries
  case neg => exact sameM_no0 w a b vd vp vc ve ud up uc ue ha hb hsa hsb h0
  by_cases h1 : a.wait = b.wait
  case neg => exact sameM_no1 w a b vd vp vc ve ud up uc ue ha hb hsa hsb h0 h1
  by_cases h2 : a.back = b.back
  case neg => exact sameM_no2 w a b vd vp vc ve ud up uc ue ha hb hsa hsb h0 h1 h2
  by_cases h3 : a.cycle = b.cycle
  case neg => exact sameM_no3 w a b vd vp vc ve ud up uc ue ha hb hsa hsb h0 h1 h2 h3
  by_cases h4 : a.key = b.key
  case neg => exact sameM_no4 w a b vd vp vc ve ud up uc ue ha hb hsa hsb h0 h1 h2 h3 h4
  by_cases h5 : a.devs.length = b.devs.length
  case neg => exact sameM_no5 w a b vd vp vc ve ud up uc ue ha hb hsa hsb h0 h1 h2 h3 h4 h5
  by_cases h6 : a.pts.length = b.pts.length
  case neg => exact sameM_no6 w a b vd vp vc ve ud up uc ue ha hb hsa hsb h0 h1 h2 h3 h4 h5 h6
  by_cases h7 : a.css.length = b.css.length
  case neg => exact sameM_no7 w a b vd vp vc ve ud up uc ue ha hb hsa hsb h0 h1 h2 h3 h4 h5 h6 h7
  by_cases h8 : a.efs.length = b.efs.length
  case neg => exact sameM_no8 w a b vd vp vc ve ud up uc ue ha hb hsa hsb h0 h1 h2 h3 h4 h5 h6 h7 h8
  exact sameM_on w a b vd vp vc ve ud up uc ue ha hb hsa hsb h0 h1 h2 h3 h4 h5 h6 h7 h8
end Go.Proofs.YtckbdnkonccmiaaDoor
