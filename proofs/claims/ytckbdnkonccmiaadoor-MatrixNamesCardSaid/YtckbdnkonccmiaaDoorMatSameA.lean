/-
  Same, walked: the ways that end at once.
-/
import Derived.Test.YtckbdnkonccmiaaDoorMatSame
import Derived.Test.YtckbdnkonccmiaaDoorMatPlan
namespace Go.Proofs.YtckbdnkonccmiaaDoor
open Go.RowKit
theorem bare_eq (a b : Mat) : a.bare = b.bare ↔ a.retries = b.retries ∧ a.wait = b.wait ∧ a.back = b.back ∧ a.cycle = b.cycle ∧ a.key = b.key ∧ a.devs = b.devs ∧ a.pts = b.pts ∧ a.css.map bareC = b.css.map bareC ∧ a.efs.map bareE = b.efs.map bareE := by
  obtain ⟨a1, a2, a3, a4, a5, a6, a7, a8, a9⟩ := a
  obtain ⟨b1, b2, b3, b4, b5, b6, b7, b8, b9⟩ := b
  unfold Mat.bare
  simp
theorem map_upto {α β : Type} {f : α → β} {a b : List α} (hl : a.length = b.length) (h : Upto (fun i x => ∃ y, b[i]? = some y ∧ f x = f y) a a.length) : a.map f = b.map f := by
  refine eq_of_upto (by simp [hl]) (fun i x hi hx => ?_)
  rw [List.getElem?_map, Option.map_eq_some_iff] at hx
  obtain ⟨u, hu, rfl⟩ := hx
  obtain ⟨y, hy, he⟩ := h i u (by simpa using hi) hu
  rw [List.getElem?_map, hy, Option.map_some, he]
theorem map_at {α β : Type} {f : α → β} {a b : List α} (h : a.map f = b.map f) {k : Nat} {x y : α} (hx : a[k]? = some x) (hy : b[k]? = some y) : f x = f y := by
  have e := congrArg (·[k]?) h
  simp only [List.getElem?_map, hx, hy, Option.map_some, Option.some.injEq] at e
  exact e
set_option maxHeartbeats 8000000 in
set_option maxRecDepth 100000 in
theorem sameM_no0 (w : World) (a b : Mat) (vd vp vc ve ud up uc ue : Value) (ha : MatAt w a vd vp vc ve) (hb : MatAt w b ud up uc ue) (hsa : SmallM a 100000) (hsb : SmallM b 100000) (h0 : ¬ a.retries = b.retries) :
    Calls Tryd.prog 13 #[a.val vd vp vc ve, b.val ud up uc ue] w (Tells (a.bare = b.bare) w) := by
  obtain ⟨r, wt, bk, cy, key, ds, ps, cs, es⟩ := a
  obtain ⟨r', wt', bk', cy', key', ds', ps', cs', es'⟩ := b
  obtain ⟨A0, a0, e, -, -⟩ := id ha.1
  simp only at e
  subst e
  obtain ⟨A1, a1, e, -, -⟩ := id ha.2.1
  simp only at e
  subst e
  obtain ⟨A2, a2, e, -, -⟩ := id ha.2.2.1.1
  simp only at e
  subst e
  obtain ⟨A3, a3, e, -, -⟩ := id ha.2.2.2.1
  simp only at e
  subst e
  obtain ⟨B0, b0, e, -, -⟩ := id hb.1
  simp only at e
  subst e
  obtain ⟨B1, b1, e, -, -⟩ := id hb.2.1
  simp only at e
  subst e
  obtain ⟨B2, b2, e, -, -⟩ := id hb.2.2.1.1
  simp only at e
  subst e
  obtain ⟨B3, b3, e, -, -⟩ := id hb.2.2.2.1
  simp only at e
  subst e
  unfold Mat.val
  simp only
  have hbw : Below w.heap.size w ((w.alloc (.cells #[.int .i64 r, .int .i64 wt, .int .i64 bk, .int .i64 cy, .string key, .slice A0 ds.length a0, .slice A1 ps.length a1, .slice A2 cs.length a2, .slice A3 es.length a3] 27)).alloc (.cells #[.int .i64 r', .int .i64 wt', .int .i64 bk', .int .i64 cy', .string key', .slice B0 ds'.length b0, .slice B1 ps'.length b1, .slice B2 cs'.length b2, .slice B3 es'.length b3] 27)) := ((Below.refl _ _).alloc (Nat.le_refl _) _).alloc (by simp) _
  have HBW := Lib.hid hbw
  have HAT := Lib.hid (And.intro (ha.below hbw) (hb.below hbw))
  have HKA : Hid (Words.Blk ((w.alloc (.cells #[.int .i64 r, .int .i64 wt, .int .i64 bk, .int .i64 cy, .string key, .slice A0 ds.length a0, .slice A1 ps.length a1, .slice A2 cs.length a2, .slice A3 es.length a3] 27)).alloc (.cells #[.int .i64 r', .int .i64 wt', .int .i64 bk', .int .i64 cy', .string key', .slice B0 ds'.length b0, .slice B1 ps'.length b1, .slice B2 cs'.length b2, .slice B3 es'.length b3] 27)) w.heap.size 27 #[.int .i64 r, .int .i64 wt, .int .i64 bk, .int .i64 cy, .string key, .slice A0 ds.length a0, .slice A1 ps.length a1, .slice A2 cs.length a2, .slice A3 es.length a3]) := Lib.hid ((Words.Blk.new w _ _).alloc _)
  have HKB : Hid (Words.Blk ((w.alloc (.cells #[.int .i64 r, .int .i64 wt, .int .i64 bk, .int .i64 cy, .string key, .slice A0 ds.length a0, .slice A1 ps.length a1, .slice A2 cs.length a2, .slice A3 es.length a3] 27)).alloc (.cells #[.int .i64 r', .int .i64 wt', .int .i64 bk', .int .i64 cy', .string key', .slice B0 ds'.length b0, .slice B1 ps'.length b1, .slice B2 cs'.length b2, .slice B3 es'.length b3] 27)) (w.heap.size + 1) 27 #[.int .i64 r', .int .i64 wt', .int .i64 bk', .int .i64 cy', .string key', .slice B0 ds'.length b0, .slice B1 ps'.length b1, .slice B2 cs'.length b2, .slice B3 es'.length b3]) := Lib.hid (by
    have := Words.Blk.new (w.alloc (.cells #[.int .i64 r, .int .i64 wt, .int .i64 bk, .int .i64 cy, .string key, .slice A0 ds.length a0, .slice A1 ps.length a1, .slice A2 cs.length a2, .slice A3 es.length a3] 27)) 27 #[.int .i64 r', .int .i64 wt', .int .i64 bk', .int .i64 cy', .string key', .slice B0 ds'.length b0, .slice B1 ps'.length b1, .slice B2 cs'.length b2, .slice B3 es'.length b3]
    simpa using this)
  have HSA := Lib.hid hsa
  have HSB := Lib.hid hsb
  have HQ := Lib.hid (bare_eq ⟨r, wt, bk, cy, key, ds, ps, cs, es⟩ ⟨r', wt', bk', cy', key', ds', ps', cs', es'⟩)
  simp only at HQ
  clear ha hb hsa hsb hbw
  simp only at h0
  have hp0 : (r == r') = false := by simpa using h0
  have hq0 : (r != r') = true := by simpa using h0
  have HNO := Lib.hid (fun e => h0 (HQ.out.1 e).1 : ¬ Mat.bare ⟨r, wt, bk, cy, key, ds, ps, cs, es⟩ = Mat.bare ⟨r', wt', bk', cy', key', ds', ps', cs', es'⟩)
  clear h0 HAT HKA HKB HSA HSB HQ
  go_enter Tryd.func13, Tryd.ntmps13
  go_wp2_with fail
  go_ret
  exact tells_no HNO.out HBW.out
set_option maxHeartbeats 8000000 in
set_option maxRecDepth 100000 in
theorem sameM_no1 (w : World) (a b : Mat) (vd vp vc ve ud up uc ue : Value) (ha : MatAt w a vd vp vc ve) (hb : MatAt w b ud up uc ue) (hsa : SmallM a 100000) (hsb : SmallM b 100000) (h0 : a.retries = b.retries) (h1 : ¬ a.wait = b.wait) :
    Calls Tryd.prog 13 #[a.val vd vp vc ve, b.val ud up uc ue] w (Tells (a.bare = b.bare) w) := by
  obtain ⟨r, wt, bk, cy, key, ds, ps, cs, es⟩ := a
  obtain ⟨r', wt', bk', cy', key', ds', ps', cs', es'⟩ := b
  obtain ⟨A0, a0, e, -, -⟩ := id ha.1
  simp only at e
  subst e
  obtain ⟨A1, a1, e, -, -⟩ := id ha.2.1
  simp only at e
  subst e
  obtain ⟨A2, a2, e, -, -⟩ := id ha.2.2.1.1
  simp only at e
  subst e
  obtain ⟨A3, a3, e, -, -⟩ := id ha.2.2.2.1
  simp only at e
  subst e
  obtain ⟨B0, b0, e, -, -⟩ := id hb.1
  simp only at e
  subst e
  obtain ⟨B1, b1, e, -, -⟩ := id hb.2.1
  simp only at e
  subst e
  obtain ⟨B2, b2, e, -, -⟩ := id hb.2.2.1.1
  simp only at e
  subst e
  obtain ⟨B3, b3, e, -, -⟩ := id hb.2.2.2.1
  simp only at e
  subst e
  unfold Mat.val
  simp only
  have hbw : Below w.heap.size w ((w.alloc (.cells #[.int .i64 r, .int .i64 wt, .int .i64 bk, .int .i64 cy, .string key, .slice A0 ds.length a0, .slice A1 ps.length a1, .slice A2 cs.length a2, .slice A3 es.length a3] 27)).alloc (.cells #[.int .i64 r', .int .i64 wt', .int .i64 bk', .int .i64 cy', .string key', .slice B0 ds'.length b0, .slice B1 ps'.length b1, .slice B2 cs'.length b2, .slice B3 es'.length b3] 27)) := ((Below.refl _ _).alloc (Nat.le_refl _) _).alloc (by simp) _
  have HBW := Lib.hid hbw
  have HAT := Lib.hid (And.intro (ha.below hbw) (hb.below hbw))
  have HKA : Hid (Words.Blk ((w.alloc (.cells #[.int .i64 r, .int .i64 wt, .int .i64 bk, .int .i64 cy, .string key, .slice A0 ds.length a0, .slice A1 ps.length a1, .slice A2 cs.length a2, .slice A3 es.length a3] 27)).alloc (.cells #[.int .i64 r', .int .i64 wt', .int .i64 bk', .int .i64 cy', .string key', .slice B0 ds'.length b0, .slice B1 ps'.length b1, .slice B2 cs'.length b2, .slice B3 es'.length b3] 27)) w.heap.size 27 #[.int .i64 r, .int .i64 wt, .int .i64 bk, .int .i64 cy, .string key, .slice A0 ds.length a0, .slice A1 ps.length a1, .slice A2 cs.length a2, .slice A3 es.length a3]) := Lib.hid ((Words.Blk.new w _ _).alloc _)
  have HKB : Hid (Words.Blk ((w.alloc (.cells #[.int .i64 r, .int .i64 wt, .int .i64 bk, .int .i64 cy, .string key, .slice A0 ds.length a0, .slice A1 ps.length a1, .slice A2 cs.length a2, .slice A3 es.length a3] 27)).alloc (.cells #[.int .i64 r', .int .i64 wt', .int .i64 bk', .int .i64 cy', .string key', .slice B0 ds'.length b0, .slice B1 ps'.length b1, .slice B2 cs'.length b2, .slice B3 es'.length b3] 27)) (w.heap.size + 1) 27 #[.int .i64 r', .int .i64 wt', .int .i64 bk', .int .i64 cy', .string key', .slice B0 ds'.length b0, .slice B1 ps'.length b1, .slice B2 cs'.length b2, .slice B3 es'.length b3]) := Lib.hid (by
    have := Words.Blk.new (w.alloc (.cells #[.int .i64 r, .int .i64 wt, .int .i64 bk, .int .i64 cy, .string key, .slice A0 ds.length a0, .slice A1 ps.length a1, .slice A2 cs.length a2, .slice A3 es.length a3] 27)) 27 #[.int .i64 r', .int .i64 wt', .int .i64 bk', .int .i64 cy', .string key', .slice B0 ds'.length b0, .slice B1 ps'.length b1, .slice B2 cs'.length b2, .slice B3 es'.length b3]
    simpa using this)
  have HSA := Lib.hid hsa
  have HSB := Lib.hid hsb
  have HQ := Lib.hid (bare_eq ⟨r, wt, bk, cy, key, ds, ps, cs, es⟩ ⟨r', wt', bk', cy', key', ds', ps', cs', es'⟩)
  simp only at HQ
  clear ha hb hsa hsb hbw
  simp only at h0 h1
  have hp0 : (r == r') = true := by simpa using h0
  have hq0 : (r != r') = false := by simpa using h0
  have hp1 : (wt == wt') = false := by simpa using h1
  have hq1 : (wt != wt') = true := by simpa using h1
  have HNO := Lib.hid (fun e => h1 (HQ.out.1 e).2.1 : ¬ Mat.bare ⟨r, wt, bk, cy, key, ds, ps, cs, es⟩ = Mat.bare ⟨r', wt', bk', cy', key', ds', ps', cs', es'⟩)
  clear h0 h1 HAT HKA HKB HSA HSB HQ
  go_enter Tryd.func13, Tryd.ntmps13
  go_wp2_with fail
  go_ret
  exact tells_no HNO.out HBW.out
set_option maxHeartbeats 8000000 in
set_option maxRecDepth 100000 in
theorem sameM_no2 (w : World) (a b : Mat) (vd vp vc ve ud up uc ue : Value) (ha : MatAt w a vd vp vc ve) (hb : MatAt w b ud up uc ue) (hsa : SmallM a 100000) (hsb : SmallM b 100000) (h0 : a.retries = b.retries) (h1 : a.wait = b.wait) (h2 : ¬ a.back = b.back) :
    Calls Tryd.prog 13 #[a.val vd vp vc ve, b.val ud up uc ue] w (Tells (a.bare = b.bare) w) := by
  obtain ⟨r, wt, bk, cy, key, ds, ps, cs, es⟩ := a
  obtain ⟨r', wt', bk', cy', key', ds', ps', cs', es'⟩ := b
  obtain ⟨A0, a0, e, -, -⟩ := id ha.1
  simp only at e
  subst e
  obtain ⟨A1, a1, e, -, -⟩ := id ha.2.1
  simp only at e
  subst e
  obtain ⟨A2, a2, e, -, -⟩ := id ha.2.2.1.1
  simp only at e
  subst e
  obtain ⟨A3, a3, e, -, -⟩ := id ha.2.2.2.1
  simp only at e
  subst e
  obtain ⟨B0, b0, e, -, -⟩ := id hb.1
  simp only at e
  subst e
  obtain ⟨B1, b1, e, -, -⟩ := id hb.2.1
  simp only at e
  subst e
  obtain ⟨B2, b2, e, -, -⟩ := id hb.2.2.1.1
  simp only at e
  subst e
  obtain ⟨B3, b3, e, -, -⟩ := id hb.2.2.2.1
  simp only at e
  subst e
  unfold Mat.val
  simp only
  have hbw : Below w.heap.size w ((w.alloc (.cells #[.int .i64 r, .int .i64 wt, .int .i64 bk, .int .i64 cy, .string key, .slice A0 ds.length a0, .slice A1 ps.length a1, .slice A2 cs.length a2, .slice A3 es.length a3] 27)).alloc (.cells #[.int .i64 r', .int .i64 wt', .int .i64 bk', .int .i64 cy', .string key', .slice B0 ds'.length b0, .slice B1 ps'.length b1, .slice B2 cs'.length b2, .slice B3 es'.length b3] 27)) := ((Below.refl _ _).alloc (Nat.le_refl _) _).alloc (by simp) _
  have HBW := Lib.hid hbw
  have HAT := Lib.hid (And.intro (ha.below hbw) (hb.below hbw))
  have HKA : Hid (Words.Blk ((w.alloc (.cells #[.int .i64 r, .int .i64 wt, .int .i64 bk, .int .i64 cy, .string key, .slice A0 ds.length a0, .slice A1 ps.length a1, .slice A2 cs.length a2, .slice A3 es.length a3] 27)).alloc (.cells #[.int .i64 r', .int .i64 wt', .int .i64 bk', .int .i64 cy', .string key', .slice B0 ds'.length b0, .slice B1 ps'.length b1, .slice B2 cs'.length b2, .slice B3 es'.length b3] 27)) w.heap.size 27 #[.int .i64 r, .int .i64 wt, .int .i64 bk, .int .i64 cy, .string key, .slice A0 ds.length a0, .slice A1 ps.length a1, .slice A2 cs.length a2, .slice A3 es.length a3]) := Lib.hid ((Words.Blk.new w _ _).alloc _)
  have HKB : Hid (Words.Blk ((w.alloc (.cells #[.int .i64 r, .int .i64 wt, .int .i64 bk, .int .i64 cy, .string key, .slice A0 ds.length a0, .slice A1 ps.length a1, .slice A2 cs.length a2, .slice A3 es.length a3] 27)).alloc (.cells #[.int .i64 r', .int .i64 wt', .int .i64 bk', .int .i64 cy', .string key', .slice B0 ds'.length b0, .slice B1 ps'.length b1, .slice B2 cs'.length b2, .slice B3 es'.length b3] 27)) (w.heap.size + 1) 27 #[.int .i64 r', .int .i64 wt', .int .i64 bk', .int .i64 cy', .string key', .slice B0 ds'.length b0, .slice B1 ps'.length b1, .slice B2 cs'.length b2, .slice B3 es'.length b3]) := Lib.hid (by
    have := Words.Blk.new (w.alloc (.cells #[.int .i64 r, .int .i64 wt, .int .i64 bk, .int .i64 cy, .string key, .slice A0 ds.length a0, .slice A1 ps.length a1, .slice A2 cs.length a2, .slice A3 es.length a3] 27)) 27 #[.int .i64 r', .int .i64 wt', .int .i64 bk', .int .i64 cy', .string key', .slice B0 ds'.length b0, .slice B1 ps'.length b1, .slice B2 cs'.length b2, .slice B3 es'.length b3]
    simpa using this)
  have HSA := Lib.hid hsa
  have HSB := Lib.hid hsb
  have HQ := Lib.hid (bare_eq ⟨r, wt, bk, cy, key, ds, ps, cs, es⟩ ⟨r', wt', bk', cy', key', ds', ps', cs', es'⟩)
  simp only at HQ
  clear ha hb hsa hsb hbw
  simp only at h0 h1 h2
  have hp0 : (r == r') = true := by simpa using h0
  have hq0 : (r != r') = false := by simpa using h0
  have hp1 : (wt == wt') = true := by simpa using h1
  have hq1 : (wt != wt') = false := by simpa using h1
  have hp2 : (bk == bk') = false := by simpa using h2
  have hq2 : (bk != bk') = true := by simpa using h2
  have HNO := Lib.hid (fun e => h2 (HQ.out.1 e).2.2.1 : ¬ Mat.bare ⟨r, wt, bk, cy, key, ds, ps, cs, es⟩ = Mat.bare ⟨r', wt', bk', cy', key', ds', ps', cs', es'⟩)
  clear h0 h1 h2 HAT HKA HKB HSA HSB HQ
  go_enter Tryd.func13, Tryd.ntmps13
  go_wp2_with fail
  go_ret
  exact tells_no HNO.out HBW.out
end Go.Proofs.YtckbdnkonccmiaaDoor
