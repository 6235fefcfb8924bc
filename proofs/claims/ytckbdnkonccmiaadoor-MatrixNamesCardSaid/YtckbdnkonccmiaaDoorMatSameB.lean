/-
  Same, walked: more of the ways that end at once.
-/
import Derived.Test.YtckbdnkonccmiaaDoorMatSameA
namespace Go.Proofs.YtckbdnkonccmiaaDoor
open Go.RowKit
set_option maxHeartbeats 8000000 in
set_option maxRecDepth 100000 in
theorem sameM_no3 (w : World) (a b : Mat) (vd vp vc ve ud up uc ue : Value) (ha : MatAt w a vd vp vc ve) (hb : MatAt w b ud up uc ue) (hsa : SmallM a 100000) (hsb : SmallM b 100000) (h0 : a.retries = b.retries) (h1 : a.wait = b.wait) (h2 : a.back = b.back) (h3 : ¬ a.cycle = b.cycle) :
    Calls Tryd.prog 13 #[a.val vd vp vc ve, b.val ud up uc ue] w (Tells (a.bare = b.bare) w) := by
  obtain ⟨r, wt, bk, cy, key, ds, ps, cs, es⟩ := a
  obtain ⟨r', wt', bk', cy', key', ds', ps', cs', es'⟩ := b
  obtain ⟨A0, a0, e, -, -⟩ := id ha.1
  simp only at e
  subst e
  obtain ⟨A1, a1, e, -, -⟩ := id ha.2.1
  simp only at e
  subst e
  obtain ⟨A2, a2, e, -, -⟩ := id ha.2.2.1.1
  simp only at e
  subst e
  obtain ⟨A3, a3, e, -, -⟩ := id ha.2.2.2.1
  simp only at e
  subst e
  obtain ⟨B0, b0, e, -, -⟩ := id hb.1
  simp only at e
  subst e
  obtain ⟨B1, b1, e, -, -⟩ := id hb.2.1
  simp only at e
  subst e
  obtain ⟨B2, b2, e, -, -⟩ := id hb.2.2.1.1
  simp only at e
  subst e
  obtain ⟨B3, b3, e, -, -⟩ := id hb.2.2.2.1
  simp only at e
  subst e
  unfold Mat.val
  simp only
  have hbw : Below w.heap.size w ((w.alloc (.cells #[.int .i64 r, .int .i64 wt, .int .i64 bk, .int .i64 cy, .string key, .slice A0 ds.length a0, .slice A1 ps.length a1, .slice A2 cs.length a2, .slice A3 es.length a3] 27)).alloc (.cells #[.int .i64 r', .int .i64 wt', .int .i64 bk', .int .i64 cy', .string key', .slice B0 ds'.length b0, .slice B1 ps'.length b1, .slice B2 cs'.length b2, .slice B3 es'.length b3] 27)) := ((Below.refl _ _).alloc (Nat.le_refl _) _).alloc (by simp) _
  have HBW := Lib.hid hbw
  have HAT := Lib.hid (And.intro (ha.below hbw) (hb.below hbw))
  have HKA : Hid (Words.Blk ((w.alloc (.cells #[.int .i64 r, .int .i64 wt, .int .i64 bk, .int .i64 cy, .string key, .slice A0 ds.length a0, .slice A1 ps.length a1, .slice A2 cs.length a2, .slice A3 es.length a3] 27)).alloc (.cells #[.int .i64 r', .int .i64 wt', .int .i64 bk', .int .i64 cy', .string key', .slice B0 ds'.length b0, .slice B1 ps'.length b1, .slice B2 cs'.length b2, .slice B3 es'.length b3] 27)) w.heap.size 27 #[.int .i64 r, .int .i64 wt, .int .i64 bk, .int .i64 cy, .string key, .slice A0 ds.length a0, .slice A1 ps.length a1, .slice A2 cs.length a2, .slice A3 es.length a3]) := Lib.hid ((Words.Blk.new w _ _).alloc _)
  have HKB : Hid (Words.Blk ((w.alloc (.cells #[.int .i64 r, .int .i64 wt, .int .i64 bk, .int .i64 cy, .string key, .slice A0 ds.length a0, .slice A1 ps.length a1, .slice A2 cs.length a2, .slice A3 es.length a3] 27)).alloc (.cells #[.int .i64 r', .int .i64 wt', .int .i64 bk', .int .i64 cy', .string key', .slice B0 ds'.length b0, .slice B1 ps'.length b1, .slice B2 cs'.length b2, .slice B3 es'.length b3] 27)) (w.heap.size + 1) 27 #[.int .i64 r', .int .i64 wt', .int .i64 bk', .int .i64 cy', .string key', .slice B0 ds'.length b0, .slice B1 ps'.length b1, .slice B2 cs'.length b2, .slice B3 es'.length b3]) := Lib.hid (by
    have := Words.Blk.new (w.alloc (.cells #[.int .i64 r, .int .i64 wt, .int .i64 bk, .int .i64 cy, .string key, .slice A0 ds.length a0, .slice A1 ps.length a1, .slice A2 cs.length a2, .slice A3 es.length a3] 27)) 27 #[.int .i64 r', .int .i64 wt', .int .i64 bk', .int .i64 cy', .string key', .slice B0 ds'.length b0, .slice B1 ps'.length b1, .slice B2 cs'.length b2, .slice B3 es'.length b3]
    simpa using this)
  have HSA := Lib.hid hsa
  have HSB := Lib.hid hsb
  have HQ := Lib.hid (bare_eq ⟨r, wt, bk, cy, key, ds, ps, cs, es⟩ ⟨r', wt', bk', cy', key', ds', ps', cs', es'⟩)
  simp only at HQ
  clear ha hb hsa hsb hbw
  simp only at h0 h1 h2 h3
  have hp0 : (r == r') = true := by simpa using h0
  have hq0 : (r != r') = false := by simpa using h0
  have hp1 : (wt == wt') = true := by simpa using h1
  have hq1 : (wt != wt') = false := by simpa using h1
  have hp2 : (bk == bk') = true := by simpa using h2
  have hq2 : (bk != bk') = false := by simpa using h2
  have hp3 : (cy == cy') = false := by simpa using h3
  have hq3 : (cy != cy') = true := by simpa using h3
  have HNO := Lib.hid (fun e => h3 (HQ.out.1 e).2.2.2.1 : ¬ Mat.bare ⟨r, wt, bk, cy, key, ds, ps, cs, es⟩ = Mat.bare ⟨r', wt', bk', cy', key', ds', ps', cs', es'⟩)
  clear h0 h1 h2 h3 HAT HKA HKB HSA HSB HQ
  go_enter Tryd.func13, Tryd.ntmps13
  go_wp2_with fail
  go_ret
  exact tells_no HNO.out HBW.out
set_option maxHeartbeats 8000000 in
set_option maxRecDepth 100000 in
theorem sameM_no4 (w : World) (a b : Mat) (vd vp vc ve ud up uc ue : Value) (ha : MatAt w a vd vp vc ve) (hb : MatAt w b ud up uc ue) (hsa : SmallM a 100000) (hsb : SmallM b 100000) (h0 : a.retries = b.retries) (h1 : a.wait = b.wait) (h2 : a.back = b.back) (h3 : a.cycle = b.cycle) (h4 : ¬ a.key = b.key) :
    Calls Tryd.prog 13 #[a.val vd vp vc ve, b.val ud up uc ue] w (Tells (a.bare = b.bare) w) := by
  obtain ⟨r, wt, bk, cy, key, ds, ps, cs, es⟩ := a
  obtain ⟨r', wt', bk', cy', key', ds', ps', cs', es'⟩ := b
  obtain ⟨A0, a0, e, -, -⟩ := id ha.1
  simp only at e
  subst e
  obtain ⟨A1, a1, e, -, -⟩ := id ha.2.1
  simp only at e
  subst e
  obtain ⟨A2, a2, e, -, -⟩ := id ha.2.2.1.1
  simp only at e
  subst e
  obtain ⟨A3, a3, e, -, -⟩ := id ha.2.2.2.1
  simp only at e
  subst e
  obtain ⟨B0, b0, e, -, -⟩ := id hb.1
  simp only at e
  subst e
  obtain ⟨B1, b1, e, -, -⟩ := id hb.2.1
  simp only at e
  subst e
  obtain ⟨B2, b2, e, -, -⟩ := id hb.2.2.1.1
  simp only at e
  subst e
  obtain ⟨B3, b3, e, -, -⟩ := id hb.2.2.2.1
  simp only at e
  subst e
  unfold Mat.val
  simp only
  have hbw : Below w.heap.size w ((w.alloc (.cells #[.int .i64 r, .int .i64 wt, .int .i64 bk, .int .i64 cy, .string key, .slice A0 ds.length a0, .slice A1 ps.length a1, .slice A2 cs.length a2, .slice A3 es.length a3] 27)).alloc (.cells #[.int .i64 r', .int .i64 wt', .int .i64 bk', .int .i64 cy', .string key', .slice B0 ds'.length b0, .slice B1 ps'.length b1, .slice B2 cs'.length b2, .slice B3 es'.length b3] 27)) := ((Below.refl _ _).alloc (Nat.le_refl _) _).alloc (by simp) _
  have HBW := Lib.hid hbw
  have HAT := Lib.hid (And.intro (ha.below hbw) (hb.below hbw))
  have HKA : Hid (Words.Blk ((w.alloc (.cells #[.int .i64 r, .int .i64 wt, .int .i64 bk, .int .i64 cy, .string key, .slice A0 ds.length a0, .slice A1 ps.length a1, .slice A2 cs.length a2, .slice A3 es.length a3] 27)).alloc (.cells #[.int .i64 r', .int .i64 wt', .int .i64 bk', .int .i64 cy', .string key', .slice B0 ds'.length b0, .slice B1 ps'.length b1, .slice B2 cs'.length b2, .slice B3 es'.length b3] 27)) w.heap.size 27 #[.int .i64 r, .int .i64 wt, .int .i64 bk, .int .i64 cy, .string key, .slice A0 ds.length a0, .slice A1 ps.length a1, .slice A2 cs.length a2, .slice A3 es.length a3]) := Lib.hid ((Words.Blk.new w _ _).alloc _)
  have HKB : Hid (Words.Blk ((w.alloc (.cells #[.int .i64 r, .int .i64 wt, .int .i64 bk, .int .i64 cy, .string key, .slice A0 ds.length a0, .slice A1 ps.length a1, .slice A2 cs.length a2, .slice A3 es.length a3] 27)).alloc (.cells #[.int .i64 r', .int .i64 wt', .int .i64 bk', .int .i64 cy', .string key', .slice B0 ds'.length b0, .slice B1 ps'.length b1, .slice B2 cs'.length b2, .slice B3 es'.length b3] 27)) (w.heap.size + 1) 27 #[.int .i64 r', .int .i64 wt', .int .i64 bk', .int .i64 cy', .string key', .slice B0 ds'.length b0, .slice B1 ps'.length b1, .slice B2 cs'.length b2, .slice B3 es'.length b3]) := Lib.hid (by
    have := Words.Blk.new (w.alloc (.cells #[.int .i64 r, .int .i64 wt, .int .i64 bk, .int .i64 cy, .string key, .slice A0 ds.length a0, .slice A1 ps.length a1, .slice A2 cs.length a2, .slice A3 es.length a3] 27)) 27 #[.int .i64 r', .int .i64 wt', .int .i64 bk', .int .i64 cy', .string key', .slice B0 ds'.length b0, .slice B1 ps'.length b1, .slice B2 cs'.length b2, .slice B3 es'.length b3]
    simpa using this)
  have HSA := Lib.hid hsa
  have HSB := Lib.hid hsb
  have HQ := Lib.hid (bare_eq ⟨r, wt, bk, cy, key, ds, ps, cs, es⟩ ⟨r', wt', bk', cy', key', ds', ps', cs', es'⟩)
  simp only at HQ
  clear ha hb hsa hsb hbw
  simp only at h0 h1 h2 h3 h4
  have hp0 : (r == r') = true := by simpa using h0
  have hq0 : (r != r') = false := by simpa using h0
  have hp1 : (wt == wt') = true := by simpa using h1
  have hq1 : (wt != wt') = false := by simpa using h1
  have hp2 : (bk == bk') = true := by simpa using h2
  have hq2 : (bk != bk') = false := by simpa using h2
  have hp3 : (cy == cy') = true := by simpa using h3
  have hq3 : (cy != cy') = false := by simpa using h3
  have hp4 : (key.toList == key'.toList) = false := bytes_ne h4
  have hq4 : (key.toList != key'.toList) = true := by rw [bne, hp4]; rfl
  have HNO := Lib.hid (fun e => h4 (HQ.out.1 e).2.2.2.2.1 : ¬ Mat.bare ⟨r, wt, bk, cy, key, ds, ps, cs, es⟩ = Mat.bare ⟨r', wt', bk', cy', key', ds', ps', cs', es'⟩)
  clear h0 h1 h2 h3 h4 HAT HKA HKB HSA HSB HQ
  go_enter Tryd.func13, Tryd.ntmps13
  go_wp2_with fail
  go_ret
  exact tells_no HNO.out HBW.out
set_option maxHeartbeats 8000000 in
set_option maxRecDepth 100000 in
theorem sameM_no5 (w : World) (a b : Mat) (vd vp vc ve ud up uc ue : Value) (ha : MatAt w a vd vp vc ve) (hb : MatAt w b ud up uc ue) (hsa : SmallM a 100000) (hsb : SmallM b 100000) (h0 : a.retries = b.retries) (h1 : a.wait = b.wait) (h2 : a.back = b.back) (h3 : a.cycle = b.cycle) (h4 : a.key = b.key) (h5 : ¬ a.devs.length = b.devs.length) :
    Calls Tryd.prog 13 #[a.val vd vp vc ve, b.val ud up uc ue] w (Tells (a.bare = b.bare) w) := by
  obtain ⟨r, wt, bk, cy, key, ds, ps, cs, es⟩ := a
  obtain ⟨r', wt', bk', cy', key', ds', ps', cs', es'⟩ := b
  obtain ⟨A0, a0, e, -, -⟩ := id ha.1
  simp only at e
  subst e
  obtain ⟨A1, a1, e, -, -⟩ := id ha.2.1
  simp only at e
  subst e
  obtain ⟨A2, a2, e, -, -⟩ := id ha.2.2.1.1
  simp only at e
  subst e
  obtain ⟨A3, a3, e, -, -⟩ := id ha.2.2.2.1
  simp only at e
  subst e
  obtain ⟨B0, b0, e, -, -⟩ := id hb.1
  simp only at e
  subst e
  obtain ⟨B1, b1, e, -, -⟩ := id hb.2.1
  simp only at e
  subst e
  obtain ⟨B2, b2, e, -, -⟩ := id hb.2.2.1.1
  simp only at e
  subst e
  obtain ⟨B3, b3, e, -, -⟩ := id hb.2.2.2.1
  simp only at e
  subst e
  unfold Mat.val
  simp only
  have hbw : Below w.heap.size w ((w.alloc (.cells #[.int .i64 r, .int .i64 wt, .int .i64 bk, .int .i64 cy, .string key, .slice A0 ds.length a0, .slice A1 ps.length a1, .slice A2 cs.length a2, .slice A3 es.length a3] 27)).alloc (.cells #[.int .i64 r', .int .i64 wt', .int .i64 bk', .int .i64 cy', .string key', .slice B0 ds'.length b0, .slice B1 ps'.length b1, .slice B2 cs'.length b2, .slice B3 es'.length b3] 27)) := ((Below.refl _ _).alloc (Nat.le_refl _) _).alloc (by simp) _
  have HBW := Lib.hid hbw
  have HAT := Lib.hid (And.intro (ha.below hbw) (hb.below hbw))
  have HKA : Hid (Words.Blk ((w.alloc (.cells #[.int .i64 r, .int .i64 wt, .int .i64 bk, .int .i64 cy, .string key, .slice A0 ds.length a0, .slice A1 ps.length a1, .slice A2 cs.length a2, .slice A3 es.length a3] 27)).alloc (.cells #[.int .i64 r', .int .i64 wt', .int .i64 bk', .int .i64 cy', .string key', .slice B0 ds'.length b0, .slice B1 ps'.length b1, .slice B2 cs'.length b2, .slice B3 es'.length b3] 27)) w.heap.size 27 #[.int .i64 r, .int .i64 wt, .int .i64 bk, .int .i64 cy, .string key, .slice A0 ds.length a0, .slice A1 ps.length a1, .slice A2 cs.length a2, .slice A3 es.length a3]) := Lib.hid ((Words.Blk.new w _ _).alloc _)
  have HKB : Hid (Words.Blk ((w.alloc (.cells #[.int .i64 r, .int .i64 wt, .int .i64 bk, .int .i64 cy, .string key, .slice A0 ds.length a0, .slice A1 ps.length a1, .slice A2 cs.length a2, .slice A3 es.length a3] 27)).alloc (.cells #[.int .i64 r', .int .i64 wt', .int .i64 bk', .int .i64 cy', .string key', .slice B0 ds'.length b0, .slice B1 ps'.length b1, .slice B2 cs'.length b2, .slice B3 es'.length b3] 27)) (w.heap.size + 1) 27 #[.int .i64 r', .int .i64 wt', .int .i64 bk', .int .i64 cy', .string key', .slice B0 ds'.length b0, .slice B1 ps'.length b1, .slice B2 cs'.length b2, .slice B3 es'.length b3]) := Lib.hid (by
    have := Words.Blk.new (w.alloc (.cells #[.int .i64 r, .int .i64 wt, .int .i64 bk, .int .i64 cy, .string key, .slice A0 ds.length a0, .slice A1 ps.length a1, .slice A2 cs.length a2, .slice A3 es.length a3] 27)) 27 #[.int .i64 r', .int .i64 wt', .int .i64 bk', .int .i64 cy', .string key', .slice B0 ds'.length b0, .slice B1 ps'.length b1, .slice B2 cs'.length b2, .slice B3 es'.length b3]
    simpa using this)
  have HSA := Lib.hid hsa
  have HSB := Lib.hid hsb
  have HQ := Lib.hid (bare_eq ⟨r, wt, bk, cy, key, ds, ps, cs, es⟩ ⟨r', wt', bk', cy', key', ds', ps', cs', es'⟩)
  simp only at HQ
  clear ha hb hsa hsb hbw
  simp only at h0 h1 h2 h3 h4 h5
  have hp0 : (r == r') = true := by simpa using h0
  have hq0 : (r != r') = false := by simpa using h0
  have hp1 : (wt == wt') = true := by simpa using h1
  have hq1 : (wt != wt') = false := by simpa using h1
  have hp2 : (bk == bk') = true := by simpa using h2
  have hq2 : (bk != bk') = false := by simpa using h2
  have hp3 : (cy == cy') = true := by simpa using h3
  have hq3 : (cy != cy') = false := by simpa using h3
  have hp4 : (key.toList == key'.toList) = true := (bytes_eq _ _).2 h4
  have hq4 : (key.toList != key'.toList) = false := by rw [bne, hp4]; rfl
  have hp5 : ((ds.length : Int) == (ds'.length : Int)) = false := by rw [beq_eq_false_iff_ne]; omega
  have hq5 : ((ds.length : Int) != (ds'.length : Int)) = true := by rw [bne, hp5]; rfl
  have HNO := Lib.hid (fun e => h5 (by have := congrArg List.length (HQ.out.1 e).2.2.2.2.2.1; simpa using this) : ¬ Mat.bare ⟨r, wt, bk, cy, key, ds, ps, cs, es⟩ = Mat.bare ⟨r', wt', bk', cy', key', ds', ps', cs', es'⟩)
  clear h0 h1 h2 h3 h4 h5 HAT HKA HKB HSA HSB HQ
  go_enter Tryd.func13, Tryd.ntmps13
  go_wp2_with fail
  go_ret
  exact tells_no HNO.out HBW.out
end Go.Proofs.YtckbdnkonccmiaaDoor
