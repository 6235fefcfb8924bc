/-
  The document's parser: many and line, walked where nothing is wrong.
-/
import Derived.Test.YtbpenoelmangkaaParThing2
namespace Go.Proofs.Ytbpenoelmangkaa
open Go.RowKit
theorem PS.store {W : World} {g : Nat} {m m' : Mat} {bw bk bw' bk' : Bool} {vd vp vc ve : Value} {w : World} (h : PS W g m bw bk vd vp vc ve w) (i : Nat) (u : Value) (hd : m'.devs = m.devs) (hp : m'.pts = m.pts) (hc : m'.css = m.css) (he : m'.efs = m.efs) (hs : (prsCells m bw bk vd vp vc ve).setIfInBounds i u = prsCells m' bw' bk' vd vp vc ve) : PS W g m' bw' bk' vd vp vc ve (w.setCell ⟨g, i, none⟩ u) :=
  ⟨h.1.store i u hd hp hc he hs, h.2.setCell h.1.low _⟩
set_option maxHeartbeats 4000000 in
set_option maxRecDepth 100000 in
theorem many_watch (w : World) (s : ByteArray) (e0 : (s.toList == [119, 97, 116, 99, 104]) = true) :
    Calls Try.prog 54 #[.string s, .int .i64 5] w fun e w' => e = .returned (.bool true) ∧ w = w' := by
  go_enter Try.func54, Try.ntmps54
  go_wp2_with fail
  go_ret
  exact ⟨rfl, rfl⟩
set_option maxHeartbeats 4000000 in
set_option maxRecDepth 100000 in
theorem many_key (w : World) (s : ByteArray) (e0 : (s.toList == [119, 97, 116, 99, 104]) = false) (e1 : (s.toList == [107, 101, 121]) = true) :
    Calls Try.prog 54 #[.string s, .int .i64 2] w fun e w' => e = .returned (.bool true) ∧ w = w' := by
  go_enter Try.func54, Try.ntmps54
  go_wp2_with fail
  go_ret
  exact ⟨rfl, rfl⟩
set_option maxHeartbeats 4000000 in
set_option maxRecDepth 100000 in
theorem many_device (w : World) (s : ByteArray) (e0 : (s.toList == [119, 97, 116, 99, 104]) = false) (e1 : (s.toList == [107, 101, 121]) = false) (e2 : (s.toList == [100, 101, 118, 105, 99, 101]) = true) :
    Calls Try.prog 54 #[.string s, .int .i64 4] w fun e w' => e = .returned (.bool true) ∧ w = w' := by
  go_enter Try.func54, Try.ntmps54
  go_wp2_with fail
  go_ret
  exact ⟨rfl, rfl⟩
set_option maxHeartbeats 4000000 in
set_option maxRecDepth 100000 in
theorem many_point (w : World) (s : ByteArray) (e0 : (s.toList == [119, 97, 116, 99, 104]) = false) (e1 : (s.toList == [107, 101, 121]) = false) (e2 : (s.toList == [100, 101, 118, 105, 99, 101]) = false) (e3 : (s.toList == [112, 111, 105, 110, 116]) = true) :
    Calls Try.prog 54 #[.string s, .int .i64 7] w fun e w' => e = .returned (.bool true) ∧ w = w' := by
  go_enter Try.func54, Try.ntmps54
  go_wp2_with fail
  go_ret
  exact ⟨rfl, rfl⟩
set_option maxHeartbeats 4000000 in
set_option maxRecDepth 100000 in
theorem many_cause (w : World) (s : ByteArray) (e0 : (s.toList == [119, 97, 116, 99, 104]) = false) (e1 : (s.toList == [107, 101, 121]) = false) (e2 : (s.toList == [100, 101, 118, 105, 99, 101]) = false) (e3 : (s.toList == [112, 111, 105, 110, 116]) = false) (e4 : (s.toList == [99, 97, 117, 115, 101]) = true) :
    Calls Try.prog 54 #[.string s, .int .i64 7] w fun e w' => e = .returned (.bool true) ∧ w = w' := by
  go_enter Try.func54, Try.ntmps54
  go_wp2_with fail
  go_ret
  exact ⟨rfl, rfl⟩
set_option maxHeartbeats 4000000 in
set_option maxRecDepth 100000 in
theorem many_effect (w : World) (s : ByteArray) (e0 : (s.toList == [119, 97, 116, 99, 104]) = false) (e1 : (s.toList == [107, 101, 121]) = false) (e2 : (s.toList == [100, 101, 118, 105, 99, 101]) = false) (e3 : (s.toList == [112, 111, 105, 110, 116]) = false) (e4 : (s.toList == [99, 97, 117, 115, 101]) = false) (e5 : (s.toList == [101, 102, 102, 101, 99, 116]) = true) :
    Calls Try.prog 54 #[.string s, .int .i64 6] w fun e w' => e = .returned (.bool true) ∧ w = w' := by
  go_enter Try.func54, Try.ntmps54
  go_wp2_with fail
  go_ret
  exact ⟨rfl, rfl⟩
set_option maxHeartbeats 4000000 in
set_option maxRecDepth 100000 in
theorem line_watch (W : World) (g : Nat) (m : Mat) (vd vp vc ve : Value) (w : World) (h : PS W g m false false vd vp vc ve w)
    (vw : Value) (s0 : ByteArray) (hs0 : s0 = ⟨#[119, 97, 116, 99, 104]⟩) (a b c d : ByteArray) (hw : StrsAt W [s0, a, b, c, d] vw) (ha : NumP a) (hb : NumP b) (hc : NumP c) (hd : NumP d)
    (m1 X : Mat) (hm1 : m1 = { m with retries := numF a, wait := numF b, back := numF c, cycle := numF d }) (hX : X = { m with retries := numF a, wait := numF b, back := numF c, cycle := numF d, key := ⟨#[48, 48, 48, 48, 48, 48, 48, 48, 48, 48, 48, 48, 48, 48, 48, 48]⟩ }) (hsm : MatSmall X) (hr : RightP X) :
    Calls Try.prog 42 #[.pointer (some ⟨g, 0, none⟩), vw] w (PEnds W g m1 true false) := by
  obtain ⟨r, wt, bk, cy, key, ds, ps, cs, es⟩ := m
  obtain ⟨Ad, cd, e⟩ := own_form h.1.ds
  simp only at e
  subst e
  obtain ⟨Ap, cp, e⟩ := own_form h.1.ps
  simp only at e
  subst e
  obtain ⟨Ac, cc, e⟩ := own_form h.1.cs
  simp only at e
  subst e
  obtain ⟨Ae, ce, e⟩ := own_form h.1.es
  simp only at e
  subst e
  have HM1 := Lib.hid hm1
  have HXX := Lib.hid hX
  have HSM := Lib.hid hsm
  have HR := Lib.hid hr
  have HP := Lib.hid h
  have HWD := Lib.hid hw
  obtain ⟨A, cw, e, hcw, -⟩ := id hw
  subst e
  simp only [List.length_cons, List.length_nil] at hcw
  rw [show [s0, a, b, c, d].length = 5 from rfl] at *
  have e0 : (s0.toList == [119, 97, 116, 99, 104]) = true := by rw [hs0, ByteArray.toList_eq]; decide
  have e1 : (s0.toList == [107, 101, 121]) = false := by rw [hs0, ByteArray.toList_eq]; decide
  clear h hw hm1 hX hsm hr hs0
  obtain ⟨b0, off0, hA, hcell⟩ := one_at (LawFrame.RowsAt.below HWD.out HP.out.2) (k := 0) (x := s0) rfl
  subst hA
  have y0 := hcell _ rfl
  clear hcell
  simp only [Nat.add_zero] at y0
  have Ha := Lib.hid ha
  obtain ⟨na, hna⟩ : ∃ n, n = numF a := ⟨_, rfl⟩
  have HNa := Lib.hid hna
  clear ha hna
  have Hb := Lib.hid hb
  obtain ⟨nb, hnb⟩ : ∃ n, n = numF b := ⟨_, rfl⟩
  have HNb := Lib.hid hnb
  clear hb hnb
  have Hc := Lib.hid hc
  obtain ⟨nc, hnc⟩ : ∃ n, n = numF c := ⟨_, rfl⟩
  have HNc := Lib.hid hnc
  clear hc hnc
  have Hd := Lib.hid hd
  obtain ⟨nd, hnd⟩ : ∃ n, n = numF d := ⟨_, rfl⟩
  have HNd := Lib.hid hnd
  clear hd hnd
  have z9 : w.cell? ⟨g, 9, none⟩ = some (.bool false) := HP.out.cell 9
  have z10 : w.cell? ⟨g, 10, none⟩ = some (.bool false) := HP.out.cell 10
  have f9 : w.frozen? ⟨g, 9, none⟩ = false := HP.out.free 9
  go_enter Try.func42, Try.ntmps42
  go_wp2_with fail
  refine (many_watch _ s0 e0).mono ?_
  rintro e w1 ⟨rfl, rfl⟩
  have HP := Lib.hid (HP.out.store (m' := ⟨r, wt, bk, cy, key, ds, ps, cs, es⟩) (bw' := true) (bk' := false) 9 (.bool true) rfl rfl rfl rfl rfl)
  have y1 : (w.setCell ⟨g, 9, none⟩ (.bool true)).cell? ⟨b0, off0 + 1, none⟩ = some (.string a) := word_at HWD.out HP.out.2 rfl
  go_wp2_with fail
  generalize w.setCell ⟨g, 9, none⟩ (.bool true) = wa at *
  clear z9 z10 f9 y1
  refine (num_any _ _ a Ha.out na HNa.out).mono ?_
  rintro e w1 ⟨rfl, rfl⟩
  have z0 : wa.cell? ⟨g, 0, none⟩ = some (.int .i64 r) := HP.out.cell 0
  have f0 : wa.frozen? ⟨g, 0, none⟩ = false := HP.out.free 0
  have HP := Lib.hid (HP.out.store (m' := ⟨na, wt, bk, cy, key, ds, ps, cs, es⟩) (bw' := true) (bk' := false) 0 (.int .i64 na) rfl rfl rfl rfl rfl)
  have y2 : (wa.setCell ⟨g, 0, none⟩ (.int .i64 na)).cell? ⟨b0, off0 + 2, none⟩ = some (.string b) := word_at HWD.out HP.out.2 rfl
  go_wp2_with fail
  generalize wa.setCell ⟨g, 0, none⟩ (.int .i64 na) = wb at *
  clear z0 f0 y2
  obtain ⟨wa, hwa⟩ : ∃ wa : World, wa = wb := ⟨_, rfl⟩
  subst hwa
  refine (num_any _ _ b Hb.out nb HNb.out).mono ?_
  rintro e w1 ⟨rfl, rfl⟩
  have z1 : wa.cell? ⟨g, 1, none⟩ = some (.int .i64 wt) := HP.out.cell 1
  have f1 : wa.frozen? ⟨g, 1, none⟩ = false := HP.out.free 1
  have HP := Lib.hid (HP.out.store (m' := ⟨na, nb, bk, cy, key, ds, ps, cs, es⟩) (bw' := true) (bk' := false) 1 (.int .i64 nb) rfl rfl rfl rfl rfl)
  have y3 : (wa.setCell ⟨g, 1, none⟩ (.int .i64 nb)).cell? ⟨b0, off0 + 3, none⟩ = some (.string c) := word_at HWD.out HP.out.2 rfl
  go_wp2_with fail
  generalize wa.setCell ⟨g, 1, none⟩ (.int .i64 nb) = wb at *
  clear z1 f1 y3
  obtain ⟨wa, hwa⟩ : ∃ wa : World, wa = wb := ⟨_, rfl⟩
  subst hwa
  refine (num_any _ _ c Hc.out nc HNc.out).mono ?_
  rintro e w1 ⟨rfl, rfl⟩
  have z2 : wa.cell? ⟨g, 2, none⟩ = some (.int .i64 bk) := HP.out.cell 2
  have f2 : wa.frozen? ⟨g, 2, none⟩ = false := HP.out.free 2
  have HP := Lib.hid (HP.out.store (m' := ⟨na, nb, nc, cy, key, ds, ps, cs, es⟩) (bw' := true) (bk' := false) 2 (.int .i64 nc) rfl rfl rfl rfl rfl)
  have y4 : (wa.setCell ⟨g, 2, none⟩ (.int .i64 nc)).cell? ⟨b0, off0 + 4, none⟩ = some (.string d) := word_at HWD.out HP.out.2 rfl
  go_wp2_with fail
  generalize wa.setCell ⟨g, 2, none⟩ (.int .i64 nc) = wb at *
  clear z2 f2 y4
  obtain ⟨wa, hwa⟩ : ∃ wa : World, wa = wb := ⟨_, rfl⟩
  subst hwa
  refine (num_any _ _ d Hd.out nd HNd.out).mono ?_
  rintro e w1 ⟨rfl, rfl⟩
  have z3 : wa.cell? ⟨g, 3, none⟩ = some (.int .i64 cy) := HP.out.cell 3
  have f3 : wa.frozen? ⟨g, 3, none⟩ = false := HP.out.free 3
  have HP := Lib.hid (HP.out.store (m' := ⟨na, nb, nc, nd, key, ds, ps, cs, es⟩) (bw' := true) (bk' := false) 3 (.int .i64 nd) rfl rfl rfl rfl rfl)
  go_upto_region 12 with fail
  generalize (wa.setCell ⟨g, 3, none⟩ (.int .i64 nd)) = wb at *
  clear z3 f3
  have z0 : wb.cell? ⟨g, 0, none⟩ = some (.int .i64 na) := HP.out.cell 0
  have z1 : wb.cell? ⟨g, 1, none⟩ = some (.int .i64 nb) := HP.out.cell 1
  have z2 : wb.cell? ⟨g, 2, none⟩ = some (.int .i64 nc) := HP.out.cell 2
  have z3 : wb.cell? ⟨g, 3, none⟩ = some (.int .i64 nd) := HP.out.cell 3
  have z4 : wb.cell? ⟨g, 4, none⟩ = some (.string key) := HP.out.cell 4
  have z5 : wb.cell? ⟨g, 5, none⟩ = some (.slice Ad ds.length cd) := HP.out.cell 5
  have z6 : wb.cell? ⟨g, 6, none⟩ = some (.slice Ap ps.length cp) := HP.out.cell 6
  have z7 : wb.cell? ⟨g, 7, none⟩ = some (.slice Ac cs.length cc) := HP.out.cell 7
  have z8 : wb.cell? ⟨g, 8, none⟩ = some (.slice Ae es.length ce) := HP.out.cell 8
  have z9 : wb.cell? ⟨g, 9, none⟩ = some (.bool true) := HP.out.cell 9
  have z10 : wb.cell? ⟨g, 10, none⟩ = some (.bool false) := HP.out.cell 10
  have HPA := Lib.hid (HP.out.below ((Below.refl _ _).alloc (Nat.le_refl _) (.cells #[.int .i64 na, .int .i64 nb, .int .i64 nc, .int .i64 nd, .string key, .slice Ad ds.length cd, .slice Ap ps.length cp, .slice Ac cs.length cc, .slice Ae es.length ce] 27)))
  have zz9 : (wb.alloc (.cells #[.int .i64 na, .int .i64 nb, .int .i64 nc, .int .i64 nd, .string key, .slice Ad ds.length cd, .slice Ap ps.length cp, .slice Ac cs.length cc, .slice Ae es.length ce] 27)).cell? ⟨g, 9, none⟩ = some (.bool true) := HPA.out.cell 9
  have zz10 : (wb.alloc (.cells #[.int .i64 na, .int .i64 nb, .int .i64 nc, .int .i64 nd, .string key, .slice Ad ds.length cd, .slice Ap ps.length cp, .slice Ac cs.length cc, .slice Ae es.length ce] 27)).cell? ⟨g, 10, none⟩ = some (.bool false) := (HP.out.1.blk.alloc _).cell 10
  have HPX := Lib.hid (HP.out.below ((Below.refl _ _).alloc (Nat.le_refl _) (.cells #[.int .i64 na, .int .i64 nb, .int .i64 nc, .int .i64 nd, .string ⟨#[48, 48, 48, 48, 48, 48, 48, 48, 48, 48, 48, 48, 48, 48, 48, 48]⟩, .slice Ad ds.length cd, .slice Ap ps.length cp, .slice Ac cs.length cc, .slice Ae es.length ce] 27)))
  clear HPA
  have HX2 : Hid (X = ⟨na, nb, nc, nd, ⟨#[48, 48, 48, 48, 48, 48, 48, 48, 48, 48, 48, 48, 48, 48, 48, 48]⟩, ds, ps, cs, es⟩) := Lib.hid (by rw [HXX.out, HNa.out, HNb.out, HNc.out, HNd.out])
  have HR2 : Hid (RightP ⟨na, nb, nc, nd, ⟨#[48, 48, 48, 48, 48, 48, 48, 48, 48, 48, 48, 48, 48, 48, 48, 48]⟩, ds, ps, cs, es⟩) := Lib.hid (by rw [← HX2.out]; exact HR.out)
  have HS2 : Hid (MatSmall ⟨na, nb, nc, nd, ⟨#[48, 48, 48, 48, 48, 48, 48, 48, 48, 48, 48, 48, 48, 48, 48, 48]⟩, ds, ps, cs, es⟩) := Lib.hid (by rw [← HX2.out]; exact HSM.out)
  go_wp2_with fail
  refine (rRight_any _ ⟨na, nb, nc, nd, ⟨#[48, 48, 48, 48, 48, 48, 48, 48, 48, 48, 48, 48, 48, 48, 48, 48]⟩, ds, ps, cs, es⟩ _ _ _ _ (HPX.out.1.mat) HS2.out).mono ?_
  rintro e w6 ⟨b6, rfl, hb6, hB6⟩
  obtain rfl : b6 = true := hb6.2 HR2.out
  have HF := Lib.hid (HPX.out.below hB6)
  clear hb6 hB6 zz9 zz10
  go_wp2_with fail
  go_end0
  exact ⟨_, _, _, _, rfl, by rw [HM1.out, ← HNa.out, ← HNb.out, ← HNc.out, ← HNd.out]; exact HF.out⟩
set_option maxHeartbeats 4000000 in
set_option maxRecDepth 100000 in
theorem line_key (W : World) (g : Nat) (m : Mat) (vd vp vc ve : Value) (w : World) (h : PS W g m true false vd vp vc ve w)
    (vw : Value) (s0 : ByteArray) (hs0 : s0 = ⟨#[107, 101, 121]⟩) (k : ByteArray) (hw : StrsAt W [s0, k] vw) 
    (m1 X : Mat) (hm1 : m1 = { m with key := k }) (hX : X = { m with key := k }) (hsm : MatSmall X) (hr : RightP X) :
    Calls Try.prog 42 #[.pointer (some ⟨g, 0, none⟩), vw] w (PEnds W g m1 true true) := by
  obtain ⟨r, wt, bk, cy, key, ds, ps, cs, es⟩ := m
  obtain ⟨Ad, cd, e⟩ := own_form h.1.ds
  simp only at e
  subst e
  obtain ⟨Ap, cp, e⟩ := own_form h.1.ps
  simp only at e
  subst e
  obtain ⟨Ac, cc, e⟩ := own_form h.1.cs
  simp only at e
  subst e
  obtain ⟨Ae, ce, e⟩ := own_form h.1.es
  simp only at e
  subst e
  have HM1 := Lib.hid hm1
  have HXX := Lib.hid hX
  have HSM := Lib.hid hsm
  have HR := Lib.hid hr
  have HP := Lib.hid h
  have HWD := Lib.hid hw
  obtain ⟨A, cw, e, hcw, -⟩ := id hw
  subst e
  simp only [List.length_cons, List.length_nil] at hcw
  rw [show [s0, k].length = 2 from rfl] at *
  have e0 : (s0.toList == [119, 97, 116, 99, 104]) = false := by rw [hs0, ByteArray.toList_eq]; decide
  have e1 : (s0.toList == [107, 101, 121]) = true := by rw [hs0, ByteArray.toList_eq]; decide
  clear h hw hm1 hX hsm hr hs0
  obtain ⟨b0, off0, hA, hcell⟩ := one_at (LawFrame.RowsAt.below HWD.out HP.out.2) (k := 0) (x := s0) rfl
  subst hA
  have y0 := hcell _ rfl
  clear hcell
  simp only [Nat.add_zero] at y0
  have z4 : w.cell? ⟨g, 4, none⟩ = some (.string key) := HP.out.cell 4
  have z9 : w.cell? ⟨g, 9, none⟩ = some (.bool true) := HP.out.cell 9
  have z10 : w.cell? ⟨g, 10, none⟩ = some (.bool false) := HP.out.cell 10
  have f10 : w.frozen? ⟨g, 10, none⟩ = false := HP.out.free 10
  go_enter Try.func42, Try.ntmps42
  go_wp2_with fail
  refine (many_key _ s0 e0 e1).mono ?_
  rintro e w1 ⟨rfl, rfl⟩
  have HP := Lib.hid (HP.out.store (m' := ⟨r, wt, bk, cy, key, ds, ps, cs, es⟩) (bw' := true) (bk' := true) 10 (.bool true) rfl rfl rfl rfl rfl)
  have y1 : (w.setCell ⟨g, 10, none⟩ (.bool true)).cell? ⟨b0, off0 + 1, none⟩ = some (.string k) := word_at HWD.out HP.out.2 rfl
  go_upto_region 10 with fail
  generalize w.setCell ⟨g, 10, none⟩ (.bool true) = wa at *
  clear z4 z9 z10 f10 y0
  have z4 : wa.cell? ⟨g, 4, none⟩ = some (.string key) := HP.out.cell 4
  have f4 : wa.frozen? ⟨g, 4, none⟩ = false := HP.out.free 4
  have HP := Lib.hid (HP.out.store (m' := ⟨r, wt, bk, cy, k, ds, ps, cs, es⟩) (bw' := true) (bk' := true) 4 (.string k) rfl rfl rfl rfl rfl)
  go_upto_region 12 with fail
  generalize wa.setCell ⟨g, 4, none⟩ (.string k) = wb at *
  clear z4 f4 y1
  have z0 : wb.cell? ⟨g, 0, none⟩ = some (.int .i64 r) := HP.out.cell 0
  have z1 : wb.cell? ⟨g, 1, none⟩ = some (.int .i64 wt) := HP.out.cell 1
  have z2 : wb.cell? ⟨g, 2, none⟩ = some (.int .i64 bk) := HP.out.cell 2
  have z3 : wb.cell? ⟨g, 3, none⟩ = some (.int .i64 cy) := HP.out.cell 3
  have z4 : wb.cell? ⟨g, 4, none⟩ = some (.string k) := HP.out.cell 4
  have z5 : wb.cell? ⟨g, 5, none⟩ = some (.slice Ad ds.length cd) := HP.out.cell 5
  have z6 : wb.cell? ⟨g, 6, none⟩ = some (.slice Ap ps.length cp) := HP.out.cell 6
  have z7 : wb.cell? ⟨g, 7, none⟩ = some (.slice Ac cs.length cc) := HP.out.cell 7
  have z8 : wb.cell? ⟨g, 8, none⟩ = some (.slice Ae es.length ce) := HP.out.cell 8
  have z9 : wb.cell? ⟨g, 9, none⟩ = some (.bool true) := HP.out.cell 9
  have z10 : wb.cell? ⟨g, 10, none⟩ = some (.bool true) := HP.out.cell 10
  have HPA := Lib.hid (HP.out.below ((Below.refl _ _).alloc (Nat.le_refl _) (.cells #[.int .i64 r, .int .i64 wt, .int .i64 bk, .int .i64 cy, .string k, .slice Ad ds.length cd, .slice Ap ps.length cp, .slice Ac cs.length cc, .slice Ae es.length ce] 27)))
  have zz9 : (wb.alloc (.cells #[.int .i64 r, .int .i64 wt, .int .i64 bk, .int .i64 cy, .string k, .slice Ad ds.length cd, .slice Ap ps.length cp, .slice Ac cs.length cc, .slice Ae es.length ce] 27)).cell? ⟨g, 9, none⟩ = some (.bool true) := HPA.out.cell 9
  have zz10 : (wb.alloc (.cells #[.int .i64 r, .int .i64 wt, .int .i64 bk, .int .i64 cy, .string k, .slice Ad ds.length cd, .slice Ap ps.length cp, .slice Ac cs.length cc, .slice Ae es.length ce] 27)).cell? ⟨g, 10, none⟩ = some (.bool true) := (HP.out.1.blk.alloc _).cell 10
  have HPX := Lib.hid (HP.out.below ((Below.refl _ _).alloc (Nat.le_refl _) (.cells #[.int .i64 r, .int .i64 wt, .int .i64 bk, .int .i64 cy, .string k, .slice Ad ds.length cd, .slice Ap ps.length cp, .slice Ac cs.length cc, .slice Ae es.length ce] 27)))
  clear HPA
  have HX2 : Hid (X = ⟨r, wt, bk, cy, k, ds, ps, cs, es⟩) := Lib.hid (by rw [HXX.out])
  have HR2 : Hid (RightP ⟨r, wt, bk, cy, k, ds, ps, cs, es⟩) := Lib.hid (by rw [← HX2.out]; exact HR.out)
  have HS2 : Hid (MatSmall ⟨r, wt, bk, cy, k, ds, ps, cs, es⟩) := Lib.hid (by rw [← HX2.out]; exact HSM.out)
  go_wp2_with fail
  refine (rRight_any _ ⟨r, wt, bk, cy, k, ds, ps, cs, es⟩ _ _ _ _ (HPX.out.1.mat) HS2.out).mono ?_
  rintro e w6 ⟨b6, rfl, hb6, hB6⟩
  obtain rfl : b6 = true := hb6.2 HR2.out
  have HF := Lib.hid (HPX.out.below hB6)
  clear hb6 hB6 zz9 zz10
  go_wp2_with fail
  go_end0
  exact ⟨_, _, _, _, rfl, by rw [HM1.out]; exact HF.out⟩
set_option maxHeartbeats 4000000 in
set_option maxRecDepth 100000 in
/-- a line of a thing -/
theorem line_thing (W : World) (g : Nat) (m : Mat) (vd vp vc ve : Value) (w : World) (h : PS W g m true true vd vp vc ve w)
    (vw : Value) (s0 : ByteArray) (ws : List ByteArray) (n : Nat) (hn : n = ws.length) (hn1 : 1 ≤ n) (hs : ws[0]? = some s0) (e0 : (s0.toList == [119, 97, 116, 99, 104]) = false) (e1 : (s0.toList == [107, 101, 121]) = false) (hw : StrsAt W ws vw)
    (hmany : ∀ w, Calls Try.prog 54 #[.string s0, .int .i64 n] w fun e w' => e = .returned (.bool true) ∧ w = w')
    (mk : Value → Mat) (hthing : Calls Try.prog 57 #[.pointer (some ⟨g, 0, none⟩), vw] w (fun e w' => ∃ v, PEnds W g (mk v) true true e w'))
    (hsm : ∀ v, MatSmall (mk v)) (hr : ∀ v, RightP (mk v)) :
    Calls Try.prog 42 #[.pointer (some ⟨g, 0, none⟩), vw] w (fun e w' => ∃ v, PEnds W g (mk v) true true e w') := by
  have HP := Lib.hid h
  have HWD := Lib.hid hw
  have HMY := Lib.hid hmany
  have HSM := Lib.hid hsm
  have HRR := Lib.hid hr
  obtain ⟨A, cw, e, hcw, -⟩ := id hw
  subst e
  obtain ⟨b0, off0, hA, hcell⟩ := one_at (LawFrame.RowsAt.below HWD.out HP.out.2) (k := 0) (x := s0) hs
  subst hA
  have hn0 : (0 : Int) < (n : Int) := by omega
  rw [← hn] at hcw hthing ⊢
  have HT := Lib.hid hthing
  clear HWD hn
  have y0 := hcell _ rfl
  simp only [Nat.add_zero] at y0
  clear hcell h hw hmany hthing hsm hr hs
  go_enter Try.func42, Try.ntmps42
  go_wp2_with fail
  refine (HMY.out _).mono ?_
  rintro e w1 ⟨rfl, rfl⟩
  go_wp2_with fail
  refine HT.out.mono ?_
  rintro e w1 ⟨v, vd1, vp1, vc1, ve1, rfl, hp⟩
  have HP := Lib.hid hp
  clear hp y0
  have HSV := Lib.hid (HSM.out v)
  have HRV := Lib.hid (HRR.out v)
  obtain ⟨m', hm'⟩ : ∃ m', m' = mk v := ⟨_, rfl⟩
  have HMM := Lib.hid hm'
  rw [← hm'] at HP HSV HRV
  have h := HP.out
  clear hm' HT HMY HSM HRR
  obtain ⟨r, wt, bk, cy, key, ds, ps, cs, es⟩ := m'
  obtain ⟨Ad, cd, e⟩ := own_form h.1.ds
  simp only at e
  subst e
  obtain ⟨Ap, cp, e⟩ := own_form h.1.ps
  simp only at e
  subst e
  obtain ⟨Ac, cc, e⟩ := own_form h.1.cs
  simp only at e
  subst e
  obtain ⟨Ae, ce, e⟩ := own_form h.1.es
  simp only at e
  subst e
  clear h
  obtain ⟨X, hX⟩ : ∃ X : Mat, X = ⟨r, wt, bk, cy, key, ds, ps, cs, es⟩ := ⟨_, rfl⟩
  have HXX := Lib.hid hX
  have HSM : Hid (MatSmall X) := Lib.hid (by rw [hX]; exact HSV.out)
  have HR : Hid (RightP X) := Lib.hid (by rw [hX]; exact HRV.out)
  clear hX
  go_upto_region 12 with fail
  have z0 : w1.cell? ⟨g, 0, none⟩ = some (.int .i64 r) := HP.out.cell 0
  have z1 : w1.cell? ⟨g, 1, none⟩ = some (.int .i64 wt) := HP.out.cell 1
  have z2 : w1.cell? ⟨g, 2, none⟩ = some (.int .i64 bk) := HP.out.cell 2
  have z3 : w1.cell? ⟨g, 3, none⟩ = some (.int .i64 cy) := HP.out.cell 3
  have z4 : w1.cell? ⟨g, 4, none⟩ = some (.string key) := HP.out.cell 4
  have z5 : w1.cell? ⟨g, 5, none⟩ = some (.slice Ad ds.length cd) := HP.out.cell 5
  have z6 : w1.cell? ⟨g, 6, none⟩ = some (.slice Ap ps.length cp) := HP.out.cell 6
  have z7 : w1.cell? ⟨g, 7, none⟩ = some (.slice Ac cs.length cc) := HP.out.cell 7
  have z8 : w1.cell? ⟨g, 8, none⟩ = some (.slice Ae es.length ce) := HP.out.cell 8
  have z9 : w1.cell? ⟨g, 9, none⟩ = some (.bool true) := HP.out.cell 9
  have z10 : w1.cell? ⟨g, 10, none⟩ = some (.bool true) := HP.out.cell 10
  have HPA := Lib.hid (HP.out.below ((Below.refl _ _).alloc (Nat.le_refl _) (.cells #[.int .i64 r, .int .i64 wt, .int .i64 bk, .int .i64 cy, .string key, .slice Ad ds.length cd, .slice Ap ps.length cp, .slice Ac cs.length cc, .slice Ae es.length ce] 27)))
  have zz9 : (w1.alloc (.cells #[.int .i64 r, .int .i64 wt, .int .i64 bk, .int .i64 cy, .string key, .slice Ad ds.length cd, .slice Ap ps.length cp, .slice Ac cs.length cc, .slice Ae es.length ce] 27)).cell? ⟨g, 9, none⟩ = some (.bool true) := HPA.out.cell 9
  have zz10 : (w1.alloc (.cells #[.int .i64 r, .int .i64 wt, .int .i64 bk, .int .i64 cy, .string key, .slice Ad ds.length cd, .slice Ap ps.length cp, .slice Ac cs.length cc, .slice Ae es.length ce] 27)).cell? ⟨g, 10, none⟩ = some (.bool true) := (HP.out.1.blk.alloc _).cell 10
  have HPX := Lib.hid (HP.out.below ((Below.refl _ _).alloc (Nat.le_refl _) (.cells #[.int .i64 r, .int .i64 wt, .int .i64 bk, .int .i64 cy, .string key, .slice Ad ds.length cd, .slice Ap ps.length cp, .slice Ac cs.length cc, .slice Ae es.length ce] 27)))
  clear HPA
  have HX2 : Hid (X = ⟨r, wt, bk, cy, key, ds, ps, cs, es⟩) := Lib.hid (by exact HXX.out)
  have HR2 : Hid (RightP ⟨r, wt, bk, cy, key, ds, ps, cs, es⟩) := Lib.hid (by rw [← HX2.out]; exact HR.out)
  have HS2 : Hid (MatSmall ⟨r, wt, bk, cy, key, ds, ps, cs, es⟩) := Lib.hid (by rw [← HX2.out]; exact HSM.out)
  go_wp2_with fail
  refine (rRight_any _ ⟨r, wt, bk, cy, key, ds, ps, cs, es⟩ _ _ _ _ (HPX.out.1.mat) HS2.out).mono ?_
  rintro e w6 ⟨b6, rfl, hb6, hB6⟩
  obtain rfl : b6 = true := hb6.2 HR2.out
  have HF := Lib.hid (HPX.out.below hB6)
  clear hb6 hB6 zz9 zz10
  go_wp2_with fail
  go_end0
  refine ⟨v, ?_⟩
  rw [← HMM.out]
  exact ⟨_, _, _, _, rfl, HF.out⟩
end Go.Proofs.Ytbpenoelmangkaa
