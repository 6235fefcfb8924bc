/-
  check: within, jobs, each, Effects, Causes, On and Age, walked.
-/
import Derived.Test.YtbpenoelmangkaaChkPick
import Derived.IntWalk
import Derived.Deep.RegionWith
import Derived.Deep.RegionHeld3
namespace Go.Proofs.Ytbpenoelmangkaa
open Go.RowKit
def Mat.jobs (m : Mat) : Int := (m.devs.length : Int) + 2 * (m.efs.length : Int) + 2
def Mat.each (m : Mat) : Int := (m.retries + 1) * m.wait + 1
def Mat.age (m : Mat) : Int := m.back + m.cycle + m.jobs * m.each
def effectsF (m : Mat) (n : Int) : List Int := if 0 ≤ n ∧ n < (m.css.length : Int) then ids (fun x : Ef => decide (n ∈ x.cs)) m.efs else []
def causesF (m : Mat) (n : Int) : List Int := if 0 ≤ n ∧ n < (m.pts.length : Int) then ids (fun x : Cs => decide (n ∈ x.pts)) m.css else []
def onF (m : Mat) (n : Int) : List Int := if 0 ≤ n ∧ n < 4 then ids (fun x : Ef => lineOf m.devs x.dev == n) m.efs else []
theorem jobs_in {m : Mat} (hr : RightP m) : 2 ≤ m.jobs ∧ m.jobs ≤ 22 := by
  have h1 : m.devs.length ≤ 4 := hr.2.2.1.1
  have h2 : m.efs.length ≤ 8 := hr.2.2.2.2.2.1.1
  unfold Mat.jobs
  omega
theorem each_in {m : Mat} (hr : RightP m) : 2 ≤ m.each ∧ m.each ≤ 8001 := by
  obtain ⟨⟨h1, h2⟩, ⟨h3, h4⟩, -⟩ := hr.1
  have h5 : (m.retries + 1) * m.wait ≤ 8 * 1000 := Int.mul_le_mul (by omega) h4 (by omega) (by omega)
  have h6 : 1 * 1 ≤ (m.retries + 1) * m.wait := Int.mul_le_mul (by omega) h3 (by omega) (by omega)
  unfold Mat.each
  omega
theorem prod_in {m : Mat} (hr : RightP m) : 4 ≤ m.jobs * m.each ∧ m.jobs * m.each ≤ 176022 := by
  have h1 := jobs_in hr
  have h2 := each_in hr
  have h3 : m.jobs * m.each ≤ 22 * 8001 := Int.mul_le_mul h1.2 h2.2 (by omega) (by omega)
  have h4 : 2 * 2 ≤ m.jobs * m.each := Int.mul_le_mul h1.1 h2.1 (by omega) (by omega)
  omega
theorem cwithin_any (w : World) (n b : Int) :
    Calls Try.prog 32 #[.int .i64 n, .int .i64 b] w fun e w' => e = .returned (.bool (decide (0 ≤ n ∧ n < b))) ∧ w = w' := by
  by_cases h0 : 0 ≤ n
  · by_cases h1 : n < b
    · rw [decide_eq_true ⟨h0, h1⟩]
      go_enter Try.func32, Try.ntmps32
      go_wp2_with fail
      go_ret
      exact ⟨by simp, rfl⟩
    · rw [decide_eq_false (fun h => h1 h.2)]
      go_enter Try.func32, Try.ntmps32
      go_wp2_with fail
      go_ret
      exact ⟨by simp, rfl⟩
  · rw [decide_eq_false (fun h => h0 h.1)]
    go_enter Try.func32, Try.ntmps32
    go_wp2_with fail
    go_ret
    exact ⟨rfl, rfl⟩
set_option maxHeartbeats 4000000 in
set_option maxRecDepth 100000 in
theorem jobs_any (w : World) (r wt bk cy : Int) (key : ByteArray) (ds : List Dev) (ps : List Pt) (cs : List Cs) (es : List Ef) (Ad Ap Ac Ae : Option Addr) (cd cp cc ce : Nat) (hr : RightP ⟨r, wt, bk, cy, key, ds, ps, cs, es⟩) (J : Int) (hJ : J = Mat.jobs ⟨r, wt, bk, cy, key, ds, ps, cs, es⟩) :
    Calls Try.prog 39 #[.agg #[.int .i64 r, .int .i64 wt, .int .i64 bk, .int .i64 cy, .string key, .slice Ad ds.length cd, .slice Ap ps.length cp, .slice Ac cs.length cc, .slice Ae es.length ce]] w fun e w' => e = .returned (.int .i64 J) ∧ Below w.heap.size w w' := by
  have HJ := Lib.hid hJ
  clear hJ
  have hsd : ds.length ≤ 4 := hr.2.2.1.1
  have hsp : ps.length ≤ 16 := hr.2.2.2.1.1
  have hsc : cs.length ≤ 8 := hr.2.2.2.2.1.1
  have hse : es.length ≤ 8 := hr.2.2.2.2.2.1.1
  have HQ := Lib.hid ((Below.refl w.heap.size w).alloc (Nat.le_refl _) (.cells #[.int .i64 r, .int .i64 wt, .int .i64 bk, .int .i64 cy, .string key, .slice Ad ds.length cd, .slice Ap ps.length cp, .slice Ac cs.length cc, .slice Ae es.length ce] 27))
  clear hr
  go_enter Try.func39, Try.ntmps39
  go_wp2_with fail
  go_ret
  exact ⟨by rw [HJ.out]; rfl, HQ.out⟩
set_option maxHeartbeats 4000000 in
set_option maxRecDepth 100000 in
theorem each_any (w : World) (r wt bk cy : Int) (key : ByteArray) (ds : List Dev) (ps : List Pt) (cs : List Cs) (es : List Ef) (Ad Ap Ac Ae : Option Addr) (cd cp cc ce : Nat) (hr : RightP ⟨r, wt, bk, cy, key, ds, ps, cs, es⟩) (E : Int) (hE : E = Mat.each ⟨r, wt, bk, cy, key, ds, ps, cs, es⟩) :
    Calls Try.prog 40 #[.agg #[.int .i64 r, .int .i64 wt, .int .i64 bk, .int .i64 cy, .string key, .slice Ad ds.length cd, .slice Ap ps.length cp, .slice Ac cs.length cc, .slice Ae es.length ce]] w fun e w' => e = .returned (.int .i64 E) ∧ Below w.heap.size w w' := by
  have HE := Lib.hid hE
  clear hE
  obtain ⟨⟨h1, h2⟩, ⟨h3, h4⟩, -⟩ := hr.1
  simp only at h1 h2 h3 h4
  have h5 : (r + 1) * wt ≤ 8 * 1000 := Int.mul_le_mul (by omega) h4 (by omega) (by omega)
  have h6 : 1 * 1 ≤ (r + 1) * wt := Int.mul_le_mul (by omega) h3 (by omega) (by omega)
  have HE2 : Hid (E = (r + 1) * wt + 1) := Lib.hid (by rw [HE.out]; rfl)
  have hw1 : IntKind.i64.wrap (r + 1) = r + 1 := IntWalk.i64_in _ (by omega)
  have hw2 : IntKind.i64.wrap ((r + 1) * wt) = (r + 1) * wt := IntWalk.i64_in _ (by omega)
  have hw3 : IntKind.i64.wrap ((r + 1) * wt + 1) = (r + 1) * wt + 1 := IntWalk.i64_in _ (by omega)
  have HQ := Lib.hid ((Below.refl w.heap.size w).alloc (Nat.le_refl _) (.cells #[.int .i64 r, .int .i64 wt, .int .i64 bk, .int .i64 cy, .string key, .slice Ad ds.length cd, .slice Ap ps.length cp, .slice Ac cs.length cc, .slice Ae es.length ce] 27))
  clear hr h5 h6
  go_enter Try.func40, Try.ntmps40
  go_wp2_with fail
  go_ret
  exact ⟨by rw [HE2.out]; rfl, HQ.out⟩
set_option maxHeartbeats 4000000 in
set_option maxRecDepth 100000 in
theorem effects_any (w : World) (m : Mat) (vd vp vc ve : Value) (h : MatAt w m vd vp vc ve) (hm : MatSmall m) (hr : RightP m) (n : Int) :
    Calls Try.prog 11 #[m.val vd vp vc ve, .int .i64 n] w (PicksIs (effectsF m n) w) := by
  obtain ⟨r, wt, bk, cy, key, ds, ps, cs, es⟩ := m
  obtain ⟨Ad, cd, e, hcd, -⟩ := id h.1
  simp only at e
  subst e
  obtain ⟨Ap, cp, e, hcp, -⟩ := id h.2.1
  simp only at e
  subst e
  obtain ⟨Ac, cc, e, hcc, -⟩ := id h.2.2.1.1
  simp only at e
  subst e
  obtain ⟨Ae, ce, e, hce, -⟩ := id h.2.2.2.1
  simp only at e
  subst e
  have hsd : ds.length ≤ 4 := hr.2.2.1.1
  have hsp : ps.length ≤ 16 := hr.2.2.2.1.1
  have hsc : cs.length ≤ 8 := hr.2.2.2.2.1.1
  have hse : es.length ≤ 8 := hr.2.2.2.2.2.1.1
  have HL := Lib.hid h
  have HM := Lib.hid hm
  have HR := Lib.hid hr
  clear h hm hr
  unfold Mat.val
  simp only
  have HQ : Hid (Below w.heap.size w ((w.alloc (.cells #[.int .i64 r, .int .i64 wt, .int .i64 bk, .int .i64 cy, .string key, .slice Ad ds.length cd, .slice Ap ps.length cp, .slice Ac cs.length cc, .slice Ae es.length ce] 27)).alloc (.cells #[.int .i64 n] 3)) ∧ Words.Blk ((w.alloc (.cells #[.int .i64 r, .int .i64 wt, .int .i64 bk, .int .i64 cy, .string key, .slice Ad ds.length cd, .slice Ap ps.length cp, .slice Ac cs.length cc, .slice Ae es.length ce] 27)).alloc (.cells #[.int .i64 n] 3)) w.heap.size 27 #[.int .i64 r, .int .i64 wt, .int .i64 bk, .int .i64 cy, .string key, .slice Ad ds.length cd, .slice Ap ps.length cp, .slice Ac cs.length cc, .slice Ae es.length ce] ∧ Words.Blk ((w.alloc (.cells #[.int .i64 r, .int .i64 wt, .int .i64 bk, .int .i64 cy, .string key, .slice Ad ds.length cd, .slice Ap ps.length cp, .slice Ac cs.length cc, .slice Ae es.length ce] 27)).alloc (.cells #[.int .i64 n] 3)) (w.heap.size + 1) 3 #[.int .i64 n]) :=
    Lib.hid ⟨((Below.refl _ _).alloc (Nat.le_refl _) _).alloc (by simp) _, (Words.Blk.new w _ _).alloc _, by have := Words.Blk.new (w.alloc (.cells #[.int .i64 r, .int .i64 wt, .int .i64 bk, .int .i64 cy, .string key, .slice Ad ds.length cd, .slice Ap ps.length cp, .slice Ac cs.length cc, .slice Ae es.length ce] 27)) 3 #[.int .i64 n]; simpa using this⟩
  go_enter Try.func11, Try.ntmps11
  go_wp2_with fail
  refine (lRight_any _ ⟨r, wt, bk, cy, key, ds, ps, cs, es⟩ _ _ _ _ (MatAt.below HL.out HQ.out.1) HM.out).mono ?_
  rintro e w1 ⟨b1, rfl, hb1, hB⟩
  obtain rfl : b1 = true := hb1.2 HR.out
  have HQ : Hid (Below w.heap.size w w1 ∧ Words.Blk w1 w.heap.size 27 #[.int .i64 r, .int .i64 wt, .int .i64 bk, .int .i64 cy, .string key, .slice Ad ds.length cd, .slice Ap ps.length cp, .slice Ac cs.length cc, .slice Ae es.length ce] ∧ Words.Blk w1 (w.heap.size + 1) 3 #[.int .i64 n]) := Lib.hid ⟨HQ.out.1.trans (hB.mono HQ.out.1.size), HQ.out.2.1.below hB HQ.out.2.1.lt, HQ.out.2.2.below hB HQ.out.2.2.lt⟩
  clear hb1 hB
  have z7 : w1.cell? ⟨w.heap.size, 7, none⟩ = some (.slice Ac cs.length cc) := HQ.out.2.1.cell 7
  have z8 : w1.cell? ⟨w.heap.size, 8, none⟩ = some (.slice Ae es.length ce) := HQ.out.2.1.cell 8
  have zn : w1.cell? ⟨w.heap.size + 1, 0, none⟩ = some (.int .i64 n) := HQ.out.2.2.cell 0
  go_wp2_with fail
  refine (cwithin_any _ n (cs.length : Int)).mono ?_
  rintro e w2 ⟨rfl, rfl⟩
  by_cases c1 : 0 ≤ n ∧ n < (cs.length : Int)
  case neg =>
    have HF : Hid (effectsF ⟨r, wt, bk, cy, key, ds, ps, cs, es⟩ n = []) := Lib.hid (if_neg c1)
    rw [decide_eq_false c1]
    clear c1
    go_wp2_with fail
    go_ret
    exact ⟨_, rfl, by rw [HF.out]; exact LawFrame.RowsAt.nil _ _ _, HQ.out.1⟩
  have HF := Lib.hid (show effectsF ⟨r, wt, bk, cy, key, ds, ps, cs, es⟩ n = _ from if_pos c1)
  rw [decide_eq_true c1]
  clear c1
  go_wp2_with fail
  refine (pickE_any _ es _ (HL.out.2.2.2.below HQ.out.1) (by omega) HM.out.ecs (w.heap.size + 1) n HQ.out.2.2).mono ?_
  rintro e w2 ⟨v, rfl, hv, hB⟩
  have HV := Lib.hid hv
  have HB := Lib.hid hB
  clear hv hB
  go_wp2_with fail
  go_ret
  exact ⟨v, rfl, by rw [HF.out]; exact HV.out, HQ.out.1.trans (HB.out.mono HQ.out.1.size)⟩
set_option maxHeartbeats 4000000 in
set_option maxRecDepth 100000 in
theorem causes_any (w : World) (m : Mat) (vd vp vc ve : Value) (h : MatAt w m vd vp vc ve) (hm : MatSmall m) (hr : RightP m) (n : Int) :
    Calls Try.prog 12 #[m.val vd vp vc ve, .int .i64 n] w (PicksIs (causesF m n) w) := by
  obtain ⟨r, wt, bk, cy, key, ds, ps, cs, es⟩ := m
  obtain ⟨Ad, cd, e, hcd, -⟩ := id h.1
  simp only at e
  subst e
  obtain ⟨Ap, cp, e, hcp, -⟩ := id h.2.1
  simp only at e
  subst e
  obtain ⟨Ac, cc, e, hcc, -⟩ := id h.2.2.1.1
  simp only at e
  subst e
  obtain ⟨Ae, ce, e, hce, -⟩ := id h.2.2.2.1
  simp only at e
  subst e
  have hsd : ds.length ≤ 4 := hr.2.2.1.1
  have hsp : ps.length ≤ 16 := hr.2.2.2.1.1
  have hsc : cs.length ≤ 8 := hr.2.2.2.2.1.1
  have hse : es.length ≤ 8 := hr.2.2.2.2.2.1.1
  have HL := Lib.hid h
  have HM := Lib.hid hm
  have HR := Lib.hid hr
  clear h hm hr
  unfold Mat.val
  simp only
  have HQ : Hid (Below w.heap.size w ((w.alloc (.cells #[.int .i64 r, .int .i64 wt, .int .i64 bk, .int .i64 cy, .string key, .slice Ad ds.length cd, .slice Ap ps.length cp, .slice Ac cs.length cc, .slice Ae es.length ce] 27)).alloc (.cells #[.int .i64 n] 3)) ∧ Words.Blk ((w.alloc (.cells #[.int .i64 r, .int .i64 wt, .int .i64 bk, .int .i64 cy, .string key, .slice Ad ds.length cd, .slice Ap ps.length cp, .slice Ac cs.length cc, .slice Ae es.length ce] 27)).alloc (.cells #[.int .i64 n] 3)) w.heap.size 27 #[.int .i64 r, .int .i64 wt, .int .i64 bk, .int .i64 cy, .string key, .slice Ad ds.length cd, .slice Ap ps.length cp, .slice Ac cs.length cc, .slice Ae es.length ce] ∧ Words.Blk ((w.alloc (.cells #[.int .i64 r, .int .i64 wt, .int .i64 bk, .int .i64 cy, .string key, .slice Ad ds.length cd, .slice Ap ps.length cp, .slice Ac cs.length cc, .slice Ae es.length ce] 27)).alloc (.cells #[.int .i64 n] 3)) (w.heap.size + 1) 3 #[.int .i64 n]) :=
    Lib.hid ⟨((Below.refl _ _).alloc (Nat.le_refl _) _).alloc (by simp) _, (Words.Blk.new w _ _).alloc _, by have := Words.Blk.new (w.alloc (.cells #[.int .i64 r, .int .i64 wt, .int .i64 bk, .int .i64 cy, .string key, .slice Ad ds.length cd, .slice Ap ps.length cp, .slice Ac cs.length cc, .slice Ae es.length ce] 27)) 3 #[.int .i64 n]; simpa using this⟩
  go_enter Try.func12, Try.ntmps12
  go_wp2_with fail
  refine (lRight_any _ ⟨r, wt, bk, cy, key, ds, ps, cs, es⟩ _ _ _ _ (MatAt.below HL.out HQ.out.1) HM.out).mono ?_
  rintro e w1 ⟨b1, rfl, hb1, hB⟩
  obtain rfl : b1 = true := hb1.2 HR.out
  have HQ : Hid (Below w.heap.size w w1 ∧ Words.Blk w1 w.heap.size 27 #[.int .i64 r, .int .i64 wt, .int .i64 bk, .int .i64 cy, .string key, .slice Ad ds.length cd, .slice Ap ps.length cp, .slice Ac cs.length cc, .slice Ae es.length ce] ∧ Words.Blk w1 (w.heap.size + 1) 3 #[.int .i64 n]) := Lib.hid ⟨HQ.out.1.trans (hB.mono HQ.out.1.size), HQ.out.2.1.below hB HQ.out.2.1.lt, HQ.out.2.2.below hB HQ.out.2.2.lt⟩
  clear hb1 hB
  have z6 : w1.cell? ⟨w.heap.size, 6, none⟩ = some (.slice Ap ps.length cp) := HQ.out.2.1.cell 6
  have z7 : w1.cell? ⟨w.heap.size, 7, none⟩ = some (.slice Ac cs.length cc) := HQ.out.2.1.cell 7
  have zn : w1.cell? ⟨w.heap.size + 1, 0, none⟩ = some (.int .i64 n) := HQ.out.2.2.cell 0
  go_wp2_with fail
  refine (cwithin_any _ n (ps.length : Int)).mono ?_
  rintro e w2 ⟨rfl, rfl⟩
  by_cases c1 : 0 ≤ n ∧ n < (ps.length : Int)
  case neg =>
    have HF : Hid (causesF ⟨r, wt, bk, cy, key, ds, ps, cs, es⟩ n = []) := Lib.hid (if_neg c1)
    rw [decide_eq_false c1]
    clear c1
    go_wp2_with fail
    go_ret
    exact ⟨_, rfl, by rw [HF.out]; exact LawFrame.RowsAt.nil _ _ _, HQ.out.1⟩
  have HF := Lib.hid (show causesF ⟨r, wt, bk, cy, key, ds, ps, cs, es⟩ n = _ from if_pos c1)
  rw [decide_eq_true c1]
  clear c1
  go_wp2_with fail
  refine (pickC_any _ cs _ (HL.out.2.2.1.below HQ.out.1) (by omega) HM.out.cpts (w.heap.size + 1) n HQ.out.2.2).mono ?_
  rintro e w2 ⟨v, rfl, hv, hB⟩
  have HV := Lib.hid hv
  have HB := Lib.hid hB
  clear hv hB
  go_wp2_with fail
  go_ret
  exact ⟨v, rfl, by rw [HF.out]; exact HV.out, HQ.out.1.trans (HB.out.mono HQ.out.1.size)⟩
theorem ef_dev {m : Mat} (hr : RightP m) : ∀ x ∈ m.efs, ∃ (k : Nat) (d : Dev), x.dev = (k : Int) ∧ m.devs[k]? = some d := by
  intro x hx
  obtain ⟨i, hi⟩ := List.getElem?_of_mem hx
  obtain ⟨⟨h1, h2⟩, -⟩ := hr.2.2.2.2.2.1.2 i x hi
  exact ⟨x.dev.toNat, _, by omega, List.getElem?_eq_getElem (by omega)⟩
set_option maxHeartbeats 4000000 in
set_option maxRecDepth 100000 in
theorem on_any (w : World) (m : Mat) (vd vp vc ve : Value) (h : MatAt w m vd vp vc ve) (hm : MatSmall m) (hr : RightP m) (n : Int) :
    Calls Try.prog 13 #[m.val vd vp vc ve, .int .i64 n] w (PicksIs (onF m n) w) := by
  obtain ⟨r, wt, bk, cy, key, ds, ps, cs, es⟩ := m
  obtain ⟨Ad, cd, e, hcd, -⟩ := id h.1
  simp only at e
  subst e
  obtain ⟨Ap, cp, e, hcp, -⟩ := id h.2.1
  simp only at e
  subst e
  obtain ⟨Ac, cc, e, hcc, -⟩ := id h.2.2.1.1
  simp only at e
  subst e
  obtain ⟨Ae, ce, e, hce, -⟩ := id h.2.2.2.1
  simp only at e
  subst e
  have hsd : ds.length ≤ 4 := hr.2.2.1.1
  have hsp : ps.length ≤ 16 := hr.2.2.2.1.1
  have hsc : cs.length ≤ 8 := hr.2.2.2.2.1.1
  have hse : es.length ≤ 8 := hr.2.2.2.2.2.1.1
  have HL := Lib.hid h
  have HM := Lib.hid hm
  have HR := Lib.hid hr
  clear h hm hr
  unfold Mat.val
  simp only
  have HQ : Hid (Below w.heap.size w ((w.alloc (.cells #[.int .i64 r, .int .i64 wt, .int .i64 bk, .int .i64 cy, .string key, .slice Ad ds.length cd, .slice Ap ps.length cp, .slice Ac cs.length cc, .slice Ae es.length ce] 27)).alloc (.cells #[.int .i64 n] 3)) ∧ Words.Blk ((w.alloc (.cells #[.int .i64 r, .int .i64 wt, .int .i64 bk, .int .i64 cy, .string key, .slice Ad ds.length cd, .slice Ap ps.length cp, .slice Ac cs.length cc, .slice Ae es.length ce] 27)).alloc (.cells #[.int .i64 n] 3)) w.heap.size 27 #[.int .i64 r, .int .i64 wt, .int .i64 bk, .int .i64 cy, .string key, .slice Ad ds.length cd, .slice Ap ps.length cp, .slice Ac cs.length cc, .slice Ae es.length ce] ∧ Words.Blk ((w.alloc (.cells #[.int .i64 r, .int .i64 wt, .int .i64 bk, .int .i64 cy, .string key, .slice Ad ds.length cd, .slice Ap ps.length cp, .slice Ac cs.length cc, .slice Ae es.length ce] 27)).alloc (.cells #[.int .i64 n] 3)) (w.heap.size + 1) 3 #[.int .i64 n]) :=
    Lib.hid ⟨((Below.refl _ _).alloc (Nat.le_refl _) _).alloc (by simp) _, (Words.Blk.new w _ _).alloc _, by have := Words.Blk.new (w.alloc (.cells #[.int .i64 r, .int .i64 wt, .int .i64 bk, .int .i64 cy, .string key, .slice Ad ds.length cd, .slice Ap ps.length cp, .slice Ac cs.length cc, .slice Ae es.length ce] 27)) 3 #[.int .i64 n]; simpa using this⟩
  go_enter Try.func13, Try.ntmps13
  go_wp2_with fail
  refine (lRight_any _ ⟨r, wt, bk, cy, key, ds, ps, cs, es⟩ _ _ _ _ (MatAt.below HL.out HQ.out.1) HM.out).mono ?_
  rintro e w1 ⟨b1, rfl, hb1, hB⟩
  obtain rfl : b1 = true := hb1.2 HR.out
  have HQ : Hid (Below w.heap.size w w1 ∧ Words.Blk w1 w.heap.size 27 #[.int .i64 r, .int .i64 wt, .int .i64 bk, .int .i64 cy, .string key, .slice Ad ds.length cd, .slice Ap ps.length cp, .slice Ac cs.length cc, .slice Ae es.length ce] ∧ Words.Blk w1 (w.heap.size + 1) 3 #[.int .i64 n]) := Lib.hid ⟨HQ.out.1.trans (hB.mono HQ.out.1.size), HQ.out.2.1.below hB HQ.out.2.1.lt, HQ.out.2.2.below hB HQ.out.2.2.lt⟩
  clear hb1 hB
  have z8 : w1.cell? ⟨w.heap.size, 8, none⟩ = some (.slice Ae es.length ce) := HQ.out.2.1.cell 8
  have zn : w1.cell? ⟨w.heap.size + 1, 0, none⟩ = some (.int .i64 n) := HQ.out.2.2.cell 0
  go_wp2_with fail
  refine (cwithin_any _ n 4).mono ?_
  rintro e w2 ⟨rfl, rfl⟩
  by_cases c1 : 0 ≤ n ∧ n < 4
  case neg =>
    have HF : Hid (onF ⟨r, wt, bk, cy, key, ds, ps, cs, es⟩ n = []) := Lib.hid (if_neg c1)
    rw [decide_eq_false c1]
    clear c1
    go_wp2_with fail
    go_ret
    exact ⟨_, rfl, by rw [HF.out]; exact LawFrame.RowsAt.nil _ _ _, HQ.out.1⟩
  have HF := Lib.hid (show onF ⟨r, wt, bk, cy, key, ds, ps, cs, es⟩ n = _ from if_pos c1)
  rw [decide_eq_true c1]
  clear c1
  go_wp2_with fail
  refine (pickO_any _ es _ (HL.out.2.2.2.below HQ.out.1) (by omega) #[.int .i64 r, .int .i64 wt, .int .i64 bk, .int .i64 cy, .string key, .slice Ad ds.length cd, .slice Ap ps.length cp, .slice Ac cs.length cc, .slice Ae es.length ce] ds Ad cd (LawFrame.RowsAt.below HL.out.1 HQ.out.1) (by omega) rfl (ef_dev HR.out) w.heap.size HQ.out.2.1 (w.heap.size + 1) n HQ.out.2.2).mono ?_
  rintro e w2 ⟨v, rfl, hv, hB⟩
  have HV := Lib.hid hv
  have HB := Lib.hid hB
  clear hv hB
  go_wp2_with fail
  go_ret
  exact ⟨v, rfl, by rw [HF.out]; exact HV.out, HQ.out.1.trans (HB.out.mono HQ.out.1.size)⟩
end Go.Proofs.Ytbpenoelmangkaa
