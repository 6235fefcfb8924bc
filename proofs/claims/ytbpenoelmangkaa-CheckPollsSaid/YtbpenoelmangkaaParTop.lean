/-
  The live question, walked: it is answered yes.
-/
import Derived.Test.YtbpenoelmangkaaParHead
namespace Go.Proofs.Ytbpenoelmangkaa
open Go.RowKit
theorem lit_nums (w : World) (x : Int) : NumsAt (w.alloc (.cells #[.int .i64 x] 3)) [x] (.slice (some ⟨w.heap.size, 0, none⟩) 1 1) :=
  LawFrame.RowsAt.of_own (base := w.heap.size) (e := 3) nC_len (by decide) (World.ownsRow_lit (base := w.heap.size) (e := 3) (size := 1) w #[.int .i64 x] 1 (Nat.le_refl _) (by simp only [maxLen]; omega) rfl)
theorem lit_pls (w : World) (x : Pl) : PlsAt (w.alloc (.cells #[.int .i64 x.dev, .int .i64 x.frm, .int .i64 x.many] 33)) [x] (.slice (some ⟨w.heap.size, 0, none⟩) 1 1) :=
  LawFrame.RowsAt.of_own (base := w.heap.size) (e := 33) Pl.cells_len (by decide) (World.ownsRow_lit (base := w.heap.size) (e := 33) (size := 3) w #[.int .i64 x.dev, .int .i64 x.frm, .int .i64 x.many] 1 (Nat.le_refl _) (by simp only [maxLen]; omega) rfl)
theorem head_polls (v1 v2 : Value) : pollsF (stageM v1 v2 7) = [⟨0, 0, 2⟩] := by kernel_rfl
theorem head_effects (v1 v2 : Value) : effectsF (stageM v1 v2 7) 0 = [0] := by kernel_rfl
theorem head_causes (v1 v2 : Value) : causesF (stageM v1 v2 7) 1 = [0] := by kernel_rfl
theorem head_on0 (v1 v2 : Value) : onF (stageM v1 v2 7) 0 = [0] := by kernel_rfl
theorem head_on1 (v1 v2 : Value) : onF (stageM v1 v2 7) 1 = [] := by kernel_rfl
theorem head_bound (v1 v2 : Value) : (124 : Int) = boundAt (stageM v1 v2 7) ⟨⟨#[99]⟩, 1, 1, 50, v1, [0, 1]⟩ := by kernel_rfl
theorem head_age (v1 v2 : Value) : (44 : Int) = (stageM v1 v2 7).age := by kernel_rfl
theorem zero_right : ¬ RightP zeroM := of_decide_eq_false (by kernel_rfl)
theorem zero_small : MatSmall zeroM := MatSmall.of (by kernel_rfl)
theorem zero_at (w : World) : MatAt w zeroM (.slice none 0 0) (.slice none 0 0) (.slice none 0 0) (.slice none 0 0) :=
  ⟨LawFrame.RowsAt.nil _ _ _, LawFrame.RowsAt.nil _ _ _, ⟨LawFrame.RowsAt.nil _ _ _, fun c hc => (by cases hc)⟩, ⟨LawFrame.RowsAt.nil _ _ _, fun c hc => (by cases hc)⟩⟩
/-- the matrix's own cells at g, with all it leads to, beside what lay below -/
def HeadIs (w : World) (g : Nat) (m : Mat) (vd vp vc ve : Value) (bx : Array Value) (wk : World) : Prop := Below w.heap.size w wk ∧ MatAt wk m vd vp vc ve ∧ Words.Blk wk g 27 bx
theorem HeadIs.below {w wk w' : World} {g : Nat} {m : Mat} {vd vp vc ve : Value} {bx : Array Value} (h : HeadIs w g m vd vp vc ve bx wk) (hb : Below wk.heap.size wk w') : HeadIs w g m vd vp vc ve bx w' :=
  ⟨h.1.trans (hb.mono h.1.size), h.2.1.below hb, h.2.2.below hb h.2.2.lt⟩
theorem HeadIs.box {w wk : World} {g : Nat} {m : Mat} {vd vp vc ve : Value} {bx : Array Value} (h : HeadIs w g m vd vp vc ve bx wk) (ob : Obj) : HeadIs w g m vd vp vc ve bx (wk.alloc ob) := h.below ((Below.refl _ _).alloc (Nat.le_refl _) ob)
set_option maxHeartbeats 4000000 in
set_option maxRecDepth 100000 in
theorem head_any (w : World) : Calls Try.prog 7 #[] w fun e w' => e = .returned (.bool true) ∧ Below w.heap.size w w' := by
  go_enter Try.func7, Try.ntmps7
  go_wp2_with fail
  refine (text_any _).mono ?_
  rintro e w0 ⟨rfl, rfl⟩
  obtain ⟨T, hT⟩ : ∃ T, T = textB := ⟨_, rfl⟩
  rw [← hT]
  have HT := Lib.hid hT
  clear hT
  go_wp2_with fail
  refine (show Calls Try.prog 19 #[.string T] w (ParsedIs w) by rw [HT.out]; exact parse_any w).mono ?_
  rintro e w1 ⟨v1, v2, vd, vp, vc, ve, rfl, hmat, hb⟩
  obtain ⟨m, hm⟩ : ∃ m, m = stageM v1 v2 7 := ⟨_, rfl⟩
  have HMM := Lib.hid hm
  have HR : Hid (RightP m) := Lib.hid (by rw [hm]; exact stage_right7 v1 v2)
  have HSM : Hid (MatSmall m) := Lib.hid (by rw [hm]; exact stage_small7 v1 v2)
  rw [← hm] at hmat ⊢
  clear hm
  obtain ⟨r, wt, bk, cy, key, ds, ps, cs, es⟩ := m
  obtain ⟨Ad, cd, e, hcd, -⟩ := id hmat.1
  simp only at e
  subst e
  obtain ⟨Ap, cp, e, hcp, -⟩ := id hmat.2.1
  simp only at e
  subst e
  obtain ⟨Ac, cc, e, hcc, -⟩ := id hmat.2.2.1.1
  simp only at e
  subst e
  obtain ⟨Ae, ce, e, hce, -⟩ := id hmat.2.2.2.1
  simp only at e
  subst e
  have HS := Lib.hid (show HeadIs w w1.heap.size ⟨r, wt, bk, cy, key, ds, ps, cs, es⟩ _ _ _ _ #[.int .i64 r, .int .i64 wt, .int .i64 bk, .int .i64 cy, .string key, .slice Ad ds.length cd, .slice Ap ps.length cp, .slice Ac cs.length cc, .slice Ae es.length ce] (w1.alloc (.cells #[.int .i64 r, .int .i64 wt, .int .i64 bk, .int .i64 cy, .string key, .slice Ad ds.length cd, .slice Ap ps.length cp, .slice Ac cs.length cc, .slice Ae es.length ce] 27)) from ⟨hb.alloc hb.size _, hmat.below ((Below.refl _ _).alloc (Nat.le_refl _) _), Words.Blk.new _ _ _⟩)
  clear hmat hb
  unfold Mat.val
  simp only
  go_wp2_with fail
  refine (polls_any _ ⟨r, wt, bk, cy, key, ds, ps, cs, es⟩ _ _ _ _ HS.out.2.1 HSM.out).mono ?_
  rintro e w2 ⟨v, rfl, hv, -, hb⟩
  obtain ⟨g, hg⟩ : ∃ g, g = w1.heap.size := ⟨_, rfl⟩
  rw [← hg] at HS ⊢
  have HS := Lib.hid (HS.out.below hb)
  have HV : Hid (PlsAt w2 [⟨0, 0, 2⟩] v) := Lib.hid (by have h := hv HR.out; rw [HMM.out, head_polls] at h; exact h)
  clear hv hb hg
  obtain ⟨Av, cv, e, hcv, -⟩ := id HV.out
  subst e
  go_wp2_with fail
  have HS := Lib.hid (HS.out.box (.cells #[.int .i64 0, .int .i64 0, .int .i64 2] 33))
  refine (samePolls_any _ [⟨0, 0, 2⟩] [⟨0, 0, 2⟩] _ _ (LawFrame.RowsAt.below HV.out ((Below.refl _ _).alloc (Nat.le_refl _) (.cells #[.int .i64 0, .int .i64 0, .int .i64 2] 33))) (lit_pls w2 ⟨0, 0, 2⟩) (by decide) (by decide)).mono ?_
  rintro e w4 ⟨b, rfl, hb1, hb⟩
  obtain rfl : b = true := hb1.2 rfl
  have HS := Lib.hid (HS.out.below hb)
  clear hb hb1 HV
  have z0 : w4.cell? ⟨g, 0, none⟩ = some (.int .i64 r) := HS.out.2.2.cell 0
  have z1 : w4.cell? ⟨g, 1, none⟩ = some (.int .i64 wt) := HS.out.2.2.cell 1
  have z2 : w4.cell? ⟨g, 2, none⟩ = some (.int .i64 bk) := HS.out.2.2.cell 2
  have z3 : w4.cell? ⟨g, 3, none⟩ = some (.int .i64 cy) := HS.out.2.2.cell 3
  have z4 : w4.cell? ⟨g, 4, none⟩ = some (.string key) := HS.out.2.2.cell 4
  have z5 : w4.cell? ⟨g, 5, none⟩ = some (.slice Ad ds.length cd) := HS.out.2.2.cell 5
  have z6 : w4.cell? ⟨g, 6, none⟩ = some (.slice Ap ps.length cp) := HS.out.2.2.cell 6
  have z7 : w4.cell? ⟨g, 7, none⟩ = some (.slice Ac cs.length cc) := HS.out.2.2.cell 7
  have z8 : w4.cell? ⟨g, 8, none⟩ = some (.slice Ae es.length ce) := HS.out.2.2.cell 8
  go_wp2_with fail
  clear z0 z1 z2 z3 z4 z5 z6 z7 z8
  refine (effects_any _ ⟨r, wt, bk, cy, key, ds, ps, cs, es⟩ _ _ _ _ HS.out.2.1 HSM.out HR.out 0).mono ?_
  rintro e w5 ⟨v, rfl, hv, hb⟩
  have HS := Lib.hid (HS.out.below hb)
  have HV : Hid (NumsAt w5 [0] v) := Lib.hid (by have h := hv; rw [HMM.out, head_effects] at h; exact h)
  clear hv hb
  obtain ⟨Av, cv, e, hcv, -⟩ := id HV.out
  subst e
  go_wp2_with fail
  have HS := Lib.hid (HS.out.box (.cells #[.int .i64 0] 3))
  refine (sameInts_any _ [0] [0] _ _ (LawFrame.RowsAt.below HV.out ((Below.refl _ _).alloc (Nat.le_refl _) (.cells #[.int .i64 0] 3))) (lit_nums w5 0) (by decide) (by decide)).mono ?_
  rintro e w6 ⟨b, rfl, hb1, hb⟩
  obtain rfl : b = true := hb1.2 rfl
  have HS := Lib.hid (HS.out.below hb)
  clear hb hb1 HV
  have z0 : w6.cell? ⟨g, 0, none⟩ = some (.int .i64 r) := HS.out.2.2.cell 0
  have z1 : w6.cell? ⟨g, 1, none⟩ = some (.int .i64 wt) := HS.out.2.2.cell 1
  have z2 : w6.cell? ⟨g, 2, none⟩ = some (.int .i64 bk) := HS.out.2.2.cell 2
  have z3 : w6.cell? ⟨g, 3, none⟩ = some (.int .i64 cy) := HS.out.2.2.cell 3
  have z4 : w6.cell? ⟨g, 4, none⟩ = some (.string key) := HS.out.2.2.cell 4
  have z5 : w6.cell? ⟨g, 5, none⟩ = some (.slice Ad ds.length cd) := HS.out.2.2.cell 5
  have z6 : w6.cell? ⟨g, 6, none⟩ = some (.slice Ap ps.length cp) := HS.out.2.2.cell 6
  have z7 : w6.cell? ⟨g, 7, none⟩ = some (.slice Ac cs.length cc) := HS.out.2.2.cell 7
  have z8 : w6.cell? ⟨g, 8, none⟩ = some (.slice Ae es.length ce) := HS.out.2.2.cell 8
  go_wp2_with fail
  clear z0 z1 z2 z3 z4 z5 z6 z7 z8
  refine (causes_any _ ⟨r, wt, bk, cy, key, ds, ps, cs, es⟩ _ _ _ _ HS.out.2.1 HSM.out HR.out 1).mono ?_
  rintro e w7 ⟨v, rfl, hv, hb⟩
  have HS := Lib.hid (HS.out.below hb)
  have HV : Hid (NumsAt w7 [0] v) := Lib.hid (by have h := hv; rw [HMM.out, head_causes] at h; exact h)
  clear hv hb
  obtain ⟨Av, cv, e, hcv, -⟩ := id HV.out
  subst e
  go_wp2_with fail
  have HS := Lib.hid (HS.out.box (.cells #[.int .i64 0] 3))
  refine (sameInts_any _ [0] [0] _ _ (LawFrame.RowsAt.below HV.out ((Below.refl _ _).alloc (Nat.le_refl _) (.cells #[.int .i64 0] 3))) (lit_nums w7 0) (by decide) (by decide)).mono ?_
  rintro e w8 ⟨b, rfl, hb1, hb⟩
  obtain rfl : b = true := hb1.2 rfl
  have HS := Lib.hid (HS.out.below hb)
  clear hb hb1 HV
  have z0 : w8.cell? ⟨g, 0, none⟩ = some (.int .i64 r) := HS.out.2.2.cell 0
  have z1 : w8.cell? ⟨g, 1, none⟩ = some (.int .i64 wt) := HS.out.2.2.cell 1
  have z2 : w8.cell? ⟨g, 2, none⟩ = some (.int .i64 bk) := HS.out.2.2.cell 2
  have z3 : w8.cell? ⟨g, 3, none⟩ = some (.int .i64 cy) := HS.out.2.2.cell 3
  have z4 : w8.cell? ⟨g, 4, none⟩ = some (.string key) := HS.out.2.2.cell 4
  have z5 : w8.cell? ⟨g, 5, none⟩ = some (.slice Ad ds.length cd) := HS.out.2.2.cell 5
  have z6 : w8.cell? ⟨g, 6, none⟩ = some (.slice Ap ps.length cp) := HS.out.2.2.cell 6
  have z7 : w8.cell? ⟨g, 7, none⟩ = some (.slice Ac cs.length cc) := HS.out.2.2.cell 7
  have z8 : w8.cell? ⟨g, 8, none⟩ = some (.slice Ae es.length ce) := HS.out.2.2.cell 8
  go_wp2_with fail
  clear z0 z1 z2 z3 z4 z5 z6 z7 z8
  refine (on_any _ ⟨r, wt, bk, cy, key, ds, ps, cs, es⟩ _ _ _ _ HS.out.2.1 HSM.out HR.out 0).mono ?_
  rintro e w9 ⟨v, rfl, hv, hb⟩
  have HS := Lib.hid (HS.out.below hb)
  have HV : Hid (NumsAt w9 [0] v) := Lib.hid (by have h := hv; rw [HMM.out, head_on0] at h; exact h)
  clear hv hb
  obtain ⟨Av, cv, e, hcv, -⟩ := id HV.out
  subst e
  go_wp2_with fail
  have HS := Lib.hid (HS.out.box (.cells #[.int .i64 0] 3))
  refine (sameInts_any _ [0] [0] _ _ (LawFrame.RowsAt.below HV.out ((Below.refl _ _).alloc (Nat.le_refl _) (.cells #[.int .i64 0] 3))) (lit_nums w9 0) (by decide) (by decide)).mono ?_
  rintro e w10 ⟨b, rfl, hb1, hb⟩
  obtain rfl : b = true := hb1.2 rfl
  have HS := Lib.hid (HS.out.below hb)
  clear hb hb1 HV
  have z0 : w10.cell? ⟨g, 0, none⟩ = some (.int .i64 r) := HS.out.2.2.cell 0
  have z1 : w10.cell? ⟨g, 1, none⟩ = some (.int .i64 wt) := HS.out.2.2.cell 1
  have z2 : w10.cell? ⟨g, 2, none⟩ = some (.int .i64 bk) := HS.out.2.2.cell 2
  have z3 : w10.cell? ⟨g, 3, none⟩ = some (.int .i64 cy) := HS.out.2.2.cell 3
  have z4 : w10.cell? ⟨g, 4, none⟩ = some (.string key) := HS.out.2.2.cell 4
  have z5 : w10.cell? ⟨g, 5, none⟩ = some (.slice Ad ds.length cd) := HS.out.2.2.cell 5
  have z6 : w10.cell? ⟨g, 6, none⟩ = some (.slice Ap ps.length cp) := HS.out.2.2.cell 6
  have z7 : w10.cell? ⟨g, 7, none⟩ = some (.slice Ac cs.length cc) := HS.out.2.2.cell 7
  have z8 : w10.cell? ⟨g, 8, none⟩ = some (.slice Ae es.length ce) := HS.out.2.2.cell 8
  go_wp2_with fail
  clear z0 z1 z2 z3 z4 z5 z6 z7 z8
  refine (on_any _ ⟨r, wt, bk, cy, key, ds, ps, cs, es⟩ _ _ _ _ HS.out.2.1 HSM.out HR.out 1).mono ?_
  rintro e w11 ⟨v, rfl, hv, hb⟩
  have HS := Lib.hid (HS.out.below hb)
  have HV : Hid (NumsAt w11 [] v) := Lib.hid (by have h := hv; rw [HMM.out, head_on1] at h; exact h)
  clear hv hb
  obtain ⟨Av, cv, e, hcv, -⟩ := id HV.out
  subst e
  clear HV
  have z0 : w11.cell? ⟨g, 0, none⟩ = some (.int .i64 r) := HS.out.2.2.cell 0
  have z1 : w11.cell? ⟨g, 1, none⟩ = some (.int .i64 wt) := HS.out.2.2.cell 1
  have z2 : w11.cell? ⟨g, 2, none⟩ = some (.int .i64 bk) := HS.out.2.2.cell 2
  have z3 : w11.cell? ⟨g, 3, none⟩ = some (.int .i64 cy) := HS.out.2.2.cell 3
  have z4 : w11.cell? ⟨g, 4, none⟩ = some (.string key) := HS.out.2.2.cell 4
  have z5 : w11.cell? ⟨g, 5, none⟩ = some (.slice Ad ds.length cd) := HS.out.2.2.cell 5
  have z6 : w11.cell? ⟨g, 6, none⟩ = some (.slice Ap ps.length cp) := HS.out.2.2.cell 6
  have z7 : w11.cell? ⟨g, 7, none⟩ = some (.slice Ac cs.length cc) := HS.out.2.2.cell 7
  have z8 : w11.cell? ⟨g, 8, none⟩ = some (.slice Ae es.length ce) := HS.out.2.2.cell 8
  go_wp2_with fail
  clear z0 z1 z2 z3 z4 z5 z6 z7 z8
  refine (bound_any _ ⟨r, wt, bk, cy, key, ds, ps, cs, es⟩ _ _ _ _ HS.out.2.1 HSM.out HR.out 0 ⟨⟨#[99]⟩, 1, 1, 50, v1, [0, 1]⟩ (by rw [HMM.out]; rfl) 124 (by rw [HMM.out]; exact head_bound v1 v2)).mono ?_
  rintro e w12 ⟨rfl, hb⟩
  have HS := Lib.hid (HS.out.below hb)
  clear hb
  have z0 : w12.cell? ⟨g, 0, none⟩ = some (.int .i64 r) := HS.out.2.2.cell 0
  have z1 : w12.cell? ⟨g, 1, none⟩ = some (.int .i64 wt) := HS.out.2.2.cell 1
  have z2 : w12.cell? ⟨g, 2, none⟩ = some (.int .i64 bk) := HS.out.2.2.cell 2
  have z3 : w12.cell? ⟨g, 3, none⟩ = some (.int .i64 cy) := HS.out.2.2.cell 3
  have z4 : w12.cell? ⟨g, 4, none⟩ = some (.string key) := HS.out.2.2.cell 4
  have z5 : w12.cell? ⟨g, 5, none⟩ = some (.slice Ad ds.length cd) := HS.out.2.2.cell 5
  have z6 : w12.cell? ⟨g, 6, none⟩ = some (.slice Ap ps.length cp) := HS.out.2.2.cell 6
  have z7 : w12.cell? ⟨g, 7, none⟩ = some (.slice Ac cs.length cc) := HS.out.2.2.cell 7
  have z8 : w12.cell? ⟨g, 8, none⟩ = some (.slice Ae es.length ce) := HS.out.2.2.cell 8
  go_wp2_with fail
  clear z0 z1 z2 z3 z4 z5 z6 z7 z8
  refine (age_any _ ⟨r, wt, bk, cy, key, ds, ps, cs, es⟩ _ _ _ _ HS.out.2.1 HSM.out 44 (fun _ => by rw [HMM.out]; exact head_age v1 v2) (fun h => absurd HR.out h)).mono ?_
  rintro e w13 ⟨rfl, hb⟩
  have HS := Lib.hid (HS.out.below hb)
  clear hb
  go_wp2_with fail
  refine (age_any _ zeroM _ _ _ _ (zero_at _) zero_small 0 (fun h => absurd h zero_right) (fun _ => rfl)).mono ?_
  rintro e w14 ⟨rfl, hb⟩
  have HS := Lib.hid (HS.out.below hb)
  clear hb
  have z0 : w14.cell? ⟨g, 0, none⟩ = some (.int .i64 r) := HS.out.2.2.cell 0
  have z1 : w14.cell? ⟨g, 1, none⟩ = some (.int .i64 wt) := HS.out.2.2.cell 1
  have z2 : w14.cell? ⟨g, 2, none⟩ = some (.int .i64 bk) := HS.out.2.2.cell 2
  have z3 : w14.cell? ⟨g, 3, none⟩ = some (.int .i64 cy) := HS.out.2.2.cell 3
  have z4 : w14.cell? ⟨g, 4, none⟩ = some (.string key) := HS.out.2.2.cell 4
  have z5 : w14.cell? ⟨g, 5, none⟩ = some (.slice Ad ds.length cd) := HS.out.2.2.cell 5
  have z6 : w14.cell? ⟨g, 6, none⟩ = some (.slice Ap ps.length cp) := HS.out.2.2.cell 6
  have z7 : w14.cell? ⟨g, 7, none⟩ = some (.slice Ac cs.length cc) := HS.out.2.2.cell 7
  have z8 : w14.cell? ⟨g, 8, none⟩ = some (.slice Ae es.length ce) := HS.out.2.2.cell 8
  go_wp2_with fail
  clear z0 z1 z2 z3 z4 z5 z6 z7 z8
  refine (bound_none _ ⟨r, wt, bk, cy, key, ds, ps, cs, es⟩ _ _ _ _ HS.out.2.1 HSM.out HR.out 1 (by rw [HMM.out]; exact (by decide : ¬ (0 ≤ (1 : Int) ∧ (1 : Int) < ((1 : Nat) : Int))))).mono ?_
  rintro e w15 ⟨rfl, hb⟩
  have HS := Lib.hid (HS.out.below hb)
  clear hb
  go_wp2_with fail
  refine (polls_any _ zeroM _ _ _ _ (zero_at _) zero_small).mono ?_
  rintro e w16 ⟨v, rfl, -, hv, hb⟩
  have HS := Lib.hid (HS.out.below hb)
  obtain ⟨Av, cv, e, hcv, -⟩ := hv zero_right
  subst e
  clear hv hb
  go_wp2_with fail
  go_ret
  exact ⟨rfl, HS.out.1⟩
end Go.Proofs.Ytbpenoelmangkaa
