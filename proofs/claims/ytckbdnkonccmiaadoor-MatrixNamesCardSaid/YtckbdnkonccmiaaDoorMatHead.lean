/-
  The live question, walked: it is answered yes.
-/
import Derived.Test.YtckbdnkonccmiaaDoorMatPrint
import Derived.Test.YtckbdnkonccmiaaDoorMatSameM
namespace Go.Proofs.YtckbdnkonccmiaaDoor
open Go.RowKit
def textB : ByteArray := ⟨#[119, 97, 116, 99, 104, 32, 49, 32, 51, 32, 53, 32, 52, 10, 107, 101, 121, 32, 48, 49, 50, 51, 52, 53, 54, 55, 56, 57, 97, 98, 99, 100, 101, 102, 10, 100, 101, 118, 105, 99, 101, 32, 100, 32, 48, 32, 49, 10, 112, 111, 105, 110, 116, 32, 112, 32, 100, 32, 48, 32, 49, 32, 50, 32, 48, 10, 112, 111, 105, 110, 116, 32, 113, 32, 100, 32, 49, 32, 49, 32, 48, 32, 48, 10, 99, 97, 117, 115, 101, 32, 99, 32, 49, 32, 97, 32, 53, 48, 32, 112, 32, 113, 10, 101, 102, 102, 101, 99, 116, 32, 101, 32, 100, 32, 51, 32, 48, 32, 99, 10]⟩
def head2 : ByteArray := ⟨#[119, 97, 116, 99, 104, 32, 49, 32, 51, 32, 53, 32, 52, 10, 10, 112, 111, 105, 110, 116, 32, 112, 32, 100, 32, 48, 32, 49, 32, 50, 32, 48, 10]⟩
def head3 : ByteArray := ⟨#[107, 101, 121, 32, 48, 49, 50, 51, 52, 53, 54, 55, 56, 57, 97, 98, 99, 100, 101, 102, 10, 119, 97, 116, 99, 104, 32, 49, 32, 48, 32, 53, 32, 52, 10]⟩
def head4 : ByteArray := ⟨#[119, 97, 116, 99, 104, 32, 49, 32, 51, 32, 53, 32, 52, 10]⟩
/-- the small matrix -/
def headM : Mat := ⟨1, 3, 5, 4, ⟨#[48, 49, 50, 51, 52, 53, 54, 55, 56, 57, 97, 98, 99, 100, 101, 102]⟩, [⟨⟨#[100]⟩, 0, 1⟩], [⟨⟨#[112]⟩, 0, 0, 1, 2, 0⟩, ⟨⟨#[113]⟩, 0, 1, 1, 0, 0⟩], [⟨⟨#[99]⟩, 1, 1, 50, nilV, [0, 1]⟩], [⟨⟨#[101]⟩, 0, 3, 0, nilV, [0]⟩]⟩
theorem headM_right : RightP headM := of_decide_eq_true (by kernel_rfl)
theorem itoB_lit (n : Int) (h : 0 ≤ n) (l : List UInt8) (e : Lib.decDigits n.toNat = l) : itoB n = toB l := by
  rw [← toB_of (itoB n), itoB_list h, e]
theorem headM_text : textM headM = textB := by
  rw [textM_right headM_right]
  have e0 : itoB 0 = ⟨#[48]⟩ := itoB_lit 0 (by decide) [48] (Lib.decDigits_one (by decide))
  have e1 : itoB 1 = ⟨#[49]⟩ := itoB_lit 1 (by decide) [49] (Lib.decDigits_one (by decide))
  have e2 : itoB 2 = ⟨#[50]⟩ := itoB_lit 2 (by decide) [50] (Lib.decDigits_one (by decide))
  have e3 : itoB 3 = ⟨#[51]⟩ := itoB_lit 3 (by decide) [51] (Lib.decDigits_one (by decide))
  have e4 : itoB 4 = ⟨#[52]⟩ := itoB_lit 4 (by decide) [52] (Lib.decDigits_one (by decide))
  have e5 : itoB 5 = ⟨#[53]⟩ := itoB_lit 5 (by decide) [53] (Lib.decDigits_one (by decide))
  have e50 : itoB 50 = ⟨#[53, 48]⟩ := itoB_lit 50 (by decide) [53, 48] (Lib.decDigits_two (by decide) (by decide))
  have hl : linesOf headM = [[bWatch, ⟨#[49]⟩, ⟨#[51]⟩, ⟨#[53]⟩, ⟨#[52]⟩], [bKey, headM.key], [bDevice, ⟨#[100]⟩, ⟨#[48]⟩, ⟨#[49]⟩], [bPoint, ⟨#[112]⟩, ⟨#[100]⟩, ⟨#[48]⟩, ⟨#[49]⟩, ⟨#[50]⟩, ⟨#[48]⟩], [bPoint, ⟨#[113]⟩, ⟨#[100]⟩, ⟨#[49]⟩, ⟨#[49]⟩, ⟨#[48]⟩, ⟨#[48]⟩], [bCause, ⟨#[99]⟩, ⟨#[49]⟩, ⟨#[97]⟩, ⟨#[53, 48]⟩, ⟨#[112]⟩, ⟨#[113]⟩], [bEffect, ⟨#[101]⟩, ⟨#[100]⟩, ⟨#[51]⟩, ⟨#[48]⟩, ⟨#[99]⟩]] := by
    unfold linesOf tailOf watchW keyW headM
    simp only [List.map_cons, List.map_nil, devW, ptW, csW, efW, e0, e1, e2, e3, e4, e5, e50]
    rfl
  rw [hl]
  rfl
theorem head_parse : parseO textB.data.toList = (headM, 0, 0) := by
  have h := back_print headM_right
  rw [headM_text, if_neg (by decide)] at h
  exact h
theorem head_parse2 : (parseO head2.data.toList).2 = (82, 3) := by kernel_rfl
theorem head_parse3 : (parseO head3.data.toList).2 = (81, 2) := by kernel_rfl
theorem head_parse4 : (parseO head4.data.toList).2 = (81, 0) := by kernel_rfl
theorem zero_wrong : ¬ RightP zeroMat := of_decide_eq_false (by kernel_rfl)
theorem zero_sm : MatSmall zeroMat := (small_zero 0).small (by decide) true true
theorem lit_nums2 (w : World) (x y : Int) : NumsAt (w.alloc (.cells #[.int .i64 x, .int .i64 y] 3)) [x, y] (.slice (some ⟨w.heap.size, 0, none⟩) 2 2) :=
  LawFrame.RowsAt.of_own (base := w.heap.size) (e := 3) nC_len (by decide) (World.ownsRow_lit (base := w.heap.size) (e := 3) (size := 1) w #[.int .i64 x, .int .i64 y] 2 (Nat.le_refl _) (by simp only [maxLen]; omega) (by simp))
set_option maxRecDepth 100000 in
theorem text_any (w : World) : Calls Tryd.prog 16 #[] w fun e w' => e = .returned (.string textB) ∧ w = w' := by
  go_enter Tryd.func16, Tryd.ntmps16
  go_wp2_with fail
  go_ret
  exact ⟨rfl, rfl⟩
/-- one parsed: its code and its place -/
theorem parse_own (w : World) (s : ByteArray) (hs : s.size ≤ 1000000) (ht : Tab w) {k no : Int} (hp : (parseO s.data.toList).2 = (k, no)) : Calls Tryd.prog 12 #[.string s] w fun e w' => ∃ (m : Mat) (Ad Ap Ac Ae : Option Addr) (cd cp cc ce : Nat), e = .returned (.tuple #[m.val (.slice Ad m.devs.length cd) (.slice Ap m.pts.length cp) (.slice Ac m.css.length cc) (.slice Ae m.efs.length ce), .int .i64 k, .int .i64 no]) ∧ m.bare = (parseO s.data.toList).1 ∧ OwnMat w' m (.slice Ad m.devs.length cd) (.slice Ap m.pts.length cp) (.slice Ac m.css.length cc) (.slice Ae m.efs.length ce) ∧ SmallM m 100000 ∧ Below w.heap.size w w' := by
  refine (parse_any w s hs ht).mono ?_
  rintro e w' ⟨m, vd, vp, vc, ve, rfl, hb, hm, hsm, hbe⟩
  obtain ⟨Ad, cd, e1, -, -⟩ := id hm.mat.1
  obtain ⟨Ap, cp, e2, -, -⟩ := id hm.mat.2.1
  obtain ⟨Ac, cc, e3, -, -⟩ := id hm.mat.2.2.1.1
  obtain ⟨Ae, ce, e4, -, -⟩ := id hm.mat.2.2.2.1
  subst e1 e2 e3 e4
  exact ⟨m, Ad, Ap, Ac, Ae, cd, cp, cc, ce, by rw [hp], hb, hm, hsm, hbe⟩
theorem parse_code (w : World) (s : ByteArray) (hs : s.size ≤ 1000000) (ht : Tab w) {k no : Int} (hp : (parseO s.data.toList).2 = (k, no)) : Calls Tryd.prog 12 #[.string s] w fun e w' => ∃ (m : Mat) (Ad Ap Ac Ae : Option Addr) (cd cp cc ce : Nat), e = .returned (.tuple #[m.val (.slice Ad m.devs.length cd) (.slice Ap m.pts.length cp) (.slice Ac m.css.length cc) (.slice Ae m.efs.length ce), .int .i64 k, .int .i64 no]) ∧ m.bare = (parseO s.data.toList).1 ∧ MatAt w' m (.slice Ad m.devs.length cd) (.slice Ap m.pts.length cp) (.slice Ac m.css.length cc) (.slice Ae m.efs.length ce) ∧ SmallM m 100000 ∧ Below w.heap.size w w' := by
  refine (parse_own w s hs ht hp).mono ?_
  rintro e w' ⟨m, Ad, Ap, Ac, Ae, cd, cp, cc, ce, he, hb, hm, hsm, hbe⟩
  exact ⟨m, Ad, Ap, Ac, Ae, cd, cp, cc, ce, he, hb, hm.mat, hsm, hbe⟩
theorem bare_one {m : Mat} (h : m.bare = headM) : ∃ x, m.css = [x] ∧ x.limit = 50 ∧ x.pts = [0, 1] := by
  have h1 : m.css.map bareC = headM.css := congrArg Mat.css h
  cases e : m.css with
  | nil => rw [e] at h1; cases h1
  | cons x r =>
    rw [e] at h1
    unfold headM at h1
    simp only [List.map_cons, List.cons.injEq, List.map_eq_nil_iff] at h1
    obtain ⟨h2, rfl⟩ := h1
    refine ⟨x, rfl, ?_, ?_⟩
    · have := congrArg Cs.limit h2; exact this
    · have := congrArg Cs.pts h2; exact this
/-- the matrix' own cells at g, with all it leads to, beside what lay below; the tables -/
structure HdIs (w : World) (g : Nat) (m : Mat) (vd vp vc ve : Value) (bx : Array Value) (wk : World) : Prop where
  old : Below w.heap.size w wk
  mat : MatAt wk m vd vp vc ve
  box : Words.Blk wk g 27 bx
  tab : Tab wk
  tab10 : Tab10 wk
theorem HdIs.below {w wk w' : World} {g : Nat} {m : Mat} {vd vp vc ve : Value} {bx : Array Value} (h : HdIs w g m vd vp vc ve bx wk) (hb : Below wk.heap.size wk w') : HdIs w g m vd vp vc ve bx w' :=
  ⟨h.old.trans (hb.mono h.old.size), h.mat.below hb, h.box.below hb h.box.lt, h.tab.below hb (Nat.le_refl _), h.tab10.below hb (Nat.le_refl _)⟩
theorem HdIs.alloc {w wk : World} {g : Nat} {m : Mat} {vd vp vc ve : Value} {bx : Array Value} (h : HdIs w g m vd vp vc ve bx wk) (ob : Obj) : HdIs w g m vd vp vc ve bx (wk.alloc ob) := h.below ((Below.refl _ _).alloc (Nat.le_refl _) ob)
theorem head_cells {w : World} {r wt bk cy n1 n2 n3 : Int} {key nm : ByteArray} {ds : List Dev} {ps : List Pt} {es : List Ef} {vd vp ve xv : Value} {cb co cc : Nat} {l : List Int} (h : MatAt w ⟨r, wt, bk, cy, key, ds, ps, [⟨nm, n1, n2, n3, xv, l⟩], es⟩ vd vp (.slice (some ⟨cb, co, none⟩) 1 cc) ve) :
    w.cell? ⟨cb, co + 3, none⟩ = some (.int .i64 n3) ∧ w.cell? ⟨cb, co + 4, none⟩ = some xv := by
  obtain ⟨b, off, hA, -, hcell⟩ := row_at (c := cc) (A := some ⟨cb, co, none⟩) h.2.2.1.1 (k := 0) (x := ⟨nm, n1, n2, n3, xv, l⟩) rfl
  injection hA with hA
  injection hA with e1 e2 _
  subst e1 e2
  have y3 := hcell 3 _ rfl
  have y4 := hcell 4 _ rfl
  simp only [Nat.zero_mul, Nat.add_zero] at y3 y4
  exact ⟨y3, y4⟩
set_option maxHeartbeats 8000000 in
set_option maxRecDepth 100000 in
theorem head_any (w : World) (ht : Tab w) (h10 : Tab10 w) : Calls Tryd.prog 8 #[] w fun e w' => e = .returned (.bool true) ∧ Below w.heap.size w w' := by
  have HT := Lib.hid ht
  have HX := Lib.hid h10
  clear ht h10
  go_enter Tryd.func8, Tryd.ntmps8
  go_wp2_with fail
  refine (text_any _).mono ?_
  rintro e w0 ⟨rfl, rfl⟩
  obtain ⟨T, hT⟩ : ∃ T, T = textB := ⟨_, rfl⟩
  rw [← hT]
  have HTB := Lib.hid hT
  clear hT
  go_wp2_with fail
  refine (parse_code w T (by rw [HTB.out]; decide) HT.out (k := 0) (no := 0) (by rw [HTB.out, head_parse])).mono ?_
  rintro e w1 ⟨m, Ad, Ap, Ac, Ae, cd, cp, cc, ce, rfl, hbm, hmat, hsm, hb⟩
  rw [HTB.out, head_parse] at hbm
  have hbm' : m.bare = headM := hbm
  have HR : Hid (RightP m) := Lib.hid ((right_bare m).1 (by rw [hbm']; exact headM_right))
  have HSM : Hid (MatSmall m) := Lib.hid (hsm.small (by decide) true true)
  have HTX : Hid (textM m = T) := Lib.hid (by rw [← text_bare, hbm', headM_text, HTB.out])
  obtain ⟨x, hx, hxl, hxp⟩ := bare_one hbm'
  obtain ⟨r, wt, bk, cy, key, ds, ps, cs, es⟩ := m
  simp only at hx hmat
  subst hx
  unfold Mat.val
  simp only
  obtain ⟨cb, co, hAc, -, -⟩ := row_at hmat.2.2.1.1 (k := 0) (x := x) rfl
  subst hAc
  simp only [List.length_singleton] at hmat ⊢
  have HB := Lib.hid (⟨hb.alloc hb.size (.cells #[.int .i64 r, .int .i64 wt, .int .i64 bk, .int .i64 cy, .string key, .slice Ad ds.length cd, .slice Ap ps.length cp, .slice (some ⟨cb, co, none⟩) 1 cc, .slice Ae es.length ce] 27), hmat.below ((Below.refl _ _).alloc (Nat.le_refl _) _), Words.Blk.new w1 _ _, (HT.out.below hb (Nat.le_refl _)).below ((Below.refl _ _).alloc (Nat.le_refl _) _) (Nat.le_refl _), (HX.out.below hb (Nat.le_refl _)).below ((Below.refl _ _).alloc (Nat.le_refl _) _) (Nat.le_refl _)⟩ : HdIs w w1.heap.size ⟨r, wt, bk, cy, key, ds, ps, [x], es⟩ (.slice Ad ds.length cd) (.slice Ap ps.length cp) (.slice (some ⟨cb, co, none⟩) 1 cc) (.slice Ae es.length ce) #[.int .i64 r, .int .i64 wt, .int .i64 bk, .int .i64 cy, .string key, .slice Ad ds.length cd, .slice Ap ps.length cp, .slice (some ⟨cb, co, none⟩) 1 cc, .slice Ae es.length ce] (w1.alloc (.cells #[.int .i64 r, .int .i64 wt, .int .i64 bk, .int .i64 cy, .string key, .slice Ad ds.length cd, .slice Ap ps.length cp, .slice (some ⟨cb, co, none⟩) 1 cc, .slice Ae es.length ce] 27)))
  have hnx := hmat.2.2.1.2 x (by simp)
  rw [hxp] at hnx
  obtain ⟨xA, xc, exv, -, -⟩ := id hnx
  obtain ⟨nm, n1, n2, n3, xv, xpts⟩ := x
  simp only at hxl hxp exv hnx
  subst hxl hxp
  have exv2 : xv = .slice xA 2 xc := exv
  subst exv2
  clear exv hbm hbm' hsm hmat hnx hb
  go_wp2_with fail
  refine (parse_code _ head2 (by decide) HB.out.tab head_parse2).mono ?_
  rintro e w2 ⟨⟨r2, wt2, bk2, cy2, key2, ds2, ps2, cs2, es2⟩, Ad2, Ap2, Ac2, Ae2, cd2, cp2, cc2, ce2, rfl, -, -, -, hb⟩
  unfold Mat.val
  simp only
  have HB := Lib.hid ((HB.out.below hb).alloc (.cells #[.int .i64 r2, .int .i64 wt2, .int .i64 bk2, .int .i64 cy2, .string key2, .slice Ad2 ds2.length cd2, .slice Ap2 ps2.length cp2, .slice Ac2 cs2.length cc2, .slice Ae2 es2.length ce2] 27))
  clear hb
  go_wp2_with fail
  refine (parse_code _ head3 (by decide) HB.out.tab head_parse3).mono ?_
  rintro e w3 ⟨⟨r3, wt3, bk3, cy3, key3, ds3, ps3, cs3, es3⟩, Ad3, Ap3, Ac3, Ae3, cd3, cp3, cc3, ce3, rfl, -, -, -, hb⟩
  unfold Mat.val
  simp only
  have HB := Lib.hid ((HB.out.below hb).alloc (.cells #[.int .i64 r3, .int .i64 wt3, .int .i64 bk3, .int .i64 cy3, .string key3, .slice Ad3 ds3.length cd3, .slice Ap3 ps3.length cp3, .slice Ac3 cs3.length cc3, .slice Ae3 es3.length ce3] 27))
  clear hb
  go_wp2_with fail
  refine (parse_code _ head4 (by decide) HB.out.tab head_parse4).mono ?_
  rintro e w4 ⟨⟨r4, wt4, bk4, cy4, key4, ds4, ps4, cs4, es4⟩, Ad4, Ap4, Ac4, Ae4, cd4, cp4, cc4, ce4, rfl, -, -, -, hb⟩
  unfold Mat.val
  simp only
  have HB := Lib.hid ((HB.out.below hb).alloc (.cells #[.int .i64 r4, .int .i64 wt4, .int .i64 bk4, .int .i64 cy4, .string key4, .slice Ad4 ds4.length cd4, .slice Ap4 ps4.length cp4, .slice Ac4 cs4.length cc4, .slice Ae4 es4.length ce4] 27))
  clear hb
  have z0 : (w4.alloc (.cells #[.int .i64 r4, .int .i64 wt4, .int .i64 bk4, .int .i64 cy4, .string key4, .slice Ad4 ds4.length cd4, .slice Ap4 ps4.length cp4, .slice Ac4 cs4.length cc4, .slice Ae4 es4.length ce4] 27)).cell? ⟨w1.heap.size, 0, none⟩ = some (.int .i64 r) := HB.out.box.cell 0
  have z1 : (w4.alloc (.cells #[.int .i64 r4, .int .i64 wt4, .int .i64 bk4, .int .i64 cy4, .string key4, .slice Ad4 ds4.length cd4, .slice Ap4 ps4.length cp4, .slice Ac4 cs4.length cc4, .slice Ae4 es4.length ce4] 27)).cell? ⟨w1.heap.size, 1, none⟩ = some (.int .i64 wt) := HB.out.box.cell 1
  have z2 : (w4.alloc (.cells #[.int .i64 r4, .int .i64 wt4, .int .i64 bk4, .int .i64 cy4, .string key4, .slice Ad4 ds4.length cd4, .slice Ap4 ps4.length cp4, .slice Ac4 cs4.length cc4, .slice Ae4 es4.length ce4] 27)).cell? ⟨w1.heap.size, 2, none⟩ = some (.int .i64 bk) := HB.out.box.cell 2
  have z3 : (w4.alloc (.cells #[.int .i64 r4, .int .i64 wt4, .int .i64 bk4, .int .i64 cy4, .string key4, .slice Ad4 ds4.length cd4, .slice Ap4 ps4.length cp4, .slice Ac4 cs4.length cc4, .slice Ae4 es4.length ce4] 27)).cell? ⟨w1.heap.size, 3, none⟩ = some (.int .i64 cy) := HB.out.box.cell 3
  have z4 : (w4.alloc (.cells #[.int .i64 r4, .int .i64 wt4, .int .i64 bk4, .int .i64 cy4, .string key4, .slice Ad4 ds4.length cd4, .slice Ap4 ps4.length cp4, .slice Ac4 cs4.length cc4, .slice Ae4 es4.length ce4] 27)).cell? ⟨w1.heap.size, 4, none⟩ = some (.string key) := HB.out.box.cell 4
  have z5 : (w4.alloc (.cells #[.int .i64 r4, .int .i64 wt4, .int .i64 bk4, .int .i64 cy4, .string key4, .slice Ad4 ds4.length cd4, .slice Ap4 ps4.length cp4, .slice Ac4 cs4.length cc4, .slice Ae4 es4.length ce4] 27)).cell? ⟨w1.heap.size, 5, none⟩ = some (.slice Ad ds.length cd) := HB.out.box.cell 5
  have z6 : (w4.alloc (.cells #[.int .i64 r4, .int .i64 wt4, .int .i64 bk4, .int .i64 cy4, .string key4, .slice Ad4 ds4.length cd4, .slice Ap4 ps4.length cp4, .slice Ac4 cs4.length cc4, .slice Ae4 es4.length ce4] 27)).cell? ⟨w1.heap.size, 6, none⟩ = some (.slice Ap ps.length cp) := HB.out.box.cell 6
  have z7 : (w4.alloc (.cells #[.int .i64 r4, .int .i64 wt4, .int .i64 bk4, .int .i64 cy4, .string key4, .slice Ad4 ds4.length cd4, .slice Ap4 ps4.length cp4, .slice Ac4 cs4.length cc4, .slice Ae4 es4.length ce4] 27)).cell? ⟨w1.heap.size, 7, none⟩ = some (.slice (some ⟨cb, co, none⟩) 1 cc) := HB.out.box.cell 7
  have z8 : (w4.alloc (.cells #[.int .i64 r4, .int .i64 wt4, .int .i64 bk4, .int .i64 cy4, .string key4, .slice Ad4 ds4.length cd4, .slice Ap4 ps4.length cp4, .slice Ac4 cs4.length cc4, .slice Ae4 es4.length ce4] 27)).cell? ⟨w1.heap.size, 8, none⟩ = some (.slice Ae es.length ce) := HB.out.box.cell 8
  go_wp2_with fail
  clear z0 z1 z2 z3 z4 z5 z6 z7 z8
  refine (lRight_any _ ⟨r, wt, bk, cy, key, ds, ps, [⟨nm, n1, n2, 50, .slice xA 2 xc, [0, 1]⟩], es⟩ _ _ _ _ HB.out.mat HSM.out).mono ?_
  rintro e w5 ⟨b, rfl, hbr, hb⟩
  obtain rfl : b = true := hbr.2 HR.out
  have HB := Lib.hid (HB.out.below hb)
  clear hb hbr
  have z0 : w5.cell? ⟨w1.heap.size, 0, none⟩ = some (.int .i64 r) := HB.out.box.cell 0
  have z1 : w5.cell? ⟨w1.heap.size, 1, none⟩ = some (.int .i64 wt) := HB.out.box.cell 1
  have z2 : w5.cell? ⟨w1.heap.size, 2, none⟩ = some (.int .i64 bk) := HB.out.box.cell 2
  have z3 : w5.cell? ⟨w1.heap.size, 3, none⟩ = some (.int .i64 cy) := HB.out.box.cell 3
  have z4 : w5.cell? ⟨w1.heap.size, 4, none⟩ = some (.string key) := HB.out.box.cell 4
  have z5 : w5.cell? ⟨w1.heap.size, 5, none⟩ = some (.slice Ad ds.length cd) := HB.out.box.cell 5
  have z6 : w5.cell? ⟨w1.heap.size, 6, none⟩ = some (.slice Ap ps.length cp) := HB.out.box.cell 6
  have z7 : w5.cell? ⟨w1.heap.size, 7, none⟩ = some (.slice (some ⟨cb, co, none⟩) 1 cc) := HB.out.box.cell 7
  have z8 : w5.cell? ⟨w1.heap.size, 8, none⟩ = some (.slice Ae es.length ce) := HB.out.box.cell 8
  go_wp2_with fail
  clear z0 z1 z2 z3 z4 z5 z6 z7 z8
  have hpr := printM_any w5 ⟨r, wt, bk, cy, key, ds, ps, [⟨nm, n1, n2, 50, .slice xA 2 xc, [0, 1]⟩], es⟩ _ _ _ _ HB.out.mat HSM.out HB.out.tab10
  rw [HTX.out] at hpr
  refine hpr.mono ?_
  rintro e w6 ⟨rfl, hb⟩
  have HB := Lib.hid (HB.out.below hb)
  clear hb hpr
  go_wp2_with fail
  have htx := text_any w6
  rw [← HTB.out] at htx
  refine htx.mono ?_
  rintro e w6' ⟨rfl, rfl⟩
  clear htx
  have z0 : w6.cell? ⟨w1.heap.size, 0, none⟩ = some (.int .i64 r) := HB.out.box.cell 0
  have z1 : w6.cell? ⟨w1.heap.size, 1, none⟩ = some (.int .i64 wt) := HB.out.box.cell 1
  have z2 : w6.cell? ⟨w1.heap.size, 2, none⟩ = some (.int .i64 bk) := HB.out.box.cell 2
  have z3 : w6.cell? ⟨w1.heap.size, 3, none⟩ = some (.int .i64 cy) := HB.out.box.cell 3
  have z4 : w6.cell? ⟨w1.heap.size, 4, none⟩ = some (.string key) := HB.out.box.cell 4
  have z5 : w6.cell? ⟨w1.heap.size, 5, none⟩ = some (.slice Ad ds.length cd) := HB.out.box.cell 5
  have z6 : w6.cell? ⟨w1.heap.size, 6, none⟩ = some (.slice Ap ps.length cp) := HB.out.box.cell 6
  have z7 : w6.cell? ⟨w1.heap.size, 7, none⟩ = some (.slice (some ⟨cb, co, none⟩) 1 cc) := HB.out.box.cell 7
  have z8 : w6.cell? ⟨w1.heap.size, 8, none⟩ = some (.slice Ae es.length ce) := HB.out.box.cell 8
  obtain ⟨y3, y4⟩ := head_cells HB.out.mat
  go_wp2_with fail
  clear z0 z1 z2 z3 z4 z5 z6 z7 z8
  clear y3 y4
  refine (sameInts_any _ [0, 1] [0, 1] _ _ (NumsAt.below (HB.out.mat.2.2.1.2 ⟨nm, n1, n2, 50, .slice xA 2 xc, [0, 1]⟩ (by simp)) ((Below.refl _ _).alloc (Nat.le_refl _) _)) (lit_nums2 w6 0 1) (by decide) (by decide)).mono ?_
  rintro e w7 ⟨b, rfl, hbr, hb⟩
  obtain rfl : b = true := hbr.2 rfl
  have HB := Lib.hid ((HB.out.alloc _).below hb)
  clear hb hbr
  have z0 : w7.cell? ⟨w1.heap.size, 0, none⟩ = some (.int .i64 r) := HB.out.box.cell 0
  have z1 : w7.cell? ⟨w1.heap.size, 1, none⟩ = some (.int .i64 wt) := HB.out.box.cell 1
  have z2 : w7.cell? ⟨w1.heap.size, 2, none⟩ = some (.int .i64 bk) := HB.out.box.cell 2
  have z3 : w7.cell? ⟨w1.heap.size, 3, none⟩ = some (.int .i64 cy) := HB.out.box.cell 3
  have z4 : w7.cell? ⟨w1.heap.size, 4, none⟩ = some (.string key) := HB.out.box.cell 4
  have z5 : w7.cell? ⟨w1.heap.size, 5, none⟩ = some (.slice Ad ds.length cd) := HB.out.box.cell 5
  have z6 : w7.cell? ⟨w1.heap.size, 6, none⟩ = some (.slice Ap ps.length cp) := HB.out.box.cell 6
  have z7 : w7.cell? ⟨w1.heap.size, 7, none⟩ = some (.slice (some ⟨cb, co, none⟩) 1 cc) := HB.out.box.cell 7
  have z8 : w7.cell? ⟨w1.heap.size, 8, none⟩ = some (.slice Ae es.length ce) := HB.out.box.cell 8
  obtain ⟨y3, y4⟩ := head_cells HB.out.mat
  go_wp2_with fail
  clear z0 z1 z2 z3 z4 z5 z6 z7 z8
  clear y3 y4
  refine (lRight_any _ zeroMat _ _ _ _ (mat_zero _) zero_sm).mono ?_
  rintro e w8 ⟨b, rfl, hbr, hb⟩
  obtain rfl : b = false := by
    cases b with
    | false => rfl
    | true => exact absurd (hbr.1 rfl) zero_wrong
  have HB := Lib.hid (HB.out.below hb)
  clear hb hbr
  go_wp2_with fail
  have hpz := printM_any w8 zeroMat _ _ _ _ (mat_zero _) zero_sm HB.out.tab10
  rw [textM_wrong zero_wrong] at hpz
  unfold noW at hpz
  refine hpz.mono ?_
  rintro e w9 ⟨rfl, hb⟩
  have HB := Lib.hid (HB.out.below hb)
  clear hb hpz
  go_wp2_with fail
  go_ret
  exact ⟨rfl, HB.out.old⟩
end Go.Proofs.YtckbdnkonccmiaaDoor
