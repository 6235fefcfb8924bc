/-
  The document's parser on the fixed text, walked.
-/
import Derived.Test.YtbpenoelmangkaaParStage
namespace Go.Proofs.Ytbpenoelmangkaa
open Go.RowKit
theorem not_mem_of {s : ByteArray} {l : List ByteArray} (h : l.all (fun x => decide (¬ x = s)) = true) : ¬ s ∈ l := by
  rw [List.all_eq_true] at h
  intro hs
  have := h s hs
  simp at this
theorem two_at {p q : ByteArray} {P : Nat → ByteArray → Prop} (h0 : P 0 p) (h1 : P 1 q) : ∀ (j : Nat) (s : ByteArray), [p, q][j]? = some s → P j s := by
  intro j s h
  match j, h with
  | 0, h => simp only [List.getElem?_cons_zero, Option.some.injEq] at h; subst h; exact h0
  | 1, h => simp only [List.getElem?_cons_succ, List.getElem?_cons_zero, Option.some.injEq] at h; subst h; exact h1
  | j + 2, h => simp at h
theorem one_at' {p : ByteArray} {P : Nat → ByteArray → Prop} (h0 : P 0 p) : ∀ (j : Nat) (s : ByteArray), [p][j]? = some s → P j s := by
  intro j s h
  match j, h with
  | 0, h => simp only [List.getElem?_cons_zero, Option.some.injEq] at h; subst h; exact h0
  | j + 1, h => simp at h
set_option maxHeartbeats 4000000 in
set_option maxRecDepth 100000 in
theorem stage_line0 (W : World) (g : Nat) (w : World) (h : Stage W g 0 w) (vw : Value) (hw : StrsAt W [⟨#[119, 97, 116, 99, 104]⟩, ⟨#[49]⟩, ⟨#[51]⟩, ⟨#[53]⟩, ⟨#[52]⟩] vw) :
    Calls Try.prog 42 #[.pointer (some ⟨g, 0, none⟩), vw] w (StageEnds W g 1) := by
  obtain ⟨v1, v2, vd, vp, vc, ve, hp⟩ := h
  refine (line_watch W g (stageM v1 v2 0) vd vp vc ve w hp vw ⟨#[119, 97, 116, 99, 104]⟩ rfl ⟨#[49]⟩ ⟨#[51]⟩ ⟨#[53]⟩ ⟨#[52]⟩ hw (NumP.of (by decide +kernel)) (NumP.of (by decide +kernel)) (NumP.of (by decide +kernel)) (NumP.of (by decide +kernel)) (stageM v1 v2 1) { stageM v1 v2 1 with key := ⟨#[48, 48, 48, 48, 48, 48, 48, 48, 48, 48, 48, 48, 48, 48, 48, 48]⟩ } (by kernel_rfl) (by kernel_rfl) (stage_small1 v1 v2) (stage_right1 v1 v2)).mono ?_
  rintro e w' ⟨vd', vp', vc', ve', rfl, hq⟩
  exact ⟨rfl, v1, v2, vd', vp', vc', ve', hq⟩
set_option maxHeartbeats 4000000 in
set_option maxRecDepth 100000 in
theorem stage_line1 (W : World) (g : Nat) (w : World) (h : Stage W g 1 w) (vw : Value) (hw : StrsAt W [⟨#[107, 101, 121]⟩, ⟨#[48, 49, 50, 51, 52, 53, 54, 55, 56, 57, 97, 98, 99, 100, 101, 102]⟩] vw) :
    Calls Try.prog 42 #[.pointer (some ⟨g, 0, none⟩), vw] w (StageEnds W g 2) := by
  obtain ⟨v1, v2, vd, vp, vc, ve, hp⟩ := h
  refine (line_key W g (stageM v1 v2 1) vd vp vc ve w hp vw ⟨#[107, 101, 121]⟩ rfl ⟨#[48, 49, 50, 51, 52, 53, 54, 55, 56, 57, 97, 98, 99, 100, 101, 102]⟩ hw (stageM v1 v2 2) (stageM v1 v2 2) (by kernel_rfl) (by kernel_rfl) (stage_small2 v1 v2) (stage_right2 v1 v2)).mono ?_
  rintro e w' ⟨vd', vp', vc', ve', rfl, hq⟩
  exact ⟨rfl, v1, v2, vd', vp', vc', ve', hq⟩
set_option maxHeartbeats 4000000 in
set_option maxRecDepth 100000 in
theorem stage_line2 (W : World) (g : Nat) (w : World) (h : Stage W g 2 w) (vw : Value) (hw : StrsAt W [⟨#[100, 101, 118, 105, 99, 101]⟩, ⟨#[100]⟩, ⟨#[48]⟩, ⟨#[49]⟩] vw) :
    Calls Try.prog 42 #[.pointer (some ⟨g, 0, none⟩), vw] w (StageEnds W g 3) := by
  obtain ⟨v1, v2, vd, vp, vc, ve, hp⟩ := h
  have e0 : ((⟨#[100, 101, 118, 105, 99, 101]⟩ : ByteArray).toList == [119, 97, 116, 99, 104]) = false := by rw [ByteArray.toList_eq]; decide
  have e1 : ((⟨#[100, 101, 118, 105, 99, 101]⟩ : ByteArray).toList == [107, 101, 121]) = false := by rw [ByteArray.toList_eq]; decide
  have e2 : ((⟨#[100, 101, 118, 105, 99, 101]⟩ : ByteArray).toList == [100, 101, 118, 105, 99, 101]) = true := by rw [ByteArray.toList_eq]; decide
  refine (line_thing W g (stageM v1 v2 2) vd vp vc ve w hp vw ⟨#[100, 101, 118, 105, 99, 101]⟩ [⟨#[100, 101, 118, 105, 99, 101]⟩, ⟨#[100]⟩, ⟨#[48]⟩, ⟨#[49]⟩] 4 rfl (by decide) rfl e0 e1 hw (fun w => many_device w _ e0 e1 e2) (fun _ => stageM v1 v2 3) ((thing_device W g (stageM v1 v2 2) true true vd vp vc ve w hp (of_decide_eq_true (by kernel_rfl)) vw ⟨#[100, 101, 118, 105, 99, 101]⟩ rfl ⟨#[100]⟩ ⟨#[48]⟩ ⟨#[49]⟩ hw (NumP.of (by decide +kernel)) (NumP.of (by decide +kernel)) (not_mem_of (by kernel_rfl)) (stageM v1 v2 3) (by kernel_rfl)).mono (fun e w' h => ⟨undef, h⟩)) (fun v => stage_small3 _ _) (fun v => stage_right3 _ _)).mono ?_
  rintro e w' ⟨v, vd', vp', vc', ve', rfl, hq⟩
  exact ⟨rfl, v1, v2, vd', vp', vc', ve', hq⟩
set_option maxHeartbeats 4000000 in
set_option maxRecDepth 100000 in
theorem stage_line3 (W : World) (g : Nat) (w : World) (h : Stage W g 3 w) (vw : Value) (hw : StrsAt W [⟨#[112, 111, 105, 110, 116]⟩, ⟨#[112]⟩, ⟨#[100]⟩, ⟨#[48]⟩, ⟨#[49]⟩, ⟨#[50]⟩, ⟨#[48]⟩] vw) :
    Calls Try.prog 42 #[.pointer (some ⟨g, 0, none⟩), vw] w (StageEnds W g 4) := by
  obtain ⟨v1, v2, vd, vp, vc, ve, hp⟩ := h
  have e0 : ((⟨#[112, 111, 105, 110, 116]⟩ : ByteArray).toList == [119, 97, 116, 99, 104]) = false := by rw [ByteArray.toList_eq]; decide
  have e1 : ((⟨#[112, 111, 105, 110, 116]⟩ : ByteArray).toList == [107, 101, 121]) = false := by rw [ByteArray.toList_eq]; decide
  have e2 : ((⟨#[112, 111, 105, 110, 116]⟩ : ByteArray).toList == [100, 101, 118, 105, 99, 101]) = false := by rw [ByteArray.toList_eq]; decide
  have e3 : ((⟨#[112, 111, 105, 110, 116]⟩ : ByteArray).toList == [112, 111, 105, 110, 116]) = true := by rw [ByteArray.toList_eq]; decide
  refine (line_thing W g (stageM v1 v2 3) vd vp vc ve w hp vw ⟨#[112, 111, 105, 110, 116]⟩ [⟨#[112, 111, 105, 110, 116]⟩, ⟨#[112]⟩, ⟨#[100]⟩, ⟨#[48]⟩, ⟨#[49]⟩, ⟨#[50]⟩, ⟨#[48]⟩] 7 rfl (by decide) rfl e0 e1 hw (fun w => many_point w _ e0 e1 e2 e3) (fun _ => stageM v1 v2 4) ((thing_point W g (stageM v1 v2 3) true true vd vp vc ve w hp (of_decide_eq_true (by kernel_rfl)) vw ⟨#[112, 111, 105, 110, 116]⟩ rfl ⟨#[112]⟩ ⟨#[100]⟩ ⟨#[48]⟩ ⟨#[49]⟩ ⟨#[50]⟩ ⟨#[48]⟩ 0 hw (NumP.of (by decide +kernel)) (NumP.of (by decide +kernel)) (NumP.of (by decide +kernel)) (NumP.of (by decide +kernel)) (not_mem_of (by kernel_rfl)) (by kernel_rfl) (of_decide_eq_true (by kernel_rfl)) (stageM v1 v2 4) (by kernel_rfl)).mono (fun e w' h => ⟨undef, h⟩)) (fun v => stage_small4 _ _) (fun v => stage_right4 _ _)).mono ?_
  rintro e w' ⟨v, vd', vp', vc', ve', rfl, hq⟩
  exact ⟨rfl, v1, v2, vd', vp', vc', ve', hq⟩
set_option maxHeartbeats 4000000 in
set_option maxRecDepth 100000 in
theorem stage_line4 (W : World) (g : Nat) (w : World) (h : Stage W g 4 w) (vw : Value) (hw : StrsAt W [⟨#[112, 111, 105, 110, 116]⟩, ⟨#[113]⟩, ⟨#[100]⟩, ⟨#[49]⟩, ⟨#[49]⟩, ⟨#[48]⟩, ⟨#[48]⟩] vw) :
    Calls Try.prog 42 #[.pointer (some ⟨g, 0, none⟩), vw] w (StageEnds W g 5) := by
  obtain ⟨v1, v2, vd, vp, vc, ve, hp⟩ := h
  have e0 : ((⟨#[112, 111, 105, 110, 116]⟩ : ByteArray).toList == [119, 97, 116, 99, 104]) = false := by rw [ByteArray.toList_eq]; decide
  have e1 : ((⟨#[112, 111, 105, 110, 116]⟩ : ByteArray).toList == [107, 101, 121]) = false := by rw [ByteArray.toList_eq]; decide
  have e2 : ((⟨#[112, 111, 105, 110, 116]⟩ : ByteArray).toList == [100, 101, 118, 105, 99, 101]) = false := by rw [ByteArray.toList_eq]; decide
  have e3 : ((⟨#[112, 111, 105, 110, 116]⟩ : ByteArray).toList == [112, 111, 105, 110, 116]) = true := by rw [ByteArray.toList_eq]; decide
  refine (line_thing W g (stageM v1 v2 4) vd vp vc ve w hp vw ⟨#[112, 111, 105, 110, 116]⟩ [⟨#[112, 111, 105, 110, 116]⟩, ⟨#[113]⟩, ⟨#[100]⟩, ⟨#[49]⟩, ⟨#[49]⟩, ⟨#[48]⟩, ⟨#[48]⟩] 7 rfl (by decide) rfl e0 e1 hw (fun w => many_point w _ e0 e1 e2 e3) (fun _ => stageM v1 v2 5) ((thing_point W g (stageM v1 v2 4) true true vd vp vc ve w hp (of_decide_eq_true (by kernel_rfl)) vw ⟨#[112, 111, 105, 110, 116]⟩ rfl ⟨#[113]⟩ ⟨#[100]⟩ ⟨#[49]⟩ ⟨#[49]⟩ ⟨#[48]⟩ ⟨#[48]⟩ 0 hw (NumP.of (by decide +kernel)) (NumP.of (by decide +kernel)) (NumP.of (by decide +kernel)) (NumP.of (by decide +kernel)) (not_mem_of (by kernel_rfl)) (by kernel_rfl) (of_decide_eq_true (by kernel_rfl)) (stageM v1 v2 5) (by kernel_rfl)).mono (fun e w' h => ⟨undef, h⟩)) (fun v => stage_small5 _ _) (fun v => stage_right5 _ _)).mono ?_
  rintro e w' ⟨v, vd', vp', vc', ve', rfl, hq⟩
  exact ⟨rfl, v1, v2, vd', vp', vc', ve', hq⟩
set_option maxHeartbeats 4000000 in
set_option maxRecDepth 100000 in
theorem stage_line5 (W : World) (g : Nat) (w : World) (h : Stage W g 5 w) (vw : Value) (hw : StrsAt W [⟨#[99, 97, 117, 115, 101]⟩, ⟨#[99]⟩, ⟨#[49]⟩, ⟨#[97]⟩, ⟨#[53, 48]⟩, ⟨#[112]⟩, ⟨#[113]⟩] vw) :
    Calls Try.prog 42 #[.pointer (some ⟨g, 0, none⟩), vw] w (StageEnds W g 6) := by
  obtain ⟨v1, v2, vd, vp, vc, ve, hp⟩ := h
  have e0 : ((⟨#[99, 97, 117, 115, 101]⟩ : ByteArray).toList == [119, 97, 116, 99, 104]) = false := by rw [ByteArray.toList_eq]; decide
  have e1 : ((⟨#[99, 97, 117, 115, 101]⟩ : ByteArray).toList == [107, 101, 121]) = false := by rw [ByteArray.toList_eq]; decide
  have e2 : ((⟨#[99, 97, 117, 115, 101]⟩ : ByteArray).toList == [100, 101, 118, 105, 99, 101]) = false := by rw [ByteArray.toList_eq]; decide
  have e3 : ((⟨#[99, 97, 117, 115, 101]⟩ : ByteArray).toList == [112, 111, 105, 110, 116]) = false := by rw [ByteArray.toList_eq]; decide
  have e4 : ((⟨#[99, 97, 117, 115, 101]⟩ : ByteArray).toList == [99, 97, 117, 115, 101]) = true := by rw [ByteArray.toList_eq]; decide
  refine (line_thing W g (stageM v1 v2 5) vd vp vc ve w hp vw ⟨#[99, 97, 117, 115, 101]⟩ [⟨#[99, 97, 117, 115, 101]⟩, ⟨#[99]⟩, ⟨#[49]⟩, ⟨#[97]⟩, ⟨#[53, 48]⟩, ⟨#[112]⟩, ⟨#[113]⟩] 7 rfl (by decide) rfl e0 e1 hw (fun w => many_cause w _ e0 e1 e2 e3 e4) (fun v => stageM v v2 6) (thing_cause W g (stageM v1 v2 5) true true vd vp vc ve w hp (of_decide_eq_true (by kernel_rfl)) vw ⟨#[99, 97, 117, 115, 101]⟩ rfl ⟨#[99]⟩ ⟨#[49]⟩ ⟨#[97]⟩ ⟨#[53, 48]⟩ ⟨#[112]⟩ ⟨#[113]⟩ 1 [0, 1] hw (NumP.of (by decide +kernel)) (NumP.of (by decide +kernel)) (by rfl) (of_decide_eq_true (by kernel_rfl)) (by decide) (not_mem_of (by kernel_rfl)) (by rfl) (two_at ⟨0, rfl, rfl, upto_zero _ _⟩ ⟨1, rfl, rfl, (of_decide_eq_true (by kernel_rfl))⟩) (fun v => stageM v v2 6) (fun v => by kernel_rfl)) (fun v => stage_small6 _ _) (fun v => stage_right6 _ _)).mono ?_
  rintro e w' ⟨v, vd', vp', vc', ve', rfl, hq⟩
  exact ⟨rfl, v, v2, vd', vp', vc', ve', hq⟩
set_option maxHeartbeats 4000000 in
set_option maxRecDepth 100000 in
theorem stage_line6 (W : World) (g : Nat) (w : World) (h : Stage W g 6 w) (vw : Value) (hw : StrsAt W [⟨#[101, 102, 102, 101, 99, 116]⟩, ⟨#[101]⟩, ⟨#[100]⟩, ⟨#[51]⟩, ⟨#[48]⟩, ⟨#[99]⟩] vw) :
    Calls Try.prog 42 #[.pointer (some ⟨g, 0, none⟩), vw] w (StageEnds W g 7) := by
  obtain ⟨v1, v2, vd, vp, vc, ve, hp⟩ := h
  have e0 : ((⟨#[101, 102, 102, 101, 99, 116]⟩ : ByteArray).toList == [119, 97, 116, 99, 104]) = false := by rw [ByteArray.toList_eq]; decide
  have e1 : ((⟨#[101, 102, 102, 101, 99, 116]⟩ : ByteArray).toList == [107, 101, 121]) = false := by rw [ByteArray.toList_eq]; decide
  have e2 : ((⟨#[101, 102, 102, 101, 99, 116]⟩ : ByteArray).toList == [100, 101, 118, 105, 99, 101]) = false := by rw [ByteArray.toList_eq]; decide
  have e3 : ((⟨#[101, 102, 102, 101, 99, 116]⟩ : ByteArray).toList == [112, 111, 105, 110, 116]) = false := by rw [ByteArray.toList_eq]; decide
  have e4 : ((⟨#[101, 102, 102, 101, 99, 116]⟩ : ByteArray).toList == [99, 97, 117, 115, 101]) = false := by rw [ByteArray.toList_eq]; decide
  have e5 : ((⟨#[101, 102, 102, 101, 99, 116]⟩ : ByteArray).toList == [101, 102, 102, 101, 99, 116]) = true := by rw [ByteArray.toList_eq]; decide
  refine (line_thing W g (stageM v1 v2 6) vd vp vc ve w hp vw ⟨#[101, 102, 102, 101, 99, 116]⟩ [⟨#[101, 102, 102, 101, 99, 116]⟩, ⟨#[101]⟩, ⟨#[100]⟩, ⟨#[51]⟩, ⟨#[48]⟩, ⟨#[99]⟩] 6 rfl (by decide) rfl e0 e1 hw (fun w => many_effect w _ e0 e1 e2 e3 e4 e5) (fun v => stageM v1 v 7) (thing_effect W g (stageM v1 v2 6) true true vd vp vc ve w hp (of_decide_eq_true (by kernel_rfl)) vw ⟨#[101, 102, 102, 101, 99, 116]⟩ rfl ⟨#[101]⟩ ⟨#[100]⟩ ⟨#[51]⟩ ⟨#[48]⟩ ⟨#[99]⟩ 0 [0] hw (NumP.of (by decide +kernel)) (NumP.of (by decide +kernel)) (not_mem_of (by kernel_rfl)) (by kernel_rfl) (of_decide_eq_true (by kernel_rfl)) (by rfl) (one_at' ⟨0, rfl, rfl, upto_zero _ _⟩) (fun v => stageM v1 v 7) (fun v => by kernel_rfl)) (fun v => stage_small7 _ _) (fun v => stage_right7 _ _)).mono ?_
  rintro e w' ⟨v, vd', vp', vc', ve', rfl, hq⟩
  exact ⟨rfl, v1, v, vd', vp', vc', ve', hq⟩
theorem stage_line (W : World) (g : Nat) (w : World) (k : Nat) (no : Int) (ws : List ByteArray) (hws : textL[k]? = some (no, ws)) (h : Stage W g k w) (vw : Value) (hw : StrsAt W ws vw) :
    Calls Try.prog 42 #[.pointer (some ⟨g, 0, none⟩), vw] w (StageEnds W g (k + 1)) := by
  match k, hws, h with
  | 0, hws, h =>
    simp only [textL, List.getElem?_cons_succ, List.getElem?_cons_zero, Option.some.injEq, Prod.mk.injEq] at hws
    obtain ⟨-, rfl⟩ := hws
    exact stage_line0 W g w h vw hw
  | 1, hws, h =>
    simp only [textL, List.getElem?_cons_succ, List.getElem?_cons_zero, Option.some.injEq, Prod.mk.injEq] at hws
    obtain ⟨-, rfl⟩ := hws
    exact stage_line1 W g w h vw hw
  | 2, hws, h =>
    simp only [textL, List.getElem?_cons_succ, List.getElem?_cons_zero, Option.some.injEq, Prod.mk.injEq] at hws
    obtain ⟨-, rfl⟩ := hws
    exact stage_line2 W g w h vw hw
  | 3, hws, h =>
    simp only [textL, List.getElem?_cons_succ, List.getElem?_cons_zero, Option.some.injEq, Prod.mk.injEq] at hws
    obtain ⟨-, rfl⟩ := hws
    exact stage_line3 W g w h vw hw
  | 4, hws, h =>
    simp only [textL, List.getElem?_cons_succ, List.getElem?_cons_zero, Option.some.injEq, Prod.mk.injEq] at hws
    obtain ⟨-, rfl⟩ := hws
    exact stage_line4 W g w h vw hw
  | 5, hws, h =>
    simp only [textL, List.getElem?_cons_succ, List.getElem?_cons_zero, Option.some.injEq, Prod.mk.injEq] at hws
    obtain ⟨-, rfl⟩ := hws
    exact stage_line5 W g w h vw hw
  | 6, hws, h =>
    simp only [textL, List.getElem?_cons_succ, List.getElem?_cons_zero, Option.some.injEq, Prod.mk.injEq] at hws
    obtain ⟨-, rfl⟩ := hws
    exact stage_line6 W g w h vw hw
  | k + 7, hws, h => simp [textL] at hws
end Go.Proofs.Ytbpenoelmangkaa
