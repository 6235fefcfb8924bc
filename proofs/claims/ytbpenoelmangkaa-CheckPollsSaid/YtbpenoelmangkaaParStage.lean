/-
  The document's parser on the fixed text: its states, line by line.
-/
import Derived.Test.YtbpenoelmangkaaParLine
namespace Go.Proofs.Ytbpenoelmangkaa
open Go.RowKit
instance allDec {α : Type} (p : Nat → α → Prop) [∀ i x, Decidable (p i x)] (l : List α) : Decidable (All p l) :=
  decidable_of_iff (∀ i, i < l.length → ∀ x, x ∈ l[i]? → p i x) ⟨fun h i x hx => h i (List.getElem?_eq_some_iff.1 hx).1 x hx, fun h i _ x hx => h i x hx⟩
instance uptoDec {α : Type} (p : Nat → α → Prop) [∀ i x, Decidable (p i x)] (l : List α) (k : Nat) : Decidable (Upto p l k) :=
  decidable_of_iff (∀ i, i < k → ∀ x, x ∈ l[i]? → p i x) ⟨fun h i x hi hx => h i hi x hx, fun h i hi x hx => h i x hi hx⟩
instance freshDec {α : Type} (same : α → α → Prop) [∀ x y, Decidable (same x y)] (l : List α) (x : α) (k : Nat) : Decidable (Fresh same l x k) :=
  decidable_of_iff (∀ j, j < k → ∀ y, y ∈ l[j]? → ¬ same y x) ⟨fun h j y hj hy => h j hj y hy, fun h j hj y hy => h j y hj hy⟩
instance (l : List Int) (most size : Int) : Decidable (someP l most size) := by unfold someP; infer_instance
instance (l : List Dev) (i : Nat) (d : Dev) : Decidable (devP l i d) := by unfold devP; infer_instance
instance (l : List Dev) : Decidable (devsP l) := by unfold devsP; infer_instance
instance (l : List Pt) (size : Int) (i : Nat) (p : Pt) : Decidable (ptP l size i p) := by unfold ptP; infer_instance
instance (l : List Pt) (size : Int) : Decidable (ptsP l size) := by unfold ptsP; infer_instance
instance (size : Int) (i : Nat) (c : Cs) : Decidable (csP size i c) := by unfold csP; infer_instance
instance (l : List Cs) (size : Int) : Decidable (cssP l size) := by unfold cssP; infer_instance
instance (l : List Ef) (size many : Int) (i : Nat) (e : Ef) : Decidable (efP l size many i e) := by unfold efP; infer_instance
instance (l : List Ef) (size many : Int) : Decidable (efsP l size many) := by unfold efsP; infer_instance
instance (l : List ByteArray) : Decidable (namesP l) := by unfold namesP; infer_instance
instance (m : Mat) : Decidable (timesP m) := by unfold timesP; infer_instance
instance (m : Mat) : Decidable (RightP m) := by unfold RightP; infer_instance
def smallB (m : Mat) : Bool := decide (m.key.size ≤ 1000) && decide (m.devs.length ≤ 100) && decide (m.pts.length ≤ 100) && decide (m.css.length ≤ 100) && decide (m.efs.length ≤ 100) && m.css.all (fun c => decide (c.pts.length ≤ 100)) && m.efs.all (fun c => decide (c.cs.length ≤ 100)) && m.names.all (fun s => decide (s.size ≤ 100))
theorem MatSmall.of {m : Mat} (h : smallB m = true) : MatSmall m := by
  unfold smallB at h
  simp only [Bool.and_eq_true, decide_eq_true_eq, List.all_eq_true] at h
  obtain ⟨⟨⟨⟨⟨⟨⟨h1, h2⟩, h3⟩, h4⟩, h5⟩, h6⟩, h7⟩, h8⟩ := h
  exact ⟨by omega, by omega, by omega, by omega, by omega, fun c hc => by have := h6 c hc; omega, fun c hc => by have := h7 c hc; omega, fun c hc => by have := h8 c hc; omega⟩
def numOk (s : ByteArray) : Bool := s.data.toList.all (fun c => decide (48 ≤ c.toNat ∧ c.toNat ≤ 57)) && decide (1 ≤ s.size) && decide (s.size ≤ 2) && (decide (s.size = 1) || decide (s.data.toList[0]? ≠ some 48))
theorem NumP.of {s : ByteArray} (h : numOk s = true) : NumP s := by
  unfold numOk at h
  simp only [Bool.and_eq_true, Bool.or_eq_true, decide_eq_true_eq, List.all_eq_true] at h
  exact ⟨h.1.1.1, h.1.1.2, h.1.2, h.2⟩
def zeroM : Mat := ⟨0, 0, 0, 0, ⟨#[]⟩, [], [], [], []⟩
/-- the parser's matrix behind so many lines -/
def stageM (v1 v2 : Value) (k : Nat) : Mat := match k with
  | 0 => zeroM
  | 1 => ⟨1, 3, 5, 4, ⟨#[]⟩, [], [], [], []⟩
  | 2 => ⟨1, 3, 5, 4, ⟨#[48, 49, 50, 51, 52, 53, 54, 55, 56, 57, 97, 98, 99, 100, 101, 102]⟩, [], [], [], []⟩
  | 3 => ⟨1, 3, 5, 4, ⟨#[48, 49, 50, 51, 52, 53, 54, 55, 56, 57, 97, 98, 99, 100, 101, 102]⟩, [⟨⟨#[100]⟩, 0, 1⟩], [], [], []⟩
  | 4 => ⟨1, 3, 5, 4, ⟨#[48, 49, 50, 51, 52, 53, 54, 55, 56, 57, 97, 98, 99, 100, 101, 102]⟩, [⟨⟨#[100]⟩, 0, 1⟩], [⟨⟨#[112]⟩, 0, 0, 1, 2, 0⟩], [], []⟩
  | 5 => ⟨1, 3, 5, 4, ⟨#[48, 49, 50, 51, 52, 53, 54, 55, 56, 57, 97, 98, 99, 100, 101, 102]⟩, [⟨⟨#[100]⟩, 0, 1⟩], [⟨⟨#[112]⟩, 0, 0, 1, 2, 0⟩, ⟨⟨#[113]⟩, 0, 1, 1, 0, 0⟩], [], []⟩
  | 6 => ⟨1, 3, 5, 4, ⟨#[48, 49, 50, 51, 52, 53, 54, 55, 56, 57, 97, 98, 99, 100, 101, 102]⟩, [⟨⟨#[100]⟩, 0, 1⟩], [⟨⟨#[112]⟩, 0, 0, 1, 2, 0⟩, ⟨⟨#[113]⟩, 0, 1, 1, 0, 0⟩], [⟨⟨#[99]⟩, 1, 1, 50, v1, [0, 1]⟩], []⟩
  | _ => ⟨1, 3, 5, 4, ⟨#[48, 49, 50, 51, 52, 53, 54, 55, 56, 57, 97, 98, 99, 100, 101, 102]⟩, [⟨⟨#[100]⟩, 0, 1⟩], [⟨⟨#[112]⟩, 0, 0, 1, 2, 0⟩, ⟨⟨#[113]⟩, 0, 1, 1, 0, 0⟩], [⟨⟨#[99]⟩, 1, 1, 50, v1, [0, 1]⟩], [⟨⟨#[101]⟩, 0, 3, 0, v2, [0]⟩]⟩
def Stage (W : World) (g k : Nat) (w : World) : Prop := ∃ v1 v2 vd vp vc ve, PS W g (stageM v1 v2 k) (decide (1 ≤ k)) (decide (2 ≤ k)) vd vp vc ve w
def StageEnds (W : World) (g k : Nat) (e : Ending) (w' : World) : Prop := e = .returned (.tuple #[]) ∧ Stage W g k w'
theorem stage_right1 (v1 v2 : Value) : RightP { stageM v1 v2 1 with key := ⟨#[48, 48, 48, 48, 48, 48, 48, 48, 48, 48, 48, 48, 48, 48, 48, 48]⟩ } := of_decide_eq_true (by kernel_rfl)
theorem stage_small1 (v1 v2 : Value) : MatSmall { stageM v1 v2 1 with key := ⟨#[48, 48, 48, 48, 48, 48, 48, 48, 48, 48, 48, 48, 48, 48, 48, 48]⟩ } := MatSmall.of (by kernel_rfl)
theorem stage_right2 (v1 v2 : Value) : RightP (stageM v1 v2 2) := of_decide_eq_true (by kernel_rfl)
theorem stage_small2 (v1 v2 : Value) : MatSmall (stageM v1 v2 2) := MatSmall.of (by kernel_rfl)
theorem stage_right3 (v1 v2 : Value) : RightP (stageM v1 v2 3) := of_decide_eq_true (by kernel_rfl)
theorem stage_small3 (v1 v2 : Value) : MatSmall (stageM v1 v2 3) := MatSmall.of (by kernel_rfl)
theorem stage_right4 (v1 v2 : Value) : RightP (stageM v1 v2 4) := of_decide_eq_true (by kernel_rfl)
theorem stage_small4 (v1 v2 : Value) : MatSmall (stageM v1 v2 4) := MatSmall.of (by kernel_rfl)
theorem stage_right5 (v1 v2 : Value) : RightP (stageM v1 v2 5) := of_decide_eq_true (by kernel_rfl)
theorem stage_small5 (v1 v2 : Value) : MatSmall (stageM v1 v2 5) := MatSmall.of (by kernel_rfl)
theorem stage_right6 (v1 v2 : Value) : RightP (stageM v1 v2 6) := of_decide_eq_true (by kernel_rfl)
theorem stage_small6 (v1 v2 : Value) : MatSmall (stageM v1 v2 6) := MatSmall.of (by kernel_rfl)
theorem stage_right7 (v1 v2 : Value) : RightP (stageM v1 v2 7) := of_decide_eq_true (by kernel_rfl)
theorem stage_small7 (v1 v2 : Value) : MatSmall (stageM v1 v2 7) := MatSmall.of (by kernel_rfl)
end Go.Proofs.Ytbpenoelmangkaa
