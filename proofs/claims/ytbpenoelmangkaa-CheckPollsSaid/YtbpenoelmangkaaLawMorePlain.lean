/-
  CheckMore, walked.
-/
import Derived.Test.YtbpenoelmangkaaArgMat
namespace Go.Proofs.Ytbpenoelmangkaa
open Go.RowKit
theorem onMax_ge (ps : List Pt) : ∀ (l : List Int) (a : Int), a ≤ l.foldl (fun a i => max a (onOf ps i)) a
  | [], a => Int.le_refl _
  | x :: l, a => Int.le_trans (Int.le_max_left _ _) (onMax_ge ps l _)
theorem onMax_mem' (ps : List Pt) {i : Int} : ∀ (l : List Int) (a : Int), i ∈ l → onOf ps i ≤ l.foldl (fun a i => max a (onOf ps i)) a
  | [], a, h => by cases h
  | x :: l, a, h => by
    rcases List.mem_cons.1 h with rfl | h
    · exact Int.le_trans (Int.le_max_right _ _) (onMax_ge ps l _)
    · exact onMax_mem' ps l _ h
theorem onMax_mem {ps : List Pt} {l : List Int} {i : Int} (h : i ∈ l) : onOf ps i ≤ onMax ps l := onMax_mem' ps l 0 h
theorem onMax_pos (ps : List Pt) (l : List Int) : 0 ≤ onMax ps l := onMax_ge ps l 0
theorem onMax_le (ps : List Pt) (hp : ∀ i, onOf ps i ≤ 1000) : ∀ (l : List Int) (a : Int), a ≤ 1000 → l.foldl (fun a i => max a (onOf ps i)) a ≤ 1000
  | [], a, h => h
  | x :: l, a, h => onMax_le ps hp l _ (Int.max_le.2 ⟨h, hp x⟩)
/-- waits longer, or tries oftener -/
def Mat.waits (m : Mat) : Mat := { m with wait := min (m.wait + 1) 1000 }
def Mat.tries (m : Mat) : Mat := { m with retries := min (m.retries + 1) 7 }
theorem waits_right {m : Mat} (h : RightP m) : RightP m.waits := by
  obtain ⟨⟨h1, ⟨h2, h3⟩, h4⟩, hr⟩ := h
  exact ⟨⟨h1, ⟨by show 1 ≤ min (m.wait + 1) 1000; omega, by show min (m.wait + 1) 1000 ≤ 1000; omega⟩, h4⟩, hr⟩
theorem tries_right {m : Mat} (h : RightP m) : RightP m.tries := by
  obtain ⟨⟨⟨h1, h2⟩, h4⟩, hr⟩ := h
  exact ⟨⟨⟨by show 0 ≤ min (m.retries + 1) 7; omega, by show min (m.retries + 1) 7 ≤ 7; omega⟩, h4⟩, hr⟩
theorem bound_mono {m m' : Mat} {x : Cs} (hj : m'.jobs = m.jobs) (hj0 : 0 ≤ m.jobs) (he : m.each ≤ m'.each) (h1 : m'.back = m.back) (h2 : m'.cycle = m.cycle) (h3 : m'.pts = m.pts) : boundAt m x ≤ boundAt m' x := by
  have h4 : 3 * m.jobs * m.each ≤ 3 * m.jobs * m'.each := Int.mul_le_mul_of_nonneg_left he (by omega)
  unfold boundAt
  rw [hj, h1, h2, h3]
  omega
theorem waits_bound {m : Mat} (h : RightP m) (x : Cs) : boundAt m x ≤ boundAt m.waits x := by
  refine bound_mono rfl (by have := jobs_in h; omega) ?_ rfl rfl rfl
  obtain ⟨⟨h1, h2⟩, ⟨h3, h4⟩, -⟩ := h.1
  have h5 : (m.retries + 1) * m.wait ≤ (m.retries + 1) * min (m.wait + 1) 1000 := Int.mul_le_mul_of_nonneg_left (by omega) (by omega)
  unfold Mat.each Mat.waits
  simp only
  omega
theorem tries_bound {m : Mat} (h : RightP m) (x : Cs) : boundAt m x ≤ boundAt m.tries x := by
  refine bound_mono rfl (by have := jobs_in h; omega) ?_ rfl rfl rfl
  obtain ⟨⟨h1, h2⟩, ⟨h3, h4⟩, -⟩ := h.1
  have h5 : (m.retries + 1) * m.wait ≤ (min (m.retries + 1) 7 + 1) * m.wait := Int.mul_le_mul_of_nonneg_right (by omega) (by omega)
  unfold Mat.each Mat.tries
  simp only
  omega
end Go.Proofs.Ytbpenoelmangkaa
