/-
  CheckNames: other names, keys and lamps change nothing of what a matrix comes to. No condition.
-/
import Derived.Test.YtbpenoelmangkaaLawNames
namespace Go.Proofs.Ytbpenoelmangkaa
open Go.RowKit Go.ChangeShapes Go.WideShapes
set_option maxRecDepth 100000 in
theorem checkNames_lifted (os : Os) (started : os.Started) (H : Type) (enc : TypeId × Value → H) :
    ReturnsInHanded {} Try.checked os 6 .any (Rows.checkNamesSpec.pre6 enc Try.prog Try.f6 Rows.checkNamesRow.domain false) (Rows.checkNamesSpec.post enc Try.prog Try.f6 false true false false) := by
  refine LawFrame.handed (C := Try.checked) (tb := 4) (by kernel_rfl) (by kernel_rfl) (by kernel_rfl) Try.underlying4 rfl (fun ds hd => ?_) own started (by kernel_rfl) Try.func6
    (ChangeSpec.witness6 (enc := enc) (C := Try.checked) false ⟨#[], #[.agg #[.int .i64 0, .int .i64 0, .int .i64 0, .int .i64 0, .string (ByteArray.mk #[]), .slice none 0 0, .slice none 0 0, .slice none 0 0, .slice none 0 0], .int .u8 0], []⟩ 8 (by kernel_rfl) (by kernel_rfl) (by kernel_rfl) (by kernel_rfl)) ?_
  · rw [Try.params6] at hd
    match ds, hd with
    | [d1, d2], _ => rfl
  · intro W args ds before base hval hA hlt hsz
    rw [Try.params6] at hval hA
    obtain ⟨v0, vs0, d0, ds0, p0, q0, hargs, rfl, rfl, h0, r0⟩ := trodAll_cons hA
    obtain ⟨v1, vs1, d1, ds1, p1, q1, rfl, rfl, rfl, h1, r1⟩ := trodAll_cons r0
    obtain ⟨rfl, rfl, rfl⟩ := trodAll_nil r1
    obtain rfl : args = #[v0, v1] := by cases args; simp_all
    obtain ⟨m, vd, vp, vc, ve, rfl, hmat, hsm⟩ := open_matrix (hval 0 27 v0 rfl rfl) h0 (LawFrame.Sz.arg hsz (j := 0) rfl rfl)
    obtain ⟨k, z, rfl, hk⟩ : ∃ (k : Nat) (z : Unit), v1 = .int .u8 (k : Int) ∧ k < 256 := by
      obtain ⟨z, rfl⟩ := okWide_int Try.underlying5 (hval 1 5 v1 rfl rfl)
      obtain ⟨fuel, hf⟩ := h1
      obtain ⟨z', hz, _, hw⟩ := DataW.trod_int Try.underlying5 hf
      have e : z = z' := by simpa [Value.cells] using hz
      obtain ⟨b0, b1⟩ := bounds_u8 hw
      rw [← e] at b0 b1
      exact ⟨z.toNat, (), by rw [show ((z.toNat : Nat) : Int) = z by omega], by omega⟩
    exact checkNames_any W m vd vp vc ve k hk hmat hsm
theorem checkNames_holds : Rows.CheckNamesSaid :=
  OpenClaim.holds_of_wide 6 Try.f6 rfl rfl rfl rfl rfl rfl rfl ⟨rfl, rfl, rfl, rfl, rfl⟩ rfl rfl rfl rfl rfl (by kernel_rfl) Try.func6 (by kernel_rfl)
    (of_decide_eq_true (by kernel_rfl)) (by unfold Func.isWrapper; first | (rw [if_pos (by decide +kernel)]; kernel_rfl) | (rw [if_neg (by decide +kernel)]; exact ⟨rfl, rfl⟩))
    (fun os started H enc _ => checkNames_lifted os started H enc)
#print axioms checkNames_holds
end Go.Proofs.Ytbpenoelmangkaa
