/-
  CheckPolls: each point of a right matrix is within the poll of its device, whose first and last places are points; each device has one poll at most. No condition.
-/
import Derived.Test.YtbpenoelmangkaaLawPolls
namespace Go.Proofs.Ytbpenoelmangkaa
open Go.RowKit Go.ChangeShapes Go.WideShapes
set_option maxRecDepth 100000 in
theorem checkPolls_lifted (os : Os) (started : os.Started) (H : Type) (enc : TypeId × Value → H) :
    ReturnsInHanded {} Try.checked os 3 .any (Rows.checkPollsSpec.pre6 enc Try.prog Try.f3 Rows.checkPollsRow.domain false) (Rows.checkPollsSpec.post enc Try.prog Try.f3 false true false false) := by
  refine LawFrame.handed (C := Try.checked) (tb := 4) (by kernel_rfl) (by kernel_rfl) (by kernel_rfl) Try.underlying4 rfl (fun ds hd => ?_) own started (by kernel_rfl) Try.func3
    (ChangeSpec.witness6 (enc := enc) (C := Try.checked) false ⟨#[], #[.agg #[.int .i64 0, .int .i64 0, .int .i64 0, .int .i64 0, .string (ByteArray.mk #[]), .slice none 0 0, .slice none 0 0, .slice none 0 0, .slice none 0 0]], []⟩ 8 (by kernel_rfl) (by kernel_rfl) (by kernel_rfl) (by kernel_rfl)) ?_
  · rw [Try.params3] at hd
    match ds, hd with
    | [d1], _ => rfl
  · intro W args ds before base hval hA hlt hsz
    rw [Try.params3] at hval hA
    obtain ⟨v0, vs0, d0, ds0, p0, q0, hargs, rfl, rfl, h0, r0⟩ := trodAll_cons hA
    obtain ⟨rfl, rfl, rfl⟩ := trodAll_nil r0
    obtain rfl : args = #[v0] := by cases args; simp_all
    obtain ⟨m, vd, vp, vc, ve, rfl, hmat, hsm⟩ := open_matrix (hval 0 27 v0 rfl rfl) h0 (LawFrame.Sz.arg hsz (j := 0) rfl rfl)
    exact checkPolls_any W m vd vp vc ve hmat hsm
theorem checkPolls_holds : Rows.CheckPollsSaid :=
  OpenClaim.holds_of_wide 3 Try.f3 rfl rfl rfl rfl rfl rfl rfl ⟨rfl, rfl, rfl, rfl, rfl⟩ rfl rfl rfl rfl rfl (by kernel_rfl) Try.func3 (by kernel_rfl)
    (of_decide_eq_true (by kernel_rfl)) (by unfold Func.isWrapper; first | (rw [if_pos (by decide +kernel)]; kernel_rfl) | (rw [if_neg (by decide +kernel)]; exact ⟨rfl, rfl⟩))
    (fun os started H enc _ => checkPolls_lifted os started H enc)
#print axioms checkPolls_holds
end Go.Proofs.Ytbpenoelmangkaa
