/-
  MatrixNames: a right matrix with a name twice, a place that is not there, or more votes than points, is not right. No condition beyond the card's own: the listed tables of Go's library start as its text lays them.
-/
import Derived.Test.YtckbdnkonccmiaaDoorLawMN
import Derived.Test.YtckbdnkonccmiaaDoorArgMat
namespace Go.Proofs.YtckbdnkonccmiaaDoor
open Go.RowKit Go.ChangeShapes Go.WideShapes
set_option maxRecDepth 100000 in
theorem matrixNames_lifted (os : Os) (started : os.Started) (H : Type) (enc : TypeId × Value → H) :
    ReturnsInHanded {} Tryd.checked os 5 .any (fun w args => (Rows.matrixNamesSpec.pre enc Tryd.prog Tryd.f5 Rows.matrixNamesRow.domain false w args ∧ laidMetH Tryd.prog [("math/bits.deBruijn32tab", Rows.laid_math_bits_deBruijn32tab), ("math/bits.deBruijn64tab", Rows.laid_math_bits_deBruijn64tab), ("internal/strconv.uint64pow10", Rows.laid_internal_strconv_uint64pow10), ("unicode.White_Space", Rows.laid_unicode_White_Space), ("strings.asciiSpace", Rows.laid_strings_asciiSpace)] w) ∧ sizedMet enc Tryd.prog Tryd.f5 (OpenSpec.ofChange Rows.matrixNamesSpec) false w args) (Rows.matrixNamesSpec.post enc Tryd.prog Tryd.f5 false true false false) := by
  refine LawFrame.handed_laid (C := Tryd.checked) (tb := 4) (by kernel_rfl) (by kernel_rfl) (by kernel_rfl) Tryd.underlying4 rfl (fun ds hd => ?_) own started (by kernel_rfl) Tryd.func5
    (ChangeSpec.witness_shaped (enc := enc) (C := Tryd.checked) (os := os) (X := fun w _ => laidMetH Tryd.prog [("math/bits.deBruijn32tab", Rows.laid_math_bits_deBruijn32tab), ("math/bits.deBruijn64tab", Rows.laid_math_bits_deBruijn64tab), ("internal/strconv.uint64pow10", Rows.laid_internal_strconv_uint64pow10), ("unicode.White_Space", Rows.laid_unicode_White_Space), ("strings.asciiSpace", Rows.laid_strings_asciiSpace)] w) false (World.laidAll Tryd.prog os [("math/bits.deBruijn32tab", Rows.laid_math_bits_deBruijn32tab), ("math/bits.deBruijn64tab", Rows.laid_math_bits_deBruijn64tab), ("internal/strconv.uint64pow10", Rows.laid_internal_strconv_uint64pow10), ("unicode.White_Space", Rows.laid_unicode_White_Space), ("strings.asciiSpace", Rows.laid_strings_asciiSpace)]) #[.agg #[.int .i64 0, .int .i64 0, .int .i64 0, .int .i64 0, .string (ByteArray.mk #[]), .slice none 0 0, .slice none 0 0, .slice none 0 0, .slice none 0 0], .int .u8 0] 8 (World.laidAll_os _ _ _)
      (World.shaped_of_ZipB (by kernel_rfl) (by kernel_rfl)) (by kernel_rfl) (by kernel_rfl) (by kernel_rfl)
      (by rw [MakeChecks.laidMetH_plain _ _ _ (by kernel_rfl)]; exact laidMet_laidAll _ (by kernel_rfl) (by kernel_rfl))) ?_
  · rw [Tryd.params5] at hd
    match ds, hd with
    | [d1, d2], _ => rfl
  · intro W args ds before base hval hA hlt hsz hL
    rw [Tryd.params5] at hval hA
    obtain ⟨v0, vs0, d0, ds0, p0, q0, hargs, rfl, rfl, h0, r0⟩ := trodAll_cons hA
    obtain ⟨v1, vs1, d1, ds1, p1, q1, rfl, rfl, rfl, h1, r1⟩ := trodAll_cons r0
    obtain ⟨rfl, rfl, rfl⟩ := trodAll_nil r1
    obtain rfl : args = #[v0, v1] := by cases args; simp_all
    obtain ⟨m, vd, vp, vc, ve, rfl, hat, hms⟩ := open_matrix (hval 0 27 v0 rfl rfl) h0 (LawFrame.Sz.arg hsz (j := 0) rfl rfl)
    obtain ⟨k, z, rfl, hk⟩ : ∃ (k : Nat) (z : Unit), v1 = .int .u8 (k : Int) ∧ k < 256 := by
      obtain ⟨z, rfl⟩ := okWide_int Tryd.underlying5 (hval 1 5 v1 rfl rfl)
      obtain ⟨fuel, hf⟩ := h1
      obtain ⟨z', hz, _, hw⟩ := DataW.trod_int Tryd.underlying5 hf
      have e : z = z' := by simpa [Value.cells] using hz
      obtain ⟨b0, b1⟩ := bounds_u8 hw
      rw [← e] at b0 b1
      exact ⟨z.toNat, (), by rw [show ((z.toNat : Nat) : Int) = z by omega], by omega⟩
    exact matrixNames_any W m vd vp vc ve hat hms k hk (tab_laid hL).1 (tab_laid hL).2
theorem matrixNames_row : Rows.MatrixNamesSaid :=
  OpenClaim.holds_of_wide 5 Tryd.f5 rfl rfl rfl rfl rfl rfl rfl ⟨rfl, rfl, rfl, rfl, rfl⟩ rfl rfl rfl rfl rfl (by kernel_rfl) Tryd.func5 (by kernel_rfl)
    (of_decide_eq_true (by kernel_rfl)) (by unfold Func.isWrapper; first | (rw [if_pos (by decide +kernel)]; kernel_rfl) | (rw [if_neg (by decide +kernel)]; exact ⟨rfl, rfl⟩))
    (fun os started H enc _ => matrixNames_lifted os started H enc)
theorem matrixNames_holds : Rows.MatrixNamesCardSaid :=
  Claim7.holds_tied_plain_at .later [] [.data, .data, .data, .listed, .data] true (true, "2e51ec11fbe25be229405d35b7591b6f41005edbb318e5f6cd2f665cf9aeffca") true
    matrixNames_row (fun _ h => by cases h) (by kernel_rfl) (fun _ h => by cases h) matrixNames_row_tie rfl ⟨rfl, rfl⟩ (by kernel_rfl) rfl
    (fun f fn hf hfn => by
      obtain rfl : f = 5 := Option.some.inj ((show Tryd.prog.funcNamed "watchkeeper/watchkeeperlaw08.MatrixNames" = some 5 by kernel_rfl).symm.trans hf) |>.symm
      obtain rfl : fn = Tryd.f5 := (Option.some.inj (Tryd.func5.symm.trans hfn)).symm
      exact ⟨by kernel_rfl, fun j t ht => by
        rw [Tryd.params5] at ht
        have hm : t ∈ [27, 5] := by simpa using Array.mem_of_getElem? ht
        have hall : ([27, 5].all fun u => !Tryd.prog.wantsStandIn u) = true := by kernel_rfl
        exact (show Tryd.prog.wantsStandIn t = false by simpa using List.all_eq_true.1 hall t hm)⟩)
    (by kernel_rfl)
#print axioms matrixNames_holds
end Go.Proofs.YtckbdnkonccmiaaDoor
