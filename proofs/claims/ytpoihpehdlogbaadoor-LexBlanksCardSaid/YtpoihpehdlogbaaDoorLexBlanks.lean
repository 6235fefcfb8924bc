/-
  LexBlanks: blanks ahead of a text, or behind it, and a remark behind it, change no word of it. No condition beyond the card's own: the tables of Go's library start as its text lays them.
-/
import Derived.Test.YtpoihpehdlogbaaDoorLawBlanks
import Derived.Test.YtpoihpehdlogbaaDoorLexFrame
namespace Go.Proofs.YtpoihpehdlogbaaDoor
open Go.RowKit Go.ChangeShapes Go.WideShapes
set_option maxRecDepth 100000 in
theorem lexBlanks_lifted (os : Os) (started : os.Started) (H : Type) (enc : TypeId × Value → H) :
    ReturnsInHanded {} Tryd.checked os 4 .any (fun w args => (Rows.lexBlanksSpec.pre enc Tryd.prog Tryd.f4 Rows.lexBlanksRow.domain false w args ∧ laidMetH Tryd.prog [("unicode.White_Space", Rows.laid_unicode_White_Space), ("strings.asciiSpace", Rows.laid_strings_asciiSpace)] w) ∧ sizedMet enc Tryd.prog Tryd.f4 (OpenSpec.ofChange Rows.lexBlanksSpec) false w args) (Rows.lexBlanksSpec.post enc Tryd.prog Tryd.f4 false true false false) := by
  refine LawFrame.handed_laid (C := Tryd.checked) (tb := 4) (by kernel_rfl) (by kernel_rfl) (by kernel_rfl) Tryd.underlying4 rfl (fun ds hd => ?_) own started (by kernel_rfl) Tryd.func4
    (ChangeSpec.witness_shaped (enc := enc) (C := Tryd.checked) (os := os) (X := fun w _ => laidMetH Tryd.prog [("unicode.White_Space", Rows.laid_unicode_White_Space), ("strings.asciiSpace", Rows.laid_strings_asciiSpace)] w) false (World.laidAll Tryd.prog os [("unicode.White_Space", Rows.laid_unicode_White_Space), ("strings.asciiSpace", Rows.laid_strings_asciiSpace)]) #[.string (ByteArray.mk #[]), .int .u8 0, .string (ByteArray.mk #[])] 8 (World.laidAll_os _ _ _)
      (World.shaped_of_ZipB (by kernel_rfl) (by kernel_rfl)) (by kernel_rfl) (by kernel_rfl) (by kernel_rfl)
      (by rw [MakeChecks.laidMetH_plain _ _ _ (by kernel_rfl)]; exact laidMet_laidAll _ (by kernel_rfl) (by kernel_rfl))) ?_
  · rw [Tryd.params4] at hd
    match ds, hd with
    | [d1, d2, d3], _ => rfl
  · intro W args ds before base hval hA hlt hsz hL
    rw [Tryd.params4] at hval hA
    obtain ⟨v0, vs0, d0, ds0, p0, q0, hargs, rfl, rfl, h0, r0⟩ := trodAll_cons hA
    obtain ⟨v1, vs1, d1, ds1, p1, q1, rfl, rfl, rfl, h1, r1⟩ := trodAll_cons r0
    obtain ⟨v2, vs2, d2, ds2, p2, q2, rfl, rfl, rfl, h2, r2⟩ := trodAll_cons r1
    obtain ⟨rfl, rfl, rfl⟩ := trodAll_nil r2
    obtain rfl : args = #[v0, v1, v2] := by cases args; simp_all
    obtain ⟨s0, rfl, hs0⟩ := LawFrame.open_str Tryd.underlying9 (hval 0 9 v0 rfl rfl) h0 (LawFrame.Sz.arg hsz (j := 0) rfl rfl)
    obtain ⟨k, z, rfl, hk⟩ : ∃ (k : Nat) (z : Unit), v1 = .int .u8 (k : Int) ∧ k < 256 := by
      obtain ⟨z, rfl⟩ := okWide_int Tryd.underlying5 (hval 1 5 v1 rfl rfl)
      obtain ⟨fuel, hf⟩ := h1
      obtain ⟨z', hz, _, hw⟩ := DataW.trod_int Tryd.underlying5 hf
      have e : z = z' := by simpa [Value.cells] using hz
      obtain ⟨b0, b1⟩ := bounds_u8 hw
      rw [← e] at b0 b1
      exact ⟨z.toNat, (), by rw [show ((z.toNat : Nat) : Int) = z by omega], by omega⟩
    obtain ⟨s2, rfl, hs2⟩ := LawFrame.open_str Tryd.underlying9 (hval 2 9 v2 rfl rfl) h2 (LawFrame.Sz.arg hsz (j := 2) rfl rfl)
    exact lexBlanks_any W s0 k s2 hk hs0 hs2 (tab_laid hL)
theorem lexBlanks_row : Rows.LexBlanksSaid :=
  OpenClaim.holds_of_wide 4 Tryd.f4 rfl rfl rfl rfl rfl rfl rfl ⟨rfl, rfl, rfl, rfl, rfl⟩ rfl rfl rfl rfl rfl (by kernel_rfl) Tryd.func4 (by kernel_rfl)
    (of_decide_eq_true (by kernel_rfl)) (by unfold Func.isWrapper; first | (rw [if_pos (by decide +kernel)]; kernel_rfl) | (rw [if_neg (by decide +kernel)]; exact ⟨rfl, rfl⟩))
    (fun os started H enc _ => lexBlanks_lifted os started H enc)
theorem lexBlanks_holds : Rows.LexBlanksCardSaid :=
  Claim7.holds_tied_plain_at .later [] [.listed, .data] true (true, "56d36c70895e3c84ee832ed711dcf9d4fc8cd15690157f6784d3fe86b6a986b5") true
    lexBlanks_row (fun _ h => by cases h) (by kernel_rfl) (fun _ h => by cases h) lexBlanks_row_tie rfl ⟨rfl, rfl⟩ (by kernel_rfl) rfl
    (fun f fn hf hfn => by
      obtain rfl : f = 4 := Option.some.inj ((show Tryd.prog.funcNamed "watchkeeper/watchkeeperlaw07.LexBlanks" = some 4 by kernel_rfl).symm.trans hf) |>.symm
      obtain rfl : fn = Tryd.f4 := (Option.some.inj (Tryd.func4.symm.trans hfn)).symm
      exact ⟨by kernel_rfl, fun j t ht => by
        rw [Tryd.params4] at ht
        have hm : t ∈ [9, 5, 9] := by simpa using Array.mem_of_getElem? ht
        have hall : ([9, 5, 9].all fun u => !Tryd.prog.wantsStandIn u) = true := by kernel_rfl
        exact (show Tryd.prog.wantsStandIn t = false by simpa using List.all_eq_true.1 hall t hm)⟩)
    (by kernel_rfl)
#print axioms lexBlanks_holds
end Go.Proofs.YtpoihpehdlogbaaDoor
