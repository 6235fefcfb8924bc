/-
  LexBack: of what is printed of lines of words there are the same words, numbered from 1 on; what is printed of the lines of any text has the same words. No condition beyond the card's own: the tables of Go's library start as its text lays them.
-/
import Derived.Test.YtpoihpehdlogbaaDoorLawBack
import Derived.Test.YtpoihpehdlogbaaDoorLexArgs
import Derived.Test.YtpoihpehdlogbaaDoorLexFrame
namespace Go.Proofs.YtpoihpehdlogbaaDoor
open Go.RowKit Go.ChangeShapes Go.WideShapes
set_option maxRecDepth 100000 in
theorem lexBack_lifted (os : Os) (started : os.Started) (H : Type) (enc : TypeId × Value → H) :
    ReturnsInHanded {} Tryd.checked os 3 .any (fun w args => (Rows.lexBackSpec.pre enc Tryd.prog Tryd.f3 Rows.lexBackRow.domain false w args ∧ laidMetH Tryd.prog [("unicode.White_Space", Rows.laid_unicode_White_Space), ("strings.asciiSpace", Rows.laid_strings_asciiSpace)] w) ∧ sizedMet enc Tryd.prog Tryd.f3 (OpenSpec.ofChange Rows.lexBackSpec) false w args) (Rows.lexBackSpec.post enc Tryd.prog Tryd.f3 false true false false) := by
  refine LawFrame.handed_laid (C := Tryd.checked) (tb := 4) (by kernel_rfl) (by kernel_rfl) (by kernel_rfl) Tryd.underlying4 rfl (fun ds hd => ?_) own started (by kernel_rfl) Tryd.func3
    (ChangeSpec.witness_shaped (enc := enc) (C := Tryd.checked) (os := os) (X := fun w _ => laidMetH Tryd.prog [("unicode.White_Space", Rows.laid_unicode_White_Space), ("strings.asciiSpace", Rows.laid_strings_asciiSpace)] w) false (World.laidAll Tryd.prog os [("unicode.White_Space", Rows.laid_unicode_White_Space), ("strings.asciiSpace", Rows.laid_strings_asciiSpace)]) #[.string (ByteArray.mk #[]), .slice none 0 0] 8 (World.laidAll_os _ _ _)
      (World.shaped_of_ZipB (by kernel_rfl) (by kernel_rfl)) (by kernel_rfl) (by kernel_rfl) (by kernel_rfl)
      (by rw [MakeChecks.laidMetH_plain _ _ _ (by kernel_rfl)]; exact laidMet_laidAll _ (by kernel_rfl) (by kernel_rfl))) ?_
  · rw [Tryd.params3] at hd
    match ds, hd with
    | [d1, d2], _ => rfl
  · intro W args ds before base hval hA hlt hsz hL
    rw [Tryd.params3] at hval hA
    obtain ⟨v0, vs0, d0, ds0, p0, q0, hargs, rfl, rfl, h0, r0⟩ := trodAll_cons hA
    obtain ⟨v1, vs1, d1, ds1, p1, q1, rfl, rfl, rfl, h1, r1⟩ := trodAll_cons r0
    obtain ⟨rfl, rfl, rfl⟩ := trodAll_nil r1
    obtain rfl : args = #[v0, v1] := by cases args; simp_all
    obtain ⟨s0, rfl, hs0⟩ := LawFrame.open_str Tryd.underlying9 (hval 0 9 v0 rfl rfl) h0 (LawFrame.Sz.arg hsz (j := 0) rfl rfl)
    obtain ⟨xs, hxs, hxn⟩ := open_lines (hval 1 22 v1 rfl rfl) h1 (LawFrame.Sz.arg hsz (j := 1) rfl rfl)
    exact lexBack_any W s0 xs v1 hs0 hxs hxn (tab_laid hL)
theorem lexBack_row : Rows.LexBackSaid :=
  OpenClaim.holds_of_wide 3 Tryd.f3 rfl rfl rfl rfl rfl rfl rfl ⟨rfl, rfl, rfl, rfl, rfl⟩ rfl rfl rfl rfl rfl (by kernel_rfl) Tryd.func3 (by kernel_rfl)
    (of_decide_eq_true (by kernel_rfl)) (by unfold Func.isWrapper; first | (rw [if_pos (by decide +kernel)]; kernel_rfl) | (rw [if_neg (by decide +kernel)]; exact ⟨rfl, rfl⟩))
    (fun os started H enc _ => lexBack_lifted os started H enc)
theorem lexBack_holds : Rows.LexBackCardSaid :=
  Claim7.holds_tied_plain_at .later [] [.listed, .data] true (true, "56d36c70895e3c84ee832ed711dcf9d4fc8cd15690157f6784d3fe86b6a986b5") true
    lexBack_row (fun _ h => by cases h) (by kernel_rfl) (fun _ h => by cases h) lexBack_row_tie rfl ⟨rfl, rfl⟩ (by kernel_rfl) rfl
    (fun f fn hf hfn => by
      obtain rfl : f = 3 := Option.some.inj ((show Tryd.prog.funcNamed "watchkeeper/watchkeeperlaw07.LexBack" = some 3 by kernel_rfl).symm.trans hf) |>.symm
      obtain rfl : fn = Tryd.f3 := (Option.some.inj (Tryd.func3.symm.trans hfn)).symm
      exact ⟨by kernel_rfl, fun j t ht => by
        rw [Tryd.params3] at ht
        have hm : t ∈ [9, 22] := by simpa using Array.mem_of_getElem? ht
        have hall : ([9, 22].all fun u => !Tryd.prog.wantsStandIn u) = true := by kernel_rfl
        exact (show Tryd.prog.wantsStandIn t = false by simpa using List.all_eq_true.1 hall t hm)⟩)
    (by kernel_rfl)
#print axioms lexBack_holds
end Go.Proofs.YtpoihpehdlogbaaDoor
