/-
  LexJoin: of two texts, one a line below the other, the lines are those of both, numbered on. No condition beyond the card's own: the tables of Go's library start as its text lays them.
-/
import Derived.Test.YtpoihpehdlogbaaDoorLawJoin
import Derived.Test.YtpoihpehdlogbaaDoorLexFrame
namespace Go.Proofs.YtpoihpehdlogbaaDoor
open Go.RowKit Go.ChangeShapes Go.WideShapes
set_option maxRecDepth 100000 in
theorem lexJoin_lifted (os : Os) (started : os.Started) (H : Type) (enc : TypeId × Value → H) :
    ReturnsInHanded {} Tryd.checked os 5 .any (fun w args => (Rows.lexJoinSpec.pre enc Tryd.prog Tryd.f5 Rows.lexJoinRow.domain false w args ∧ laidMetH Tryd.prog [("unicode.White_Space", Rows.laid_unicode_White_Space), ("strings.asciiSpace", Rows.laid_strings_asciiSpace)] w) ∧ sizedMet enc Tryd.prog Tryd.f5 (OpenSpec.ofChange Rows.lexJoinSpec) false w args) (Rows.lexJoinSpec.post enc Tryd.prog Tryd.f5 false true false false) := by
  refine LawFrame.handed_laid (C := Tryd.checked) (tb := 4) (by kernel_rfl) (by kernel_rfl) (by kernel_rfl) Tryd.underlying4 rfl (fun ds hd => ?_) own started (by kernel_rfl) Tryd.func5
    (ChangeSpec.witness_shaped (enc := enc) (C := Tryd.checked) (os := os) (X := fun w _ => laidMetH Tryd.prog [("unicode.White_Space", Rows.laid_unicode_White_Space), ("strings.asciiSpace", Rows.laid_strings_asciiSpace)] w) false (World.laidAll Tryd.prog os [("unicode.White_Space", Rows.laid_unicode_White_Space), ("strings.asciiSpace", Rows.laid_strings_asciiSpace)]) #[.string (ByteArray.mk #[]), .string (ByteArray.mk #[])] 8 (World.laidAll_os _ _ _)
      (World.shaped_of_ZipB (by kernel_rfl) (by kernel_rfl)) (by kernel_rfl) (by kernel_rfl) (by kernel_rfl)
      (by rw [MakeChecks.laidMetH_plain _ _ _ (by kernel_rfl)]; exact laidMet_laidAll _ (by kernel_rfl) (by kernel_rfl))) ?_
  · rw [Tryd.params5] at hd
    match ds, hd with
    | [d1, d2], _ => rfl
  · intro W args ds before base hval hA hlt hsz hL
    rw [Tryd.params5] at hval hA
    obtain ⟨v0, vs0, d0, ds0, p0, q0, hargs, rfl, rfl, h0, r0⟩ := trodAll_cons hA
    obtain ⟨v1, vs1, d1, ds1, p1, q1, rfl, rfl, rfl, h1, r1⟩ := trodAll_cons r0
    obtain ⟨rfl, rfl, rfl⟩ := trodAll_nil r1
    obtain rfl : args = #[v0, v1] := by cases args; simp_all
    obtain ⟨s0, rfl, hs0⟩ := LawFrame.open_str Tryd.underlying9 (hval 0 9 v0 rfl rfl) h0 (LawFrame.Sz.arg hsz (j := 0) rfl rfl)
    obtain ⟨s1, rfl, hs1⟩ := LawFrame.open_str Tryd.underlying9 (hval 1 9 v1 rfl rfl) h1 (LawFrame.Sz.arg hsz (j := 1) rfl rfl)
    exact lexJoin_any W s0 s1 hs0 hs1 (tab_laid hL)
theorem lexJoin_row : Rows.LexJoinSaid :=
  OpenClaim.holds_of_wide 5 Tryd.f5 rfl rfl rfl rfl rfl rfl rfl ⟨rfl, rfl, rfl, rfl, rfl⟩ rfl rfl rfl rfl rfl (by kernel_rfl) Tryd.func5 (by kernel_rfl)
    (of_decide_eq_true (by kernel_rfl)) (by unfold Func.isWrapper; first | (rw [if_pos (by decide +kernel)]; kernel_rfl) | (rw [if_neg (by decide +kernel)]; exact ⟨rfl, rfl⟩))
    (fun os started H enc _ => lexJoin_lifted os started H enc)
theorem lexJoin_holds : Rows.LexJoinCardSaid :=
  Claim7.holds_tied_plain_at .later [] [.listed, .data] true (true, "56d36c70895e3c84ee832ed711dcf9d4fc8cd15690157f6784d3fe86b6a986b5") true
    lexJoin_row (fun _ h => by cases h) (by kernel_rfl) (fun _ h => by cases h) lexJoin_row_tie rfl ⟨rfl, rfl⟩ (by kernel_rfl) rfl
    (fun f fn hf hfn => by
      obtain rfl : f = 5 := Option.some.inj ((show Tryd.prog.funcNamed "watchkeeper/watchkeeperlaw07.LexJoin" = some 5 by kernel_rfl).symm.trans hf) |>.symm
      obtain rfl : fn = Tryd.f5 := (Option.some.inj (Tryd.func5.symm.trans hfn)).symm
      exact ⟨by kernel_rfl, fun j t ht => by
        rw [Tryd.params5] at ht
        have hm : t ∈ [9, 9] := by simpa using Array.mem_of_getElem? ht
        have hall : ([9, 9].all fun u => !Tryd.prog.wantsStandIn u) = true := by kernel_rfl
        exact (show Tryd.prog.wantsStandIn t = false by simpa using List.all_eq_true.1 hall t hm)⟩)
    (by kernel_rfl)
#print axioms lexJoin_holds
end Go.Proofs.YtpoihpehdlogbaaDoor
