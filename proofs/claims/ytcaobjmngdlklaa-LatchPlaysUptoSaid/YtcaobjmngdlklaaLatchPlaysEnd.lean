/-
  LatchPlays: calls of latches of any groups answer as the document says; so do all latches, and the first one of each group. Where the arguments hold at most 1048576 values and letters (the second form).
-/
import Derived.Test.YtcaobjmngdlklaaLatchPlays
import Derived.JoinedCond
namespace Go.Proofs.Ytcaobjmngdlklaa
open Go.RowKit Go.ChangeShapes Go.WideShapes
set_option maxRecDepth 100000 in
theorem plays_upto (W : World) (H : Type) (enc : TypeId × Value → H) (base : Nat) (args : Array Value) (ds : List (DataW H)) (before : List MemPlace)
    (hval : ∀ (j : Nat) t v, Try.f3.params[j]? = some t → args[j]? = some v → Value.okWide Try.prog W .any base t v)
    (hA : DataW.TrodAll enc Try.prog W 0 (fun _ => true) true Try.f3.params.toList args.toList ds before) (hk : Rows.uptoSmall H ds = true) :
    Calls Try.prog 3 args W fun e W' => e = .returned (.bool true) ∧ Below W.heap.size W W' := by
    rw [Try.params3] at hval hA
    obtain ⟨v0, vs0, d0, ds0, p0, q0, hargs, rfl, rfl, h0, r0⟩ := trodAll_cons hA
    obtain ⟨v1, vs1, d1, ds1, p1, q1, rfl, rfl, rfl, h1, r1⟩ := trodAll_cons r0
    obtain ⟨rfl, rfl, rfl⟩ := trodAll_nil r1
    obtain rfl : args = #[v0, v1] := by cases args; simp_all
    have hbk : Rows.uptoBulkAll [d0, d1] ≤ 1048576 := of_decide_eq_true hk
    simp only [Rows.uptoBulkAll] at hbk
    obtain ⟨gs, hg, hgf, -⟩ := open_groups (hval 0 22 v0 rfl rfl) h0
    obtain ⟨l, hl, hp, hn⟩ := open_ops (hval 1 23 v1 rfl rfl) h1
    have hgl : gs.length ≤ 2000000 := by
      obtain ⟨A, c, rfl, -⟩ := hg
      have := slice_bulk Try.underlying22 h0
      omega
    exact plays_walk gs l v0 v1 W hg hgf hgl hl hp hn
set_option maxRecDepth 100000 in
theorem plays_lifted (os : Os) (started : os.Started) (H : Type) (enc : TypeId × Value → H) (F : Stop.Interp) :
    ReturnsInHanded {} Try.checked os 3 .any ((Rows.OpenSpec.upto Rows.latchPlaysSpec).pre6 enc Try.prog Try.f3 Rows.latchPlaysUptoRow.domain false) (((Rows.OpenSpec.upto Rows.latchPlaysSpec).at F).post enc Try.prog Try.f3 false true false false) := by
  refine returnsInHanded_of_cond (C := Try.checked) (s := Rows.OpenSpec.upto Rows.latchPlaysSpec) (k := Rows.uptoSmall) rfl own started (by kernel_rfl) Try.func3
    (OpenSpec.witness (enc := enc) (C := Try.checked) (s := Rows.OpenSpec.upto Rows.latchPlaysSpec) (k := Rows.uptoSmall) rfl false ⟨#[], #[.slice none 0 0, .slice none 0 0], []⟩ 8 (by kernel_rfl) (by kernel_rfl) (by kernel_rfl)
      (x := ([.nil, .nil], [], [])) (by kernel_rfl) rfl (by kernel_rfl)) ?_
  intro W base args ds gs before hval hW _ hk _
  have hW' := hW
  obtain ⟨p, q, hA, hV, hpq, -, -⟩ := hW'
  obtain ⟨rfl, rfl⟩ := trodVars_none hV
  rw [List.append_nil] at hpq hk
  subst hpq
  refine (plays_upto W H enc base args ds _ hval hA hk).mono fun e W' ⟨he, hb⟩ => ⟨_, he, ?_⟩
  refine LawFrame.post_of_true (s := Rows.latchPlaysSpec) (tb := 4) (by kernel_rfl) (fun t ht => ?_) (by kernel_rfl) Try.underlying4 rfl ?_ hW hb
  · have hts : Try.f3.params.toList.all (fun t => Try.prog.readableRec t && decide (t < Try.prog.types.size)) = true := by kernel_rfl
    have := List.all_eq_true.1 hts t ht
    rw [Bool.and_eq_true, decide_eq_true_eq] at this
    exact this
  · have hlen := LawFrame.trodAll_len hA
    rw [Try.params3] at hlen
    match ds, hlen with
    | [d1, d2], _ => rfl
theorem plays_holds : Rows.LatchPlaysUptoSaid :=
  OpenClaim.holds_of_cond 3 Try.f3 rfl rfl rfl rfl rfl rfl rfl ⟨rfl, rfl, rfl, rfl, rfl⟩ rfl rfl rfl rfl rfl (by kernel_rfl) Try.func3 (by kernel_rfl)
    (of_decide_eq_true (by kernel_rfl)) (by unfold Func.isWrapper; first | (rw [if_pos (by decide +kernel)]; kernel_rfl) | (rw [if_neg (by decide +kernel)]; exact ⟨rfl, rfl⟩))
    (fun os started H enc _ F => plays_lifted os started H enc F)
#print axioms plays_holds
end Go.Proofs.Ytcaobjmngdlklaa
