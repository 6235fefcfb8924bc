/-
  ARGUMENTS, OPENED: a slice of votes reads as a list of them.
-/
import Derived.Test.YtpgkiilikodbpaaRows
import Derived.Test.YtpgkiilikodbpaaPlain
import Derived.Test.YtpgkiilikodbpaaFrame
namespace Go.Proofs.Ytpgkiilikodbpaa
open Go.RowKit Go.ChangeShapes Go.WideShapes LawFrame

/-- an argument that is a slice of votes reads as a list of them -/
theorem open_inn {H : Type} {enc : TypeId × Value → H} {w : World} {base : Nat} {v : Value} {d : DataW H} {p : List MemPlace} (hv : Value.okWide Try.prog w .any base 22 v)
    (h : DataW.Trod enc Try.prog w 0 (fun _ => true) true 22 v d p) : ∃ l, InnAt w l v ∧ l.length ≤ maxLen := by
  obtain ⟨a0, len, cap, rfl⟩ := okWide_slice Try.underlying22 hv
  obtain ⟨fuel, hf⟩ := h
  rcases open_slice_fields Try.underlying22 Try.underlying29 (by kernel_rfl) (by kernel_rfl) hf with ⟨hcs, hx⟩ | ⟨a, len', cap', m, D, Pl, hcs, _, hl, hm, hmm, hx, hi⟩
  · have e : (Value.slice a0 len cap) = .slice none 0 0 := by simpa [Value.cells] using hcs
    injection e with e1 e2 e3
    subst e1 e2 e3
    exact ⟨[], ⟨none, 0, rfl, Nat.le_refl _, fun h => absurd rfl h⟩, by simp⟩
  · have e : (Value.slice a0 len cap) = .slice (some a) len' cap' := by simpa [Value.cells] using hcs
    injection e with e1 e2 e3
    subst e1 e2 e3
    simp only [if_true] at hmm
    subst hmm
    obtain ⟨l, hln, hp'⟩ := list_of len (fun i (x : Inn) => w.cell? (a.add (i * 3)) = some (.bool x.trip) ∧ w.cell? (a.add (i * 3 + 1)) = some (.bool x.bad) ∧ w.cell? (a.add (i * 3 + 2)) = some (.bool x.byp)) (fun i hi' => by
      obtain ⟨ys, n, _, _, _, hfld⟩ := hi i (by omega)
      obtain ⟨v0, y0, c0, _, t0⟩ := hfld 0 _ rfl
      obtain ⟨v1, y1, c1, _, t1⟩ := hfld 1 _ rfl
      obtain ⟨v2, y2, c2, _, t2⟩ := hfld 2 _ rfl
      obtain ⟨b0, hb0, _⟩ := DataW.trod_bool Try.underlying4 t0
      obtain ⟨b1, hb1, _⟩ := DataW.trod_bool Try.underlying4 t1
      obtain ⟨b2, hb2, _⟩ := DataW.trod_bool Try.underlying4 t2
      simp only [List.cons.injEq, and_true] at hb0 hb1 hb2
      subst hb0 hb1 hb2
      exact ⟨⟨b0, b1, b2⟩, by simpa using c0, c1, c2⟩)
    subst hln
    refine ⟨l, ⟨some a, _, rfl, by omega, fun hne => ?_⟩, by omega⟩
    have h0 : 0 < l.length := List.length_pos_iff.2 hne
    obtain ⟨b, off, rfl⟩ := add_plain' (by simpa using (hp' 0 l[0] (List.getElem?_eq_getElem h0)).1)
    refine ⟨b, off, rfl, cell_lt (hp' 0 l[0] (List.getElem?_eq_getElem h0)).1, fun i x hx' => ?_⟩
    simpa [add_plain, Nat.add_assoc] using hp' i x hx'

theorem own : ownKnob Try.prog.godebug = none := by kernel_rfl
end Go.Proofs.Ytpgkiilikodbpaa
