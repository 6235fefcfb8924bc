/-
  The arguments of this seat's laws, read as lists.
-/
import Derived.Test.YtfogihnjeaeifaaQueueAny
import Derived.Test.YtfogihnjeaeifaaOwn
import Derived.Test.YtfogihnjeaeifaaRows
namespace Go.Proofs.Ytfogihnjeaeifaa
open Go.Conc Go.RowKit Go.ChangeShapes Go.WideShapes
theorem own : ownKnob Try.prog.godebug = none := by kernel_rfl
/-- a call of the law's -/
structure Op where
  what : Int
  urgent : Bool
  x : Int
  h1 : -9223372036854775808 ≤ x ∧ x ≤ 9223372036854775807
def Op.cells (o : Op) : List Value := [.int .i64 o.what, .bool o.urgent, .int .i64 o.x]
def OpsAt (w : World) (l : List Op) (v : Value) : Prop := LawFrame.RowsAt w 3 Op.cells l v
theorem open_ops {H : Type} {enc : TypeId × Value → H} {w : World} {base : Nat} {v : Value} {d : DataW H} {p : List MemPlace} (hv : Value.okWide Try.prog w .any base 22 v)
    (h : DataW.Trod enc Try.prog w 0 (fun _ => true) true 22 v d p) : ∃ l, OpsAt w l v ∧ l.length ≤ maxLen :=
  LawFrame.open_rows Op.cells Try.underlying22 Try.underlying29 (by kernel_rfl) (by kernel_rfl) (by decide) (fun vs hd => by
    obtain ⟨n0, y0, t0⟩ := hd 0 _ rfl
    obtain ⟨n1, y1, t1⟩ := hd 1 _ rfl
    obtain ⟨n2, y2, t2⟩ := hd 2 _ rfl
    obtain ⟨b0, hb0, _⟩ := DataW.trod_int Try.underlying3 t0
    obtain ⟨b1, hb1, _⟩ := DataW.trod_bool Try.underlying4 t1
    obtain ⟨b2, hb2, _, hw2⟩ := DataW.trod_int Try.underlying3 t2
    simp only [List.cons.injEq, and_true] at hb0 hb1 hb2
    refine ⟨⟨b0, b1, b2, bounds_i64 hw2⟩, fun j u hu => ?_⟩
    match j, hu with
    | 0, hu => exact ⟨by decide, by rw [hb0]; simpa [Op.cells] using hu.symm⟩
    | 1, hu => exact ⟨by decide, by rw [hb1]; simpa [Op.cells] using hu.symm⟩
    | 2, hu => exact ⟨by decide, by rw [hb2]; simpa [Op.cells] using hu.symm⟩) hv h
end Go.Proofs.Ytfogihnjeaeifaa
