/-
  PLAIN: what votes come to, over lists. No program is in sight.
-/
import Derived.WalkKit
namespace Go.Proofs.Ytpgkiilikodbpaa
open Go.RowKit
/-- one that may vote -/
structure Inn where
  trip : Bool
  bad : Bool
  byp : Bool
namespace Inn
def val (x : Inn) : Value := .agg #[.bool x.trip, .bool x.bad, .bool x.byp]
def cells (x : Inn) : List Value := [.bool x.trip, .bool x.bad, .bool x.byp]
def votes (x : Inn) : Bool := !x.byp
def yes (x : Inn) : Bool := !x.byp && (x.trip || x.bad)
end Inn
def cnt (p : Inn → Bool) (l : List Inn) : Nat := (l.filter p).length
theorem cnt_nil (p : Inn → Bool) : cnt p [] = 0 := rfl
theorem cnt_le (p : Inn → Bool) (l : List Inn) : cnt p l ≤ l.length := List.length_filter_le _ _
theorem cnt_take_succ (p : Inn → Bool) (l : List Inn) (k : Nat) (x : Inn) (h : l[k]? = some x) : cnt p (l.take (k + 1)) = cnt p (l.take k) + if p x then 1 else 0 := by
  obtain ⟨hk, rfl⟩ := List.getElem?_eq_some_iff.1 h
  unfold cnt
  rw [List.take_succ_eq_append_getElem hk, List.filter_append, List.length_append]
  cases hp : p l[k] <;> simp [hp]
def needL (n : Int) (v : Nat) : Int := min (max n 1) v
def tripsL (n : Int) (l : List Inn) : Bool := decide (0 < cnt Inn.votes l) && decide (needL n (cnt Inn.votes l) ≤ (cnt Inn.yes l : Int))
def healthyL (n : Int) (l : List Inn) : Bool := (cnt Inn.votes l == l.length) && !tripsL n l
/-- what a slice of votes reads as -/
def InnAt (w : World) (l : List Inn) (v : Value) : Prop :=
  ∃ (A : Option Addr) (c : Nat), v = .slice A l.length c ∧ l.length ≤ c ∧ (l ≠ [] → ∃ b off, A = some ⟨b, off, none⟩ ∧ b < w.heap.size ∧
    ∀ i x, l[i]? = some x → w.cell? ⟨b, off + i * 3, none⟩ = some (.bool x.trip) ∧ w.cell? ⟨b, off + i * 3 + 1, none⟩ = some (.bool x.bad) ∧ w.cell? ⟨b, off + i * 3 + 2, none⟩ = some (.bool x.byp))
theorem InnAt.below {w w' : World} {l : List Inn} {v : Value} (h : InnAt w l v) (hb : Below w.heap.size w w') : InnAt w' l v := by
  obtain ⟨A, c, hv, hc, h⟩ := h
  refine ⟨A, c, hv, hc, fun hl => ?_⟩
  obtain ⟨b, off, hA, hlt, hx⟩ := h hl
  refine ⟨b, off, hA, Nat.lt_of_lt_of_le hlt hb.size, fun i x hi => ?_⟩
  obtain ⟨h0, h1, h2⟩ := hx i x hi
  exact ⟨(hb.cell (p := ⟨b, _, none⟩) hlt).trans h0, (hb.cell (p := ⟨b, _, none⟩) hlt).trans h1, (hb.cell (p := ⟨b, _, none⟩) hlt).trans h2⟩
end Go.Proofs.Ytpgkiilikodbpaa
