/-
  PLAIN: a value that counts when it has stood for a time. No program is in sight.
-/
import Derived.WalkKit
namespace Go.Proofs.Ytgnpoiojiocmgaa.Delay
open Go.RowKit
/-- a delay: what counts; the times after which true, and false, count; whether, and since when, it has seen the other value; the time of the last See -/
structure D where
  v : Bool
  on : Int
  off : Int
  seen : Bool
  since : Int
  last : Int
/-- its cells -/
def D.cells (d : D) : Array Value := #[.bool d.v, .int .i64 d.off, .int .i64 d.on, .bool d.seen, .int .i64 d.since, .int .i64 d.last]
def top : Int := 1099511627776
def clamp (now last : Int) : Int := min (max now last) 1099511627776
def D.ok (d : D) : Prop := (0 ≤ d.on ∧ d.on ≤ 1099511627776) ∧ (0 ≤ d.off ∧ d.off ≤ 1099511627776) ∧ (0 ≤ d.last ∧ d.last ≤ 1099511627776) ∧ (0 ≤ d.since ∧ d.since ≤ d.last) ∧ (d.seen = false → d.since = 0)
def D.need (d : D) (v : Bool) : Int := if v then d.on else d.off
def D.from_ (d : D) (t : Int) : Int := if d.seen then d.since else t
def D.see (d : D) (v : Bool) (now : Int) : D :=
  if v = d.v then { d with last := clamp now d.last, seen := false, since := 0 }
  else if d.need v ≤ clamp now d.last - d.from_ (clamp now d.last) then { d with last := clamp now d.last, v := v, seen := false, since := 0 }
  else { d with last := clamp now d.last, seen := true, since := d.from_ (clamp now d.last) }
def new (on off : Int) : D := ⟨false, clamp on 0, clamp off 0, false, 0, 0⟩
theorem clamp_ok {now last : Int} (h : 0 ≤ last) (h1 : last ≤ 1099511627776) : last ≤ clamp now last ∧ clamp now last ≤ 1099511627776 := by unfold clamp; omega
theorem new_ok (on off : Int) : (new on off).ok := by
  have h1 := clamp_ok (now := on) (last := 0) (by omega) (by omega)
  have h2 := clamp_ok (now := off) (last := 0) (by omega) (by omega)
  simp only [D.ok, new]
  exact ⟨by omega, by omega, by omega, by omega, fun _ => trivial⟩
theorem see_ok {d : D} (h : d.ok) (v : Bool) (now : Int) : (d.see v now).ok := by
  obtain ⟨h1, h2, h3, h4, h5⟩ := h
  have hc := clamp_ok (now := now) h3.1 h3.2
  unfold D.see
  split
  · simp only [D.ok]; exact ⟨h1, h2, by omega, by omega, fun _ => trivial⟩
  · split
    · simp only [D.ok]; exact ⟨h1, h2, by omega, by omega, fun _ => trivial⟩
    · simp only [D.ok, D.from_]
      refine ⟨h1, h2, by omega, ?_, fun h => by cases h⟩
      split <;> omega
end Go.Proofs.Ytgnpoiojiocmgaa.Delay
