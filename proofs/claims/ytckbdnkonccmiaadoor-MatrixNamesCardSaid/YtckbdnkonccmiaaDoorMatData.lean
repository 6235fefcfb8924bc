/-
  A matrix: what it is, how it lies in memory, and which are right.
-/
import Derived.Test.YtckbdnkonccmiaaDoorOwn
import Derived.Test.YtckbdnkonccmiaaDoorRows
import Derived.WalkKit
import Derived.Handy
import Derived.Lib.Hide
namespace Go.Proofs.YtckbdnkonccmiaaDoor
open Go.RowKit
structure Dev where
  name : ByteArray
  line : Int
  unit : Int
structure Pt where
  name : ByteArray
  dev : Int
  place : Int
  trip : Int
  on : Int
  off : Int
/-- a cause: beside its points the slice that they lie in -/
structure Cs where
  name : ByteArray
  votes : Int
  lamp : Int
  limit : Int
  v : Value
  pts : List Int
structure Ef where
  name : ByteArray
  dev : Int
  place : Int
  safe : Int
  v : Value
  cs : List Int
def Dev.cells (d : Dev) : List Value := [.string d.name, .int .i64 d.line, .int .i64 d.unit]
def Pt.cells (p : Pt) : List Value := [.string p.name, .int .i64 p.dev, .int .i64 p.place, .int .i64 p.trip, .int .i64 p.on, .int .i64 p.off]
def Cs.cells (c : Cs) : List Value := [.string c.name, .int .i64 c.votes, .int .i64 c.lamp, .int .i64 c.limit, c.v]
def Ef.cells (e : Ef) : List Value := [.string e.name, .int .i64 e.dev, .int .i64 e.place, .int .i64 e.safe, e.v]
def nC (x : Int) : List Value := [.int .i64 x]
def sC (s : ByteArray) : List Value := [.string s]
theorem nC_len (x : Int) : (nC x).length = 1 := rfl
theorem sC_len (x : ByteArray) : (sC x).length = 1 := rfl
structure Mat where
  retries : Int
  wait : Int
  back : Int
  cycle : Int
  key : ByteArray
  devs : List Dev
  pts : List Pt
  css : List Cs
  efs : List Ef
def NumsAt (w : World) (l : List Int) (v : Value) : Prop := LawFrame.RowsAt w 1 nC l v
def StrsAt (w : World) (l : List ByteArray) (v : Value) : Prop := LawFrame.RowsAt w 1 sC l v
def DevsAt (w : World) (l : List Dev) (v : Value) : Prop := LawFrame.RowsAt w 3 Dev.cells l v
def PtsAt (w : World) (l : List Pt) (v : Value) : Prop := LawFrame.RowsAt w 6 Pt.cells l v
def CssAt (w : World) (l : List Cs) (v : Value) : Prop := LawFrame.RowsAt w 5 Cs.cells l v ∧ ∀ c ∈ l, NumsAt w c.pts c.v
def EfsAt (w : World) (l : List Ef) (v : Value) : Prop := LawFrame.RowsAt w 5 Ef.cells l v ∧ ∀ e ∈ l, NumsAt w e.cs e.v
theorem NumsAt.below {w w' : World} {l : List Int} {v : Value} (h : NumsAt w l v) (hb : Below w.heap.size w w') : NumsAt w' l v := LawFrame.RowsAt.below h hb
theorem CssAt.below {w w' : World} {l : List Cs} {v : Value} (h : CssAt w l v) (hb : Below w.heap.size w w') : CssAt w' l v := ⟨LawFrame.RowsAt.below h.1 hb, fun c hc => (h.2 c hc).below hb⟩
theorem EfsAt.below {w w' : World} {l : List Ef} {v : Value} (h : EfsAt w l v) (hb : Below w.heap.size w w') : EfsAt w' l v := ⟨LawFrame.RowsAt.below h.1 hb, fun c hc => (h.2 c hc).below hb⟩
/-- the value of a matrix -/
def Mat.val (m : Mat) (vd vp vc ve : Value) : Value := .agg #[.int .i64 m.retries, .int .i64 m.wait, .int .i64 m.back, .int .i64 m.cycle, .string m.key, vd, vp, vc, ve]
def MatAt (w : World) (m : Mat) (vd vp vc ve : Value) : Prop := DevsAt w m.devs vd ∧ PtsAt w m.pts vp ∧ CssAt w m.css vc ∧ EfsAt w m.efs ve
theorem MatAt.below {w w' : World} {m : Mat} {vd vp vc ve : Value} (h : MatAt w m vd vp vc ve) (hb : Below w.heap.size w w') : MatAt w' m vd vp vc ve :=
  ⟨LawFrame.RowsAt.below h.1 hb, LawFrame.RowsAt.below h.2.1 hb, h.2.2.1.below hb, h.2.2.2.below hb⟩
/-! ### which are right -/
/-- what holds of the first ones of a list -/
def Upto {α : Type} (p : Nat → α → Prop) (l : List α) (k : Nat) : Prop := ∀ (i : Nat) (x : α), i < k → l[i]? = some x → p i x
theorem upto_zero {α : Type} (p : Nat → α → Prop) (l : List α) : Upto p l 0 := fun i x h => absurd h (by omega)
theorem upto_step {α : Type} {p : Nat → α → Prop} {l : List α} {k : Nat} {x : α} (h : Upto p l k) (hx : l[k]? = some x) (hp : p k x) : Upto p l (k + 1) := by
  intro i y hi hy
  by_cases e : i = k
  · subst e; rw [hx] at hy; injection hy with hy; subst hy; exact hp
  · exact h i y (by omega) hy
def All {α : Type} (p : Nat → α → Prop) (l : List α) : Prop := ∀ (i : Nat) (x : α), l[i]? = some x → p i x
theorem upto_all {α : Type} {p : Nat → α → Prop} {l : List α} (h : Upto p l l.length) : All p l := fun i x hx => h i x (List.getElem?_eq_some_iff.1 hx).1 hx
theorem not_all {α : Type} {p : Nat → α → Prop} {l : List α} {k : Nat} {x : α} (hx : l[k]? = some x) (hp : ¬ p k x) : ¬ All p l := fun h => hp (h k x hx)
/-- none ahead is the same -/
def Fresh {α : Type} (same : α → α → Prop) (l : List α) (x : α) (k : Nat) : Prop := ∀ (j : Nat) (y : α), j < k → l[j]? = some y → ¬ same y x
theorem fresh_zero {α : Type} (same : α → α → Prop) (l : List α) (x : α) : Fresh same l x 0 := fun j y h => absurd h (by omega)
theorem fresh_step {α : Type} {same : α → α → Prop} {l : List α} {x y : α} {k : Nat} (h : Fresh same l x k) (hy : l[k]? = some y) (hn : ¬ same y x) : Fresh same l x (k + 1) := by
  intro j z hj hz
  by_cases e : j = k
  · subst e; rw [hy] at hz; injection hz with hz; subst hz; exact hn
  · exact h j z (by omega) hz
def letterB (c : UInt8) : Bool := (97 ≤ c && c ≤ 122) || (48 ≤ c && c ≤ 57)
def hexB (c : UInt8) : Bool := (48 ≤ c && c ≤ 57) || (97 ≤ c && c ≤ 102)
def wordB (s : ByteArray) : Bool := decide (1 ≤ s.size) && decide (s.size ≤ 16) && s.data.toList.all letterB
def keyB (s : ByteArray) : Bool := decide (s.size = 16) && s.data.toList.all hexB
def someP (l : List Int) (most size : Int) : Prop := 1 ≤ (l.length : Int) ∧ (l.length : Int) ≤ most ∧ All (fun i x => (0 ≤ x ∧ x < size) ∧ Fresh (· = ·) l x i) l
def devP (l : List Dev) (i : Nat) (d : Dev) : Prop := (0 ≤ d.line ∧ d.line ≤ 3) ∧ (1 ≤ d.unit ∧ d.unit ≤ 247) ∧ Fresh (fun a b : Dev => a.line = b.line ∧ a.unit = b.unit) l d i
def devsP (l : List Dev) : Prop := l.length ≤ 4 ∧ All (devP l) l
def ptP (l : List Pt) (size : Int) (i : Nat) (p : Pt) : Prop :=
  (0 ≤ p.dev ∧ p.dev < size) ∧ (0 ≤ p.place ∧ p.place ≤ 255) ∧ (0 ≤ p.trip ∧ p.trip ≤ 1) ∧ (0 ≤ p.on ∧ p.on ≤ 1000) ∧ (0 ≤ p.off ∧ p.off ≤ 1000) ∧ Fresh (fun a b : Pt => a.dev = b.dev ∧ a.place = b.place) l p i
def ptsP (l : List Pt) (size : Int) : Prop := l.length ≤ 16 ∧ All (ptP l size) l
def csP (size : Int) (_ : Nat) (c : Cs) : Prop := someP c.pts 4 size ∧ (1 ≤ c.votes ∧ c.votes ≤ (c.pts.length : Int)) ∧ (1 ≤ c.lamp ∧ c.lamp ≤ 6) ∧ (0 ≤ c.limit ∧ c.limit ≤ 100000)
def cssP (l : List Cs) (size : Int) : Prop := l.length ≤ 8 ∧ All (csP size) l
def efP (l : List Ef) (size many : Int) (i : Nat) (e : Ef) : Prop :=
  (0 ≤ e.dev ∧ e.dev < size) ∧ (0 ≤ e.place ∧ e.place ≤ 255) ∧ (0 ≤ e.safe ∧ e.safe ≤ 1) ∧ someP e.cs 8 many ∧ Fresh (fun a b : Ef => a.dev = b.dev ∧ a.place = b.place) l e i
def efsP (l : List Ef) (size many : Int) : Prop := l.length ≤ 8 ∧ All (efP l size many) l
def Mat.names (m : Mat) : List ByteArray := m.devs.map (·.name) ++ m.pts.map (·.name) ++ m.css.map (·.name) ++ m.efs.map (·.name)
def namesP (l : List ByteArray) : Prop := All (fun i s => Fresh (· = ·) l s i ∧ wordB s = true) l
def timesP (m : Mat) : Prop := (0 ≤ m.retries ∧ m.retries ≤ 7) ∧ (1 ≤ m.wait ∧ m.wait ≤ 1000) ∧ (0 ≤ m.back ∧ m.back ≤ 1000) ∧ (1 ≤ m.cycle ∧ m.cycle ≤ 1000)
def RightP (m : Mat) : Prop := timesP m ∧ keyB m.key = true ∧ devsP m.devs ∧ ptsP m.pts m.devs.length ∧ cssP m.css m.pts.length ∧ efsP m.efs m.devs.length m.css.length ∧ namesP m.names
end Go.Proofs.YtckbdnkonccmiaaDoor
