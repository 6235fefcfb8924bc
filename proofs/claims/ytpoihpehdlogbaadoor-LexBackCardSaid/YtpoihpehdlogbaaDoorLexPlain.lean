/-
  Words of a text, in plain Lean: what is wrong with a line, which words it has, and which lines a text has.
-/
import Derived.Test.YtpoihpehdlogbaaDoorLexBase
import Derived.Lib.Fields
import Derived.Lib.IndexMore
namespace Go.Proofs.YtpoihpehdlogbaaDoor
open Go.RowKit
/-- what may stand in a line -/
def okB (c : UInt8) : Bool := c == 32 || letterB c
def toB (l : List UInt8) : ByteArray := ⟨l.toArray⟩
def longB (w : List UInt8) : Bool := decide (16 < w.length)
/-- what is wrong with a line's words -/
def wordsE (l : List UInt8) : Option Int :=
  if l.all okB = true then (if (Lib.fields l).any longB = true then some 72 else if 14 < (Lib.fields l).length then some 2 else none) else some 71
/-- a text, cut at a byte -/
def pieces (c : UInt8) : List UInt8 → List (List UInt8)
  | [] => [[]]
  | b :: l => if b == c then [] :: pieces c l else match pieces c l with | [] => [[b]] | p :: ps => (b :: p) :: ps
/-- a line, up to its remark -/
def strip (l : List UInt8) : List UInt8 := l.takeWhile (· != 35)
def items : Nat → List (List UInt8) → List (Nat × List UInt8)
  | _, [] => []
  | no, p :: ps => (no, strip p) :: items (no + 1) ps
def badOf (x : Nat × List UInt8) : Option (Int × Int) := (wordsE x.2).map (fun k => (k, (x.1 : Int)))
def firstBad (l : List (Nat × List UInt8)) : Option (Int × Int) := l.findSome? badOf
def lineOf (x : Nat × List UInt8) : List (Nat × List (List UInt8)) := if Lib.fields x.2 = [] then [] else [(x.1, Lib.fields x.2)]
def gather (l : List (Nat × List UInt8)) : List (Nat × List (List UInt8)) := l.flatMap lineOf
/-- the lines of a text, with their numbers -/
def itemsOf (l : List UInt8) : List (Nat × List UInt8) := items 1 (pieces 10 l)
/-- what is wrong with a text, and where -/
def textE (l : List UInt8) : Option (Int × Int) := if 4096 < l.length then some (2, 0) else firstBad (itemsOf l)
/-- the lines of a text that have words -/
def textL (l : List UInt8) : List (Nat × List (List UInt8)) := gather (itemsOf l)
theorem toB_list (l : List UInt8) : (toB l).data.toList = l := by simp [toB]
theorem toB_size (l : List UInt8) : (toB l).size = l.length := by simp [toB, ByteArray.size]
theorem toB_of (s : ByteArray) : toB s.data.toList = s := by cases s; simp [toB]
theorem letter_ascii {c : UInt8} (h : letterB c = true) : c.toNat < 128 := by
  have := (letterB_iff c).1 h; omega
theorem ok_ascii {c : UInt8} (h : okB c = true) : c.toNat < 128 := by
  unfold okB at h
  rw [Bool.or_eq_true] at h
  rcases h with h | h
  · rw [beq_iff_eq] at h; subst h; decide
  · exact letter_ascii h
theorem fieldsGo_len : ∀ (l cur : List UInt8), (Lib.fieldsGo cur l).length ≤ l.length + 1
  | [], cur => by unfold Lib.fieldsGo; split <;> simp
  | b :: l, cur => by
    unfold Lib.fieldsGo
    have h1 := fieldsGo_len l []
    have h2 := fieldsGo_len l (cur ++ [b])
    split
    · split <;> simp <;> omega
    · simp; omega
theorem fields_len (l : List UInt8) : (Lib.fields l).length ≤ l.length + 1 := fieldsGo_len l []
theorem fieldsGo_mem : ∀ (l cur : List UInt8) (w : List UInt8), w ∈ Lib.fieldsGo cur l → w.length ≤ cur.length + l.length
  | [], cur, w, h => by
    unfold Lib.fieldsGo at h
    split at h
    · simp at h
    · simp at h; subst h; simp
  | b :: l, cur, w, h => by
    unfold Lib.fieldsGo at h
    split at h
    · split at h
      · have := fieldsGo_mem l [] w h; simp at this ⊢; omega
      · rcases List.mem_cons.1 h with rfl | h
        · simp
        · have := fieldsGo_mem l [] w h; simp at this ⊢; omega
    · have := fieldsGo_mem l (cur ++ [b]) w h; simp at this ⊢; omega
theorem fields_mem {l w : List UInt8} (h : w ∈ Lib.fields l) : w.length ≤ l.length := by
  have := fieldsGo_mem l [] w h; simpa using this
theorem strip_len (l : List UInt8) : (strip l).length ≤ l.length := (List.takeWhile_sublist _).length_le
theorem pieces_ne (c : UInt8) (l : List UInt8) : pieces c l ≠ [] := by
  cases l with
  | nil => simp [pieces]
  | cons b l =>
    unfold pieces
    split
    · simp
    · split <;> simp
end Go.Proofs.YtpoihpehdlogbaaDoor
