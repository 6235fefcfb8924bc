/-
  PLAIN LAWS: bytes that come in pieces are cut to the same as at once.
-/
import Derived.Test.YthcgomfejibkhaaMbapHead
import Derived.Test.YthcgomfejibkhaaMbapCutIs
namespace Go.Proofs.Ythcgomfejibkhaa
open Go.RowKit Mbap

theorem cut_bytes_eq {w : World} {A : Option Addr} {l : List UInt8} {n : Nat} (h : BytesAt w l (.slice A l.length n)) : BytesAt w (l.drop n) (.slice A 0 0) := by
  obtain ⟨A', c', e, hc, -⟩ := h
  injection e with _ _ e3
  subst e3
  have hd : l.drop n = [] := List.drop_eq_nil_of_le (by omega)
  rw [hd]
  exact ⟨A, 0, rfl, Nat.le_refl _, fun h => absurd rfl h⟩
theorem cut_bytes {w : World} {A : Option Addr} {l : List UInt8} {n c : Nat} (h : BytesAt w l (.slice A l.length c)) (hn : n ≤ l.length) (hc : ¬ c = n) : BytesAt w (l.drop n) (.slice (A.map (·.add n)) (l.length - n) (c - n)) := by
  have hcc : l.length ≤ c := by obtain ⟨A', c', e, hc, -⟩ := h; injection e with _ _ e3; omega
  have h1 := (reads_of h).cut (k := n) (cap := c) hn hcc
  rw [if_neg hc, Nat.mul_one, ← List.map_drop, ← List.length_drop] at h1
  rw [← List.length_drop]
  exact BytesAt.of_reads h1 (Nat.le_refl _) (by simp; omega)
/-- more bytes behind some that are cut: what was cut stays, an error stays; else what is left goes on -/
theorem cut_app (x y : List UInt8) : cut (x ++ y) = if (cut x).2.2 = 0 then ((cut x).1 ++ (cut (x.drop (cut x).2.1 ++ y)).1, (cut x).2.1 + (cut (x.drop (cut x).2.1 ++ y)).2.1, (cut (x.drop (cut x).2.1 ++ y)).2.2) else cut x := by
  have h : ∀ (k : Nat) (x : List UInt8), x.length < k → cut (x ++ y) = if (cut x).2.2 = 0 then ((cut x).1 ++ (cut (x.drop (cut x).2.1 ++ y)).1, (cut x).2.1 + (cut (x.drop (cut x).2.1 ++ y)).2.1, (cut (x.drop (cut x).2.1 ++ y)).2.2) else cut x := by
    intro k
    induction k with
    | zero => intro x h; omega
    | succ k ih =>
      intro x hk
      rcases hf : first x with ⟨_ | f, n, e⟩
      · rw [cut_none hf]
        obtain ⟨rfl, rfl | rfl⟩ := first_none hf
        · simp
        · rw [if_neg (by simp), cut_none (first_err hf)]
      · have hs := first_some hf
        have h1 := ih (x.drop n) (by simp; omega)
        rw [cut_some (first_ok (m := y) hf), cut_some hf]
        have hd : (x ++ y).drop n = x.drop n ++ y := List.drop_append_of_le_length (by omega)
        rw [hd, h1]
        simp only [List.drop_drop]
        by_cases he : (cut (x.drop n)).2.2 = 0
        · rw [if_pos he, if_pos he]
          simp [Nat.add_assoc]
        · rw [if_neg he, if_neg he]
  exact h _ x (Nat.lt_succ_self _)
/-- what stands after some pieces: what was got, what is left, what is wrong -/
def Piece (x : List UInt8) (got : List Adu) (left : List UInt8) (bad : Nat) : Prop := (cut x).1 = got ∧ left = x.drop (cut x).2.1 ∧ (cut x).2.2 = bad
theorem Piece.start : Piece [] [] [] 0 := ⟨rfl, rfl, rfl⟩
theorem Piece.more {x y left : List UInt8} {got : List Adu} (h : Piece x got left 0) : Piece (x ++ y) (got ++ (cut (left ++ y)).1) ((left ++ y).drop (cut (left ++ y)).2.1) (cut (left ++ y)).2.2 := by
  obtain ⟨rfl, rfl, h3⟩ := h
  have h := cut_app x y
  rw [if_pos h3] at h
  refine ⟨by rw [h], ?_, by rw [h]⟩
  rw [h]
  simp only
  rw [← List.drop_drop, List.drop_append_of_le_length (cut_le x).1]
theorem Piece.end_ {x y : List UInt8} {got : List Adu} {left : List UInt8} {bad : Nat} (h : Piece x got left bad) (hb : bad ≠ 0 ∨ y = []) : (cut (x ++ y)).1 = got ∧ (cut (x ++ y)).2.2 = bad := by
  obtain ⟨rfl, rfl, rfl⟩ := h
  rcases hb with hb | rfl
  · rw [cut_app, if_neg hb]; exact ⟨rfl, rfl⟩
  · rw [List.append_nil]; exact ⟨rfl, rfl⟩
end Go.Proofs.Ythcgomfejibkhaa
