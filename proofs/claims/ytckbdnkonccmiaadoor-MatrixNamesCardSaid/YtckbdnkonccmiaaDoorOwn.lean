/-
  A ROW OF THE CALL'S OWN reads as a list. No program is in sight.
-/
import Derived.Test.YtckbdnkonccmiaaDoorArgs
import Derived.Test.YtckbdnkonccmiaaDoorWords
namespace Go.Proofs.YtckbdnkonccmiaaDoor.LawFrame
open Go.RowKit

theorem flat_at {α β : Type} {f : α → List β} {m : Nat} (hf : ∀ x, (f x).length = m) : ∀ (l : List α) (i : Nat) (x : α), l[i]? = some x → ∀ d, d < m → (l.flatMap f)[i * m + d]? = (f x)[d]?
  | [], _, _, h, _, _ => by simp at h
  | y :: l, 0, x, h, d, hd => by
    simp only [List.getElem?_cons_zero, Option.some.injEq] at h
    subst h
    simp only [List.flatMap_cons, Nat.zero_mul, Nat.zero_add]
    rw [List.getElem?_append_left (by rw [hf]; exact hd)]
  | y :: l, i + 1, x, h, d, hd => by
    simp only [List.getElem?_cons_succ] at h
    simp only [List.flatMap_cons]
    rw [List.getElem?_append_right (by rw [hf, Nat.succ_mul]; omega), hf, show (i + 1) * m + d - m = i * m + d by rw [Nat.succ_mul]; omega]
    exact flat_at hf l i x h d hd
theorem flat_len {α β : Type} {f : α → List β} {m : Nat} (hf : ∀ x, (f x).length = m) : ∀ l : List α, (l.flatMap f).length = l.length * m
  | [] => by simp
  | y :: l => by simp only [List.flatMap_cons, List.length_append, hf, flat_len hf l, List.length_cons, Nat.succ_mul]; omega
/-- a row that the call made -/
theorem RowsAt.of_own {α : Type} {w : World} {base : Nat} {e : TypeId} {m : Nat} {v : Value} {n : Nat} {f : α → List Value} {l : List α} (hf : ∀ x, (f x).length = m) (hm : 0 < m) (h : w.ownsRow base e m v n (l.flatMap f)) : RowsAt w m f l v := by
  obtain ⟨hl, h⟩ := h
  rw [flat_len hf] at hl
  have hn : n = l.length := (Nat.eq_of_mul_eq_mul_right hm hl).symm
  subst hn
  rcases h with ⟨rfl, h0⟩ | ⟨g, cap, cur, rfl, _, hg, hnc, hcm, hs, ht⟩
  · obtain rfl := List.eq_nil_of_length_eq_zero h0
    exact RowsAt.nil w m f
  · refine ⟨_, cap, rfl, hnc, fun _ => ⟨g, 0, rfl, (Array.getElem?_eq_some_iff.1 hg).1, fun i x hi d u hu => ?_⟩⟩
    rw [cell_of_row w g _ _ _ _ hg, Nat.zero_add]
    have hd : d < m := by rw [← hf x]; exact (List.getElem?_eq_some_iff.1 hu).1
    have h1 := flat_at hf l i x hi d hd
    rw [← ht, hu, List.getElem?_take] at h1
    split at h1
    · simpa using h1
    · cases h1
/-- a slice that reads as a list, as the append's source -/
theorem RowsAt.reads {α : Type} {w : World} {m : Nat} {f : α → List Value} {l : List α} {v : Value} (hf : ∀ x, (f x).length = m) (hm : 0 < m) (h : RowsAt w m f l v) : ∃ A c, v = .slice A l.length c ∧ l.length ≤ c ∧ Words.Reads w w.heap.size m A l.length (l.flatMap f) := by
  obtain ⟨A, c, rfl, hc, h⟩ := h
  refine ⟨A, c, rfl, hc, flat_len hf l, fun hn => ?_⟩
  obtain ⟨b, off, rfl, hb, hx⟩ := h (by intro e; subst e; simp at hn)
  refine ⟨_, rfl, hb, fun j u hu => ?_⟩
  have hj : j < l.length * m := by rw [← flat_len hf l]; exact (List.getElem?_eq_some_iff.1 hu).1
  have hi : j / m < l.length := Nat.div_lt_of_lt_mul (by rw [Nat.mul_comm]; exact hj)
  have hd : j % m < m := Nat.mod_lt _ hm
  have he : j / m * m + j % m = j := by rw [Nat.mul_comm]; exact Nat.div_add_mod j m
  have h1 := flat_at hf l (j / m) l[j / m] (List.getElem?_eq_getElem hi) (j % m) hd
  rw [he, hu] at h1
  have h2 := hx (j / m) l[j / m] (List.getElem?_eq_getElem hi) (j % m) u h1.symm
  rw [Go.WideShapes.add_plain]
  rw [Nat.add_assoc, he] at h2
  exact h2
/-- the cells of a block, as the append's source -/
theorem reads_block {w : World} {g : Nat} {t : TypeId} {xs : List Value} {B size n : Nat} (h : w.heap[g]? = some (.cells xs.toArray t (0, 0))) (hB : g < B) (hn : xs.length = n * size) : Words.Reads w B size (some ⟨g, 0, none⟩) n xs := by
  refine ⟨hn, fun _ => ⟨_, rfl, hB, fun j u hu => ?_⟩⟩
  rw [Go.WideShapes.add_plain, Nat.zero_add, cell_of_row w g j _ _ _ h]
  simpa using hu
theorem flat_one {α β : Type} (f : α → β) (l : List α) : l.flatMap (fun x => [f x]) = l.map f := by
  induction l with
  | nil => rfl
  | cons x l ih => simp [ih]
end Go.Proofs.YtckbdnkonccmiaaDoor.LawFrame
