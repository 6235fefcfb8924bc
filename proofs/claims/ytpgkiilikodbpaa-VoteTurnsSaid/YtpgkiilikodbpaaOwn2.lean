/-
  MORE OF ROWS OF VOTES THAT THE CALL ITSELF MAKES: append of a part of an argument, inside a statement whose order is drawn.
-/
import Derived.Test.YtpgkiilikodbpaaOwn
import Derived.Deep.RegionLaw
namespace Go.Proofs.Ytpgkiilikodbpaa
open Go.RowKit Go.ChangeShapes Go.WideShapes

theorem flat_drop : ∀ (l : List Inn) (k : Nat), (l.drop k).flatMap Inn.cells = (l.flatMap Inn.cells).drop (k * 3)
  | [], k => by simp
  | x :: l, 0 => by simp
  | x :: l, k + 1 => by
    rw [List.drop_succ_cons, flat_drop l k, List.flatMap_cons, List.drop_append]
    have e : (k + 1) * 3 - x.cells.length = k * 3 := by simp [Inn.cells]; omega
    have e2 : x.cells.drop ((k + 1) * 3) = [] := List.drop_of_length_le (by simp [Inn.cells]; omega)
    rw [e, e2, List.nil_append]
theorem flat_take : ∀ (l : List Inn) (k : Nat), (l.take k).flatMap Inn.cells = (l.flatMap Inn.cells).take (k * 3)
  | [], k => by simp
  | x :: l, 0 => by simp
  | x :: l, k + 1 => by
    rw [List.take_succ_cons, List.flatMap_cons, flat_take l k, List.flatMap_cons, List.take_append]
    have e : (k + 1) * 3 - x.cells.length = k * 3 := by simp [Inn.cells]; omega
    have e2 : x.cells.take ((k + 1) * 3) = x.cells := List.take_of_length_le (by simp [Inn.cells]; omega)
    rw [e, e2]
/-- the cells of l[k:] and of l[:k] -/
theorem InnAt.flat_from {w : World} {l : List Inn} {b off c k : Nat} (h : InnAt w l (.slice (some ⟨b, off, none⟩) l.length c)) : ∀ j u, ((l.drop k).flatMap Inn.cells)[j]? = some u → w.cell? ((⟨b, off + k * 3, none⟩ : Addr).add j) = some u := by
  intro j u hu
  rw [flat_drop, List.getElem?_drop] at hu
  have := h.flat _ u hu
  rw [add_plain] at this ⊢
  rw [Nat.add_assoc]; exact this
theorem InnAt.flat_to {w : World} {l : List Inn} {b off c k : Nat} (h : InnAt w l (.slice (some ⟨b, off, none⟩) l.length c)) : ∀ j u, ((l.take k).flatMap Inn.cells)[j]? = some u → w.cell? ((⟨b, off, none⟩ : Addr).add j) = some u := by
  intro j u hu
  rw [flat_take, List.getElem?_take] at hu
  split at hu
  · exact h.flat _ u hu
  · cases hu
theorem Own.made (w : World) : Own (w.alloc (.cells #[] 29)) w.heap.size w.heap.size 0 [] := World.ownsRow_made _ _ 0 (Nat.le_refl _) (by simp) rfl
theorem step_append_votes {ops : Array Oper} {o : Oper} {a : Act} {w : World} {K : Act → World → Prop} {Q : Exit → Act → World → Prop} {E : Prop} (hgd : o.guard = none) (s x : Operand)
    (ho : o.op = .call { callee := .builtin .append, args := #[s, x], argTypes := #[22, 22] }) (base g cap : Nat) (xs : List Inn) (n : Nat) (hs : a.eval s = .slice (some ⟨g, 0, none⟩) n cap) (hn : n = xs.length) (hO : Own w base g cap xs)
    (ad : Addr) (m c : Nat) (ys : List Inn) (hx : a.eval x = .slice (some ad) m c) (hm : m = ys.length) (hI : ∀ j u, (ys.flatMap Inn.cells)[j]? = some u → w.cell? (ad.add j) = some u) (hlen : xs.length + ys.length ≤ 10000) (hbase : base ≤ w.heap.size)
    (h : ∀ g' cap' w', Own w' base g' cap' (xs ++ ys) → Below base w w' → K (a.put o.dst (.slice (some ⟨g', 0, none⟩) (n + m) cap')) w') :
    if Region.wanted o (yielded ops a.tmps) = true then Oper.wp Try.prog o a w K Q else E := by
  have hw : Region.wanted o (yielded ops a.tmps) = true := by simp [Region.wanted, hgd]
  rw [if_pos hw]
  subst hn hm
  obtain ⟨i0, hi0, hz0, hz1, hz2⟩ := info_parts inn_info
  refine wp_append_own _ s x 22 ho base 29 i0 _ 3 3 Try.underlying22 hi0 hz0 hz1 hz2 rfl (by omega) _ xs.length (xs.flatMap Inn.cells) hs hO ad ys.length c (ys.flatMap Inn.cells) hx (flat_len ys) hI (flat_one ys) (by simp only [maxLen]; omega) (by omega) hbase ?_
  intro v2 w2 hown2 hgr2 hnn
  have hb : Below base w w2 := Below.grown (Below.refl _ _) hgr2 hbase (fun k hk => by simp [Value.ownBlock] at hk; have := hO.lt.1; omega)
  rw [← List.flatMap_append] at hown2
  rcases hown2.2 with ⟨e, _⟩ | ⟨g', cap', cur, rfl, rest⟩
  · exact absurd (hnn.1 e).1 (by simp)
  · refine h g' cap' w2 ?_ hb
    unfold Own
    rw [List.length_append]
    exact hown2
theorem new_cells (w : World) (cs : List Value) (t : TypeId) : ∀ j u, cs[j]? = some u → (w.alloc (.cells cs.toArray t)).cell? ((⟨w.heap.size, 0, none⟩ : Addr).add j) = some u := by
  intro j u hu
  rw [add_plain, Nat.zero_add, cell_of_row _ _ _ _ _ _ (heap_alloc_new w _)]
  simpa using hu
/-- 'append(v, x)', v nil or a row of the call's own -/
theorem wpList_append_one {ops : Array Oper} {rest : List Oper} {o : Oper} {a : Act} {w : World} {Q : Exit → Act → World → Prop} (hgd : o.guard = none) (s x : Operand)
    (ho : o.op = .call { callee := .builtin .append, args := #[s, x], argTypes := #[22, 22] }) (base : Nat) (n : Nat) (v : Value) (xs : List Value) (hs : a.eval s = v) (hO : w.ownsRow base 29 3 v n xs)
    (cs : List Value) (hx : a.eval x = .slice (some ⟨w.heap.size, 0, none⟩) 1 1) (h3 : cs.length = 3) (h1 : ∀ u ∈ cs, u.oneCell' = true) (hn : n ≤ 10000) (hbase : base ≤ w.heap.size)
    (h : ∀ v' w', w'.ownsRow base 29 3 v' (n + 1) (xs ++ cs) → Below base w w' → wpList Try.prog ops Q rest (a.put o.dst v') w') : wpList Try.prog ops Q (o :: rest) a (w.alloc (.cells cs.toArray 29)) := by
  obtain ⟨i0, hi0, hz0, hz1, hz2⟩ := info_parts inn_info
  refine wpList_append_own _ hgd s x 22 ho base 29 i0 _ 3 3 Try.underlying22 hi0 hz0 hz1 hz2 rfl (by omega) v n xs hs (hO.alloc _) ⟨w.heap.size, 0, none⟩ 1 1 cs hx (by omega) (new_cells w cs 29) h1 (by simp only [maxLen]; omega) (by omega) (by simp; omega) ?_
  intro v2 w2 hown2 hgr2 _
  refine h v2 w2 hown2 (Below.grown ((Below.refl _ _).alloc hbase _) hgr2 (by simp; omega) (fun k hk => (hO.lt k hk).1))
theorem innAt_of_owns {w : World} {base n : Nat} {v : Value} {l : List Inn} (hn : n = l.length) (h : w.ownsRow base 29 3 v n (l.flatMap Inn.cells)) : InnAt w l v := by
  subst hn
  rcases h.2 with ⟨rfl, e2⟩ | ⟨g, cap, cur, rfl, _⟩
  · have : l = [] := List.eq_nil_of_length_eq_zero e2
    subst this
    exact ⟨none, 0, rfl, Nat.le_refl _, fun h => absurd rfl h⟩
  · exact Own.innAt (base := base) h
theorem flat_zero (n : Nat) : (madeCells #[.bool false, .bool false, .bool false] (n * 3)).toList = (List.replicate n (⟨false, false, false⟩ : Inn)).flatMap Inn.cells := by
  have h1 : (List.replicate n (⟨false, false, false⟩ : Inn)).flatMap Inn.cells = List.replicate (n * 3) (.bool false) := by
    induction n with
    | zero => rfl
    | succ n ih =>
      rw [List.replicate_succ, List.flatMap_cons, ih]
      have e : (n + 1) * 3 = n * 3 + 1 + 1 + 1 := by omega
      rw [e]
      simp [Inn.cells, List.replicate_succ]
  rw [h1]
  apply List.ext_getElem?
  intro j
  by_cases hj : j < n * 3
  · have h3 : j % 3 < 3 := Nat.mod_lt _ (by omega)
    have : j % 3 = 0 ∨ j % 3 = 1 ∨ j % 3 = 2 := by omega
    rcases this with e | e | e <;> simp [madeCells, hj, e]
  · simp [madeCells, hj]
end Go.Proofs.Ytpgkiilikodbpaa
