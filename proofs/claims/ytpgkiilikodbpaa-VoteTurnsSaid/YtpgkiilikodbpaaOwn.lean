/-
  ROWS OF VOTES THAT THE CALL ITSELF MAKES: what an append of some leaves, and a store into one.
-/
import Derived.Test.YtpgkiilikodbpaaHead
import Derived.Test.YtpgkiilikodbpaaPlain2
namespace Go.Proofs.Ytpgkiilikodbpaa
open Go.RowKit Go.ChangeShapes Go.WideShapes

theorem flat_len : ∀ l : List Inn, (l.flatMap Inn.cells).length = l.length * 3
  | [] => rfl
  | x :: l => by simp [Inn.cells, flat_len l]; omega
theorem flat_one (l : List Inn) : ∀ u ∈ l.flatMap Inn.cells, u.oneCell' = true := by
  intro u hu
  obtain ⟨x, _, hx⟩ := List.mem_flatMap.1 hu
  simp only [Inn.cells, List.mem_cons, List.not_mem_nil, or_false] at hx
  rcases hx with rfl | rfl | rfl <;> rfl
/-- cell j of the votes: its vote, and which of its three it is -/
theorem flat_at : ∀ (l : List Inn) (j : Nat) (u : Value), (l.flatMap Inn.cells)[j]? = some u → ∃ i x d, j = i * 3 + d ∧ d < 3 ∧ l[i]? = some x ∧ x.cells[d]? = some u
  | [], j, u, h => by simp at h
  | y :: l, j, u, h => by
    rcases Nat.lt_or_ge j 3 with hj | hj
    · refine ⟨0, y, j, by omega, hj, rfl, ?_⟩
      rw [List.flatMap_cons, List.getElem?_append_left (by simpa [Inn.cells] using hj)] at h
      exact h
    · rw [List.flatMap_cons, List.getElem?_append_right (by simpa [Inn.cells] using hj)] at h
      obtain ⟨i, x, d, hd, h3, hx, hc⟩ := flat_at l _ u h
      simp only [Inn.cells, List.length_cons, List.length_nil] at hd
      exact ⟨i + 1, x, d, by omega, h3, by simpa using hx, hc⟩
theorem InnAt.flat {w : World} {l : List Inn} {b off c : Nat} (h : InnAt w l (.slice (some ⟨b, off, none⟩) l.length c)) : ∀ j u, (l.flatMap Inn.cells)[j]? = some u → w.cell? ((⟨b, off, none⟩ : Addr).add j) = some u := by
  intro j u hu
  obtain ⟨i, x, d, rfl, hd, hx, hc⟩ := flat_at l j u hu
  obtain ⟨A, c', hv, hcc, h⟩ := h
  injection hv with hA _ _
  obtain ⟨b', off', hA', _, hcell⟩ := h (by intro e; subst e; simp at hx)
  rw [hA'] at hA
  injection hA with hA
  injection hA with e1 e2 _
  subst e1 e2
  obtain ⟨h0, h1, h2⟩ := hcell i x hx
  rw [add_plain]
  match d, hd, hc with
  | 0, _, hc => simp [Inn.cells] at hc; rw [← hc]; exact h0
  | 1, _, hc => simp [Inn.cells] at hc; rw [← hc, ← Nat.add_assoc]; exact h1
  | 2, _, hc => simp [Inn.cells] at hc; rw [← hc, ← Nat.add_assoc]; exact h2
/-- a row of the call's own that holds votes -/
def Own (w : World) (base g cap : Nat) (l : List Inn) : Prop := w.ownsRow base 29 3 (.slice (some ⟨g, 0, none⟩) l.length cap) l.length (l.flatMap Inn.cells)
theorem Own.innAt {w : World} {base g cap : Nat} {l : List Inn} (h : Own w base g cap l) : InnAt w l (.slice (some ⟨g, 0, none⟩) l.length cap) := by
  have hlt := (h.lt g rfl).2
  have hcap : l.length ≤ cap := by
    rcases h.2 with ⟨e, _⟩ | ⟨g', cap', cur, e, _, _, hc, _⟩
    · cases e
    · injection e with _ _ e; omega
  refine ⟨_, _, rfl, hcap, fun _ => ⟨g, 0, rfl, hlt, fun i x hx => ?_⟩⟩
  have hi : i < l.length := (List.getElem?_eq_some_iff.1 hx).1
  obtain ⟨h0, h1, h2⟩ := getElem?_flat l i x hx
  simp only [Nat.zero_add]
  exact ⟨(h.cellAt _ (by omega)).trans h0, (h.cellAt _ (by omega)).trans h1, (h.cellAt _ (by omega)).trans h2⟩
theorem Own.lt {w : World} {base g cap : Nat} {l : List Inn} (h : Own w base g cap l) : base ≤ g ∧ g < w.heap.size := World.ownsRow.lt h g rfl
theorem Own.frozen {w : World} {base g cap : Nat} {l : List Inn} (h : Own w base g cap l) (j : Nat) : w.frozen? ⟨g, j, none⟩ = false := h.frozenAt j
theorem Own.kept {w w' : World} {base g cap : Nat} {l : List Inn} (h : Own w base g cap l) (hb : w'.heap[g]? = w.heap[g]?) : Own w' base g cap l := by
  refine ⟨h.1, ?_⟩
  rcases h.2 with ⟨e, _⟩ | ⟨g', cap', cur, e, hbase, hg, rest⟩
  · cases e
  · injection e with e1 e2 e3
    injection e1 with e1
    injection e1 with e1
    subst e1
    exact .inr ⟨g, cap', cur, by rw [e3], hbase, hb.trans hg, rest⟩
theorem Own.below {w w' : World} {base g cap : Nat} {l : List Inn} (h : Own w base g cap l) (hb : Below w.heap.size w w') : Own w' base g cap l := h.kept (hb.block g h.lt.2)
/-- one of them, turned -/
theorem flat_set : ∀ (l : List Inn) (k : Nat) (d : Nat) (x y : Inn) (u : Value), d < 3 → l[k]? = some x → y.cells = x.cells.set d u → (l.flatMap Inn.cells).set (k * 3 + d) u = (l.set k y).flatMap Inn.cells
  | [], k, d, x, y, u, hd, hx, hy => by simp at hx
  | z :: l, 0, d, x, y, u, hd, hx, hy => by
    simp only [List.getElem?_cons_zero, Option.some.injEq] at hx
    subst hx
    simp only [List.set_cons_zero, List.flatMap_cons, hy]
    rw [List.set_append_left _ _ (by simpa [Inn.cells] using hd)]
    simp
  | z :: l, k + 1, d, x, y, u, hd, hx, hy => by
    have ih := flat_set l k d x y u hd (by simpa using hx) hy
    simp only [List.set_cons_succ, List.flatMap_cons]
    rw [List.set_append_right _ _ (by simp [Inn.cells]; omega), ← ih]
    have : (k + 1) * 3 + d - z.cells.length = k * 3 + d := by simp [Inn.cells]; omega
    rw [this]
theorem Own.set {w : World} {base g cap : Nat} {l : List Inn} (h : Own w base g cap l) {k d : Nat} {x y : Inn} {u : Value} (hd : d < 3) (hx : l[k]? = some x) (hy : y.cells = x.cells.set d u) :
    Own (w.setCell ⟨g, k * 3 + d, none⟩ u) base g cap (l.set k y) := by
  have := (h.stored (k * 3 + d) u).1
  rw [flat_set l k d x y u hd hx hy] at this
  unfold Own
  rw [List.length_set]
  exact this
theorem own_of {w : World} {B : Nat} {v : Value} {l : List Inn} (hl : 0 < l.length) (h : w.ownsRow B 29 3 v l.length (l.flatMap Inn.cells)) : ∃ g cap, v = .slice (some ⟨g, 0, none⟩) l.length cap ∧ Own w B g cap l := by
  have h' := h
  rcases h.2 with ⟨_, e⟩ | ⟨g, cap, cur, rfl, _⟩
  · omega
  · exact ⟨g, cap, rfl, h'⟩
theorem below_of_append {w w' : World} {o : Obj} (h : (w.alloc o).grownBy w' (some w.heap.size)) : Below w.heap.size w w' :=
  Below.grown ((Below.refl _ _).alloc (Nat.le_refl _) o) h (by simp) (fun k hk => by injection hk with hk; omega)
theorem Own.cells {w : World} {base g cap : Nat} {l : List Inn} (h : Own w base g cap l) {k : Nat} {x : Inn} (hx : l[k]? = some x) :
    w.cell? ⟨g, k * 3, none⟩ = some (.bool x.trip) ∧ w.cell? ⟨g, k * 3 + 1, none⟩ = some (.bool x.bad) ∧ w.cell? ⟨g, k * 3 + 2, none⟩ = some (.bool x.byp) := by
  have hi : k < l.length := (List.getElem?_eq_some_iff.1 hx).1
  obtain ⟨h0, h1, h2⟩ := getElem?_flat l k x hx
  exact ⟨(h.cellAt _ (by omega)).trans h0, (h.cellAt _ (by omega)).trans h1, (h.cellAt _ (by omega)).trans h2⟩
theorem inn_info : (Try.prog.info? 29).map (fun i => (i.zero, i.size, i.bytes)) = some (some (.agg #[.bool false, .bool false, .bool false]), 3, 3) := by kernel_rfl
theorem Own.far {w : World} {base g cap : Nat} {l : List Inn} (h : Own w base g cap l) {p : Addr} (hp : ¬ g = p.block) (u : Value) : Own (w.setCell p u) base g cap l := h.kept (Below.heap_setCell w p u g hp)
/-- a whole one, stored cell by cell -/
theorem Own.set3 {w : World} {base g cap : Nat} {l : List Inn} (h : Own w base g cap l) {k : Nat} (hk : k < l.length) (t b y : Bool) :
    Own (((w.setCell ⟨g, k * 3, none⟩ (.bool t)).setCell ⟨g, k * 3 + 1, none⟩ (.bool b)).setCell ⟨g, k * 3 + 2, none⟩ (.bool y)) base g cap (l.set k ⟨t, b, y⟩) := by
  have h1 := h.set (k := k) (d := 0) (y := { l[k] with trip := t }) (u := .bool t) (by omega) (List.getElem?_eq_getElem hk) rfl
  have h2 := h1.set (k := k) (d := 1) (x := { l[k] with trip := t }) (y := { l[k] with trip := t, bad := b }) (u := .bool b) (by omega) (by simp [hk]) rfl
  have h3 := h2.set (k := k) (d := 2) (x := { l[k] with trip := t, bad := b }) (y := ⟨t, b, y⟩) (u := .bool y) (by omega) (by simp [hk]) rfl
  simpa using h3
theorem Own.alloc {w : World} {base g cap : Nat} {l : List Inn} (h : Own w base g cap l) (o : Obj) : Own (w.alloc o) base g cap l := h.below ((Below.refl _ _).alloc (Nat.le_refl _) o)
theorem InnAt.alloc {w : World} {l : List Inn} {v : Value} (h : InnAt w l v) (o : Obj) : InnAt (w.alloc o) l v := h.below ((Below.refl _ _).alloc (Nat.le_refl _) o)
/-- 'append([]api.In{}, l...)', l not empty: a row of the call's own that holds the same -/
theorem wpList_append_inn {ops : Array Oper} {rest : List Oper} {o : Oper} {a : Act} {w : World} {Q : Exit → Act → World → Prop} (hgd : o.guard = none) (s x : Operand)
    (ho : o.op = .call { callee := .builtin .append, args := #[s, x], argTypes := #[22, 22] }) (hs : a.eval s = .slice (some ⟨w.heap.size, 0, none⟩) 0 0)
    (b off c : Nat) (l : List Inn) (hx : a.eval x = .slice (some ⟨b, off, none⟩) l.length c) (hI : InnAt w l (.slice (some ⟨b, off, none⟩) l.length c)) (h0 : 0 < l.length) (hl : l.length ≤ 5000)
    (h : ∀ g cap w', Own w' w.heap.size g cap l → Below w.heap.size w w' → wpList Try.prog ops Q rest (a.put o.dst (.slice (some ⟨g, 0, none⟩) l.length cap)) w') : wpList Try.prog ops Q (o :: rest) a (w.alloc (.cells #[] 29)) := by
  obtain ⟨i0, hi0, hz0, hz1, hz2⟩ := info_parts inn_info
  refine wpList_append_own _ hgd s x 22 ho w.heap.size 29 i0 _ 3 3 Try.underlying22 hi0 hz0 hz1 hz2 rfl (by omega) _ 0 [] hs (World.ownsRow_made _ _ 0 (Nat.le_refl _) (by simp) rfl) ⟨b, off, none⟩ l.length c (l.flatMap Inn.cells) hx (flat_len l)
    (hI.alloc _).flat (flat_one l) (by simp only [maxLen]; omega) (by omega) (by simp) ?_
  intro v2 w2 hown2 hgr2 _
  rw [Nat.zero_add, List.nil_append] at hown2
  obtain ⟨g, cap, rfl, hO⟩ := own_of h0 hown2
  exact h g cap w2 hO (below_of_append hgr2)
end Go.Proofs.Ytpgkiilikodbpaa
