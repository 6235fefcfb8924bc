/-
  ARGUMENTS, OPENED, over any program: slices of one-cell values, and of structs of one-cell fields, read as lists.
-/
import Derived.Test.YtckbdnkonccmiaaDoorFrame
namespace Go.Proofs.YtckbdnkonccmiaaDoor.LawFrame
open Go.ChangeShapes Go.WideShapes Go.ChangeAt Go.RowKit Go.Deep

/-- a slice value that reads as a list, m cells an element -/
def RowsAt {α : Type} (w : World) (m : Nat) (f : α → List Value) (l : List α) (v : Value) : Prop :=
  ∃ (A : Option Addr) (c : Nat), v = .slice A l.length c ∧ l.length ≤ c ∧ (l ≠ [] → ∃ b off, A = some ⟨b, off, none⟩ ∧ b < w.heap.size ∧
    ∀ i x, l[i]? = some x → ∀ d u, (f x)[d]? = some u → w.cell? ⟨b, off + i * m + d, none⟩ = some u)
theorem RowsAt.keep {α : Type} {w w' : World} {m : Nat} {f : α → List Value} {l : List α} {v : Value} (h : RowsAt w m f l v) (hz : w.heap.size ≤ w'.heap.size) (hb : ∀ k, k < w.heap.size → w'.heap[k]? = w.heap[k]?) : RowsAt w' m f l v := by
  obtain ⟨A, c, hv, hc, h⟩ := h
  refine ⟨A, c, hv, hc, fun hl => ?_⟩
  obtain ⟨b, off, hA, hlt, hx⟩ := h hl
  refine ⟨b, off, hA, Nat.lt_of_lt_of_le hlt hz, fun i x hi d u hu => ?_⟩
  exact (World.cell?_of_block (w := w) (a := ⟨b, _, none⟩) (hb b hlt)).trans (hx i x hi d u hu)
theorem RowsAt.below {α : Type} {w w' : World} {m : Nat} {f : α → List Value} {l : List α} {v : Value} (h : RowsAt w m f l v) (hb : Below w.heap.size w w') : RowsAt w' m f l v := h.keep hb.size hb.block
/-- below some block -/
theorem RowsAt.below_at {α : Type} {w w' : World} {m B : Nat} {f : α → List Value} {l : List α} {v : Value} {A : Option Addr} {c : Nat} (hv : v = .slice A l.length c) (h : RowsAt w m f l v) (hb : Below B w w') (hB : ∀ b off, A = some ⟨b, off, none⟩ → b < B) : RowsAt w' m f l v := by
  subst hv
  obtain ⟨A', c', hv', hc, h⟩ := h
  refine ⟨A', c', hv', hc, fun hl => ?_⟩
  obtain ⟨b, off, hA, hlt, hx⟩ := h hl
  have hA0 : A = some ⟨b, off, none⟩ := by injection hv' with e _ _; rw [e, hA]
  have hbB := hB b off hA0
  exact ⟨b, off, hA, Nat.lt_of_lt_of_le hlt hb.size, fun i x hi d u hu => (World.cell?_of_block (w := w) (a := ⟨b, _, none⟩) (hb.block b hbB)).trans (hx i x hi d u hu)⟩
theorem RowsAt.nil {α : Type} (w : World) (m : Nat) (f : α → List Value) : RowsAt w m f ([] : List α) (.slice none 0 0) := ⟨none, 0, rfl, Nat.le_refl _, fun h => absurd rfl h⟩
/-- the cells of an element -/
theorem RowsAt.at_ {α : Type} {w : World} {m : Nat} {f : α → List Value} {l : List α} {v : Value} (h : RowsAt w m f l v) {i : Nat} {x : α} (hx : l[i]? = some x) :
    ∃ b off c, v = .slice (some ⟨b, off, none⟩) l.length c ∧ b < w.heap.size ∧ ∀ d u, (f x)[d]? = some u → w.cell? ⟨b, off + i * m + d, none⟩ = some u := by
  obtain ⟨A, c, hv, hc, h⟩ := h
  obtain ⟨b, off, rfl, hlt, hcell⟩ := h (by intro e; subst e; simp at hx)
  exact ⟨b, off, c, hv, hlt, hcell i x hx⟩

section
variable {H : Type} {enc : TypeId × Value → H} {P : Program} {w : World} {base : Nat}

theorem open_rows {α : Type} (f : α → List Value) {t e : TypeId} {fs : Array Field} {v : Value} {d : DataW H} {p : List MemPlace} (ht : P.underlying t = some (.slice e)) (he : P.underlying e = some (.struct fs))
    (hone : oneCellFields P fs = true) (hC : P.cellsOf e = fs.size) (hs : 0 < fs.size)
    (dec : ∀ vs : Nat → Value, (∀ (j : Nat) (fd : Field), fs[j]? = some fd → ∃ n y, DataW.trod enc P w 0 (fun _ => true) true n fd.type [vs j] = some y) → ∃ x : α, ∀ j u, (f x)[j]? = some u → j < fs.size ∧ u = vs j)
    (hv : Value.okWide P w .any base t v) (h : DataW.Trod enc P w 0 (fun _ => true) true t v d p) : ∃ l : List α, RowsAt w fs.size f l v ∧ l.length ≤ maxLen := by
  obtain ⟨a0, len, cap, rfl⟩ := okWide_slice ht hv
  obtain ⟨fuel, hf⟩ := h
  rcases open_slice_fields ht he hone hC hf with ⟨hcs, hx⟩ | ⟨a, len', cap', m, D, Pl, hcs, _, hl, hm, hmm, hx, hi⟩
  · have e : (Value.slice a0 len cap) = .slice none 0 0 := by simpa [Value.cells] using hcs
    injection e with e1 e2 e3
    subst e1 e2 e3
    exact ⟨[], RowsAt.nil w _ f, by simp⟩
  · have e : (Value.slice a0 len cap) = .slice (some a) len' cap' := by simpa [Value.cells] using hcs
    injection e with e1 e2 e3
    subst e1 e2 e3
    simp only [if_true] at hmm
    subst hmm
    obtain ⟨l, hln, hp'⟩ := list_of len (fun i (x : α) => ∀ d u, (f x)[d]? = some u → w.cell? (a.add (i * fs.size + d)) = some u) (fun i hi' => by
      obtain ⟨ys, n, _, _, hyl, hfld⟩ := hi i (by omega)
      have hex : ∀ j : Nat, ∃ u : Value, ∀ fd, fs[j]? = some fd → w.cell? (a.add (i * fs.size + j)) = some u ∧ ∃ n y, DataW.trod enc P w 0 (fun _ => true) true n fd.type [u] = some y := by
        intro j
        cases hj : fs[j]? with
        | none => exact ⟨undef, fun fd h => by cases h⟩
        | some fd =>
          obtain ⟨u, y, h1, _, h3⟩ := hfld j fd hj
          exact ⟨u, fun fd' h => by injection h with h; subst h; exact ⟨h1, _, _, h3⟩⟩
      obtain ⟨vs, hvs⟩ := Classical.axiomOfChoice hex
      obtain ⟨x, hx⟩ := dec vs (fun j fd hj => (hvs j fd hj).2)
      refine ⟨x, fun d u hu => ?_⟩
      obtain ⟨hd, rfl⟩ := hx d u hu
      exact (hvs d fs[d] (Array.getElem?_eq_getElem hd)).1)
    subst hln
    refine ⟨l, ⟨some a, _, rfl, by omega, fun hne => ?_⟩, by omega⟩
    have h0 : 0 < l.length := List.length_pos_iff.2 hne
    obtain ⟨b, off, rfl⟩ : ∃ b off, a = ⟨b, off, none⟩ := by
      obtain ⟨ys, n, _, _, _, hfld⟩ := hi 0 (by omega)
      obtain ⟨u, _, h1, _⟩ := hfld 0 fs[0] (Array.getElem?_eq_getElem hs)
      exact add_plain' (by simpa using h1)
    refine ⟨b, off, rfl, ?_, fun i x hx' d u hu => ?_⟩
    · obtain ⟨ys, n, _, _, _, hfld⟩ := hi 0 (by omega)
      obtain ⟨u, _, h1, _⟩ := hfld 0 fs[0] (Array.getElem?_eq_getElem hs)
      have := cell_lt h1
      simpa [add_plain] using this
    · simpa [add_plain, Nat.add_assoc] using hp' i x hx' d u hu
/-- one-cell elements -/
theorem open_row1 {α : Type} (f : α → Value) {t e : TypeId} {v : Value} {d : DataW H} {p : List MemPlace} (ht : P.underlying t = some (.slice e)) (hC : P.cellsOf e = 1)
    (dec : ∀ u n y, DataW.trod enc P w 0 (fun _ => true) true n e [u] = some y → ∃ x : α, u = f x)
    (hv : Value.okWide P w .any base t v) (h : DataW.Trod enc P w 0 (fun _ => true) true t v d p) : ∃ l : List α, RowsAt w 1 (fun x => [f x]) l v ∧ l.length ≤ maxLen := by
  obtain ⟨a0, len, cap, rfl⟩ := okWide_slice ht hv
  obtain ⟨fuel, hf⟩ := h
  rcases open_slice1 ht hC hf with ⟨hcs, hx⟩ | ⟨a, len', cap', m, n, V, D, Pl, hcs, _, hl, hm, hmm, hx, hi⟩
  · have e : (Value.slice a0 len cap) = .slice none 0 0 := by simpa [Value.cells] using hcs
    injection e with e1 e2 e3
    subst e1 e2 e3
    exact ⟨[], RowsAt.nil w _ _, by simp⟩
  · have e : (Value.slice a0 len cap) = .slice (some a) len' cap' := by simpa [Value.cells] using hcs
    injection e with e1 e2 e3
    subst e1 e2 e3
    simp only [if_true] at hmm
    subst hmm
    obtain ⟨l, hln, hp'⟩ := list_of len (fun i (x : α) => w.cell? (a.add i) = some (f x)) (fun i hi' => by
      obtain ⟨h1, h2⟩ := hi i (by omega)
      obtain ⟨x, hx⟩ := dec _ _ _ h2
      exact ⟨x, by rw [h1, hx]⟩)
    subst hln
    refine ⟨l, ⟨some a, _, rfl, by omega, fun hne => ?_⟩, by omega⟩
    have h0 : 0 < l.length := List.length_pos_iff.2 hne
    have h1 := hp' 0 l[0] (List.getElem?_eq_getElem h0)
    obtain ⟨b, off, rfl⟩ := add_plain' h1
    refine ⟨b, off, rfl, by have := cell_lt h1; simpa [add_plain] using this, fun i x hx' d u hu => ?_⟩
    match d, hu with
    | 0, hu =>
      simp only [List.getElem?_cons_zero, Option.some.injEq] at hu
      subst hu
      simpa [add_plain] using hp' i x hx'
theorem open_bools {t e : TypeId} {v : Value} {d : DataW H} {p : List MemPlace} (ht : P.underlying t = some (.slice e)) (he : P.underlying e = some .bool) (hC : P.cellsOf e = 1)
    (hv : Value.okWide P w .any base t v) (h : DataW.Trod enc P w 0 (fun _ => true) true t v d p) : ∃ l : List Bool, RowsAt w 1 (fun x => [.bool x]) l v ∧ l.length ≤ maxLen :=
  open_row1 .bool ht hC (fun u n y hy => by
    obtain ⟨b, hb, _⟩ := DataW.trod_bool he hy
    simp only [List.cons.injEq, and_true] at hb
    exact ⟨b, hb⟩) hv h
/-- bytes: each a number below 256 -/
theorem open_bytes {t e : TypeId} {v : Value} {d : DataW H} {p : List MemPlace} (ht : P.underlying t = some (.slice e)) (he : P.underlying e = some (.int .u8)) (hC : P.cellsOf e = 1)
    (hv : Value.okWide P w .any base t v) (h : DataW.Trod enc P w 0 (fun _ => true) true t v d p) : ∃ l : List UInt8, RowsAt w 1 (fun x => [.int .u8 (x.toNat : Int)]) l v ∧ l.length ≤ maxLen :=
  open_row1 (fun x : UInt8 => .int .u8 (x.toNat : Int)) ht hC (fun u n y hy => by
    obtain ⟨z, hz, _, hw⟩ := DataW.trod_int he hy
    simp only [List.cons.injEq, and_true] at hz
    obtain ⟨h0, h1⟩ := bounds_u8 hw
    refine ⟨UInt8.ofNat z.toNat, ?_⟩
    have e2 : (((UInt8.ofNat z.toNat).toNat : Nat) : Int) = z := by rw [UInt8.toNat_ofNat']; omega
    rw [hz, e2]) hv h
/-- whole numbers of a kind -/
theorem open_nums {k : IntKind} {t e : TypeId} {v : Value} {d : DataW H} {p : List MemPlace} (ht : P.underlying t = some (.slice e)) (he : P.underlying e = some (.int k)) (hC : P.cellsOf e = 1)
    (hv : Value.okWide P w .any base t v) (h : DataW.Trod enc P w 0 (fun _ => true) true t v d p) : ∃ l : List { n : Int // (Lit.int k n).wf = true }, RowsAt w 1 (fun x => [.int k x.1]) l v ∧ l.length ≤ maxLen :=
  open_row1 (fun x : { n : Int // (Lit.int k n).wf = true } => .int k x.1) ht hC (fun u n y hy => by
    obtain ⟨z, hz, _, hw⟩ := DataW.trod_int he hy
    simp only [List.cons.injEq, and_true] at hz
    exact ⟨⟨z, hw⟩, hz⟩) hv h
/-- the same, of a cell -/
theorem open_row1_at {α : Type} (f : α → Value) {t e : TypeId} {u : Value} {n : Nat} {y : DataW H × List MemPlace} (ht : P.underlying t = some (.slice e)) (hC : P.cellsOf e = 1)
    (dec : ∀ u n y, DataW.trod enc P w 0 (fun _ => true) true n e [u] = some y → ∃ x : α, u = f x)
    (h : DataW.trod enc P w 0 (fun _ => true) true n t [u] = some y) : ∃ l : List α, RowsAt w 1 (fun x => [f x]) l u ∧ l.length ≤ maxLen := by
  rcases open_slice1 ht hC h with ⟨hcs, hx⟩ | ⟨a, len', cap', m, n, V, D, Pl, hcs, _, hl, hm, hmm, hx, hi⟩
  · simp only [List.cons.injEq, and_true] at hcs
    subst hcs
    exact ⟨[], RowsAt.nil w _ _, by simp⟩
  · simp only [List.cons.injEq, and_true] at hcs
    subst hcs
    simp only [if_true] at hmm
    subst hmm
    obtain ⟨l, hln, hp'⟩ := list_of len' (fun i (x : α) => w.cell? (a.add i) = some (f x)) (fun i hi' => by
      obtain ⟨h1, h2⟩ := hi i (by omega)
      obtain ⟨x, hx⟩ := dec _ _ _ h2
      exact ⟨x, by rw [h1, hx]⟩)
    subst hln
    refine ⟨l, ⟨some a, _, rfl, by omega, fun hne => ?_⟩, by omega⟩
    have h0 : 0 < l.length := List.length_pos_iff.2 hne
    have h1 := hp' 0 l[0] (List.getElem?_eq_getElem h0)
    obtain ⟨b, off, rfl⟩ := add_plain' h1
    refine ⟨b, off, rfl, by have := cell_lt h1; simpa [add_plain] using this, fun i x hx' d u hu => ?_⟩
    match d, hu with
    | 0, hu =>
      simp only [List.getElem?_cons_zero, Option.some.injEq] at hu
      subst hu
      simpa [add_plain] using hp' i x hx'
theorem open_bytes_at {t e : TypeId} {u : Value} {n : Nat} {y : DataW H × List MemPlace} (ht : P.underlying t = some (.slice e)) (he : P.underlying e = some (.int .u8)) (hC : P.cellsOf e = 1)
    (h : DataW.trod enc P w 0 (fun _ => true) true n t [u] = some y) : ∃ l : List UInt8, RowsAt w 1 (fun x => [.int .u8 (x.toNat : Int)]) l u ∧ l.length ≤ maxLen :=
  open_row1_at (fun x : UInt8 => .int .u8 (x.toNat : Int)) ht hC (fun u n y hy => by
    obtain ⟨z, hz, _, hw⟩ := DataW.trod_int he hy
    simp only [List.cons.injEq, and_true] at hz
    obtain ⟨h0, h1⟩ := bounds_u8 hw
    refine ⟨UInt8.ofNat z.toNat, ?_⟩
    have e2 : (((UInt8.ofNat z.toNat).toNat : Nat) : Int) = z := by rw [UInt8.toNat_ofNat']; omega
    rw [hz, e2]) h
end
end Go.Proofs.YtckbdnkonccmiaaDoor.LawFrame
