/-
  Lines that come in, each within the reach.
-/
import Derived.Test.YtpoihpehdlogbaaDoorLexFrame
import Derived.SizedLaws
namespace Go.Proofs.YtpoihpehdlogbaaDoor.LawFrame
open Go.ChangeShapes Go.WideShapes Go.ChangeAt Go.RowKit Go.Deep
section
variable {H : Type} {P : Program}
theorem Sz.field {t : TypeId} {fs : Array Field} (ht : P.underlying t = some (.struct fs)) {parts : List (DataW H)} (h : Sz P t (.agg parts)) {j : Nat} {fd : Field} {d : DataW H} (hf : fs[j]? = some fd) (hd : parts[j]? = some d) : Sz P fd.type d := by
  intro n hn
  refine h n ?_
  simp only [DataW.weights, ht]
  exact DataW.weights_mem_each (by simp [hf]) hd n hn
theorem weightsAll_mem {e : TypeId} : ∀ {l : List (DataW H)} {d : DataW H}, d ∈ l → ∀ n ∈ d.weights P e, n ∈ DataW.weightsAll P e l
  | [], d, hd, n, hn => by cases hd
  | x :: l, d, hd, n, hn => by
    simp only [DataW.weightsAll, List.mem_append]
    rcases List.mem_cons.1 hd with rfl | hd
    · exact .inl hn
    · exact .inr (weightsAll_mem hd n hn)
theorem Sz.elem {t e : TypeId} (ht : P.underlying t = some (.slice e)) {elems spare : List (DataW H)} (h : Sz P t (.slice elems spare)) {d : DataW H} (hd : d ∈ elems) : Sz P e d := by
  intro n hn
  refine h n ?_
  simp only [DataW.weights, ht, List.mem_cons, List.mem_append]
  exact .inr (.inl (weightsAll_mem hd n hn))
theorem Sz.len {t e : TypeId} (ht : P.underlying t = some (.slice e)) {elems spare : List (DataW H)} (h : Sz P t (.slice elems spare)) : elems.length * P.bytesOf e ≤ reachBytes := by
  have h1 := h ((elems.length + spare.length) * P.bytesOf e) (by simp [DataW.weights, ht])
  exact Nat.le_trans (Nat.mul_le_mul_right _ (by omega)) h1
end
section
variable {H : Type} {enc : TypeId × Value → H} {P : Program} {w : World} {base : Nat}
/-- a slice of structs of one-cell fields, in a cell, within the reach -/
theorem open_rows_sz {α : Type} (f : α → List Value) {t e : TypeId} {fs : Array Field} {u : Value} {n : Nat} {y : DataW H × List MemPlace} (ht : P.underlying t = some (.slice e)) (he : P.underlying e = some (.struct fs))
    (hone : oneCellFields P fs = true) (hC : P.cellsOf e = fs.size) (hs : 0 < fs.size)
    (dec : ∀ vs : Nat → Value, (∀ (j : Nat) (fd : Field), fs[j]? = some fd → ∃ n y, DataW.trod enc P w 0 (fun _ => true) true n fd.type [vs j] = some y ∧ Sz P fd.type y.1) → ∃ x : α, ∀ j u, (f x)[j]? = some u → j < fs.size ∧ u = vs j)
    (h : DataW.trod enc P w 0 (fun _ => true) true n t [u] = some y) (hz : Sz P t y.1) : ∃ l : List α, RowsAt w fs.size f l u ∧ l.length * P.bytesOf e ≤ reachBytes := by
  rcases open_slice_fields ht he hone hC h with ⟨hcs, hx⟩ | ⟨a, len', cap', m, D, Pl, hcs, _, hl, hm, hmm, hx, hi⟩
  · simp only [List.cons.injEq, and_true] at hcs
    subst hcs
    exact ⟨[], RowsAt.nil w _ f, by simp⟩
  · simp only [List.cons.injEq, and_true] at hcs
    subst hcs hx
    simp only [if_true] at hmm
    subst hmm
    have hlenb := hz.len ht
    simp only [List.length_map, List.length_range] at hlenb
    obtain ⟨l, hln, hp'⟩ := list_of len' (fun i (x : α) => ∀ d u, (f x)[d]? = some u → w.cell? (a.add (i * fs.size + d)) = some u) (fun i hi' => by
      obtain ⟨ys, n, hD, _, hyl, hfld⟩ := hi i (by omega)
      have hzi : Sz P e (D i) := hz.elem ht (List.mem_map.2 ⟨i, List.mem_range.2 hi', rfl⟩)
      rw [hD] at hzi
      have hex : ∀ j : Nat, ∃ u : Value, ∀ fd, fs[j]? = some fd → w.cell? (a.add (i * fs.size + j)) = some u ∧ ∃ n y, DataW.trod enc P w 0 (fun _ => true) true n fd.type [u] = some y ∧ Sz P fd.type y.1 := by
        intro j
        cases hj : fs[j]? with
        | none => exact ⟨undef, fun fd h => by cases h⟩
        | some fd =>
          obtain ⟨u, y, h1, h2, h3⟩ := hfld j fd hj
          exact ⟨u, fun fd' h => by injection h with h; subst h; exact ⟨h1, _, _, h3, hzi.field he hj (by rw [List.getElem?_map, h2]; rfl)⟩⟩
      obtain ⟨vs, hvs⟩ := Classical.axiomOfChoice hex
      obtain ⟨x, hx⟩ := dec vs (fun j fd hj => (hvs j fd hj).2)
      refine ⟨x, fun d u hu => ?_⟩
      obtain ⟨hd, rfl⟩ := hx d u hu
      exact (hvs d fs[d] (Array.getElem?_eq_getElem hd)).1)
    subst hln
    refine ⟨l, ⟨some a, _, rfl, by omega, fun hne => ?_⟩, hlenb⟩
    have h0 : 0 < l.length := List.length_pos_iff.2 hne
    obtain ⟨b, off, rfl⟩ : ∃ b off, a = ⟨b, off, none⟩ := by
      obtain ⟨ys, n, _, _, _, hfld⟩ := hi 0 (by omega)
      obtain ⟨u, _, h1, _⟩ := hfld 0 fs[0] (Array.getElem?_eq_getElem hs)
      exact add_plain' (by simpa using h1)
    refine ⟨b, off, rfl, ?_, fun i x hx' d u hu => ?_⟩
    · obtain ⟨ys, n, _, _, _, hfld⟩ := hi 0 (by omega)
      obtain ⟨u, _, h1, _⟩ := hfld 0 fs[0] (Array.getElem?_eq_getElem hs)
      have := cell_lt h1
      simpa [add_plain] using this
    · have := hp' i x hx' d u hu
      simpa [add_plain, Nat.add_assoc] using this
/-- a slice of one-cell values, in a cell, within the reach -/
theorem open_row1_sz {α : Type} (f : α → Value) {t e : TypeId} {u : Value} {n : Nat} {y : DataW H × List MemPlace} (ht : P.underlying t = some (.slice e)) (hC : P.cellsOf e = 1)
    (dec : ∀ u n y, DataW.trod enc P w 0 (fun _ => true) true n e [u] = some y → ∃ x : α, u = f x)
    (h : DataW.trod enc P w 0 (fun _ => true) true n t [u] = some y) (hz : Sz P t y.1) : ∃ l : List α, RowsAt w 1 (fun x => [f x]) l u ∧ l.length * P.bytesOf e ≤ reachBytes := by
  rcases open_slice1 ht hC h with ⟨hcs, hx⟩ | ⟨a, len', cap', m, n, V, D, Pl, hcs, _, hl, hm, hmm, hx, hi⟩
  · simp only [List.cons.injEq, and_true] at hcs
    subst hcs
    exact ⟨[], RowsAt.nil w _ _, by simp⟩
  · simp only [List.cons.injEq, and_true] at hcs
    subst hcs hx
    simp only [if_true] at hmm
    subst hmm
    have hlenb := hz.len ht
    simp only [List.length_map, List.length_range] at hlenb
    obtain ⟨l, hln, hp'⟩ := list_of len' (fun i (x : α) => w.cell? (a.add i) = some (f x)) (fun i hi' => by
      obtain ⟨h1, h2⟩ := hi i (by omega)
      obtain ⟨x, hx⟩ := dec _ _ _ h2
      exact ⟨x, by rw [h1, hx]⟩)
    subst hln
    refine ⟨l, ⟨some a, _, rfl, by omega, fun hne => ?_⟩, hlenb⟩
    have h0 : 0 < l.length := List.length_pos_iff.2 hne
    have h1 := hp' 0 l[0] (List.getElem?_eq_getElem h0)
    obtain ⟨b, off, rfl⟩ := add_plain' h1
    refine ⟨b, off, rfl, by have := cell_lt h1; simpa [add_plain] using this, fun i x hx' d u hu => ?_⟩
    match d, hu with
    | 0, hu =>
      simp only [List.getElem?_cons_zero, Option.some.injEq] at hu
      subst hu
      simpa [add_plain] using hp' i x hx'
theorem rows_map {α β : Type} {w : World} {m : Nat} {f : β → List Value} {g : α → β} {l : List α} {v : Value} (h : RowsAt w m (fun x => f (g x)) l v) : RowsAt w m f (l.map g) v := by
  obtain ⟨A, c, rfl, hc, hx⟩ := h
  refine ⟨A, c, by simp, by simpa using hc, fun hne => ?_⟩
  obtain ⟨b, off, rfl, hb, hx⟩ := hx (by simpa using hne)
  refine ⟨b, off, rfl, hb, fun i x hi d u hu => ?_⟩
  rw [List.getElem?_map, Option.map_eq_some_iff] at hi
  obtain ⟨y, hy, rfl⟩ := hi
  exact hx i y hy d u hu
end
end Go.Proofs.YtpoihpehdlogbaaDoor.LawFrame
namespace Go.Proofs.YtpoihpehdlogbaaDoor
open Go.RowKit Go.ChangeShapes Go.WideShapes
section
variable {H : Type} {enc : TypeId × Value → H} {w : World} {base : Nat} {v : Value} {d : DataW H} {p : List MemPlace}
theorem reach_small : reachBytes ≤ 1125899906842624 := by decide
theorem open_strs_at {u : Value} {n : Nat} {y : DataW H × List MemPlace} (h : DataW.trod enc Tryd.prog w 0 (fun _ => true) true n 25 [u] = some y) (hz : LawFrame.Sz Tryd.prog 25 y.1) : ∃ l : List ByteArray, StrsAt w l u ∧ l.length ≤ reachBytes := by
  obtain ⟨l, hl, hn⟩ := LawFrame.open_row1_sz (fun x : ByteArray => .string x) Tryd.underlying25 (by kernel_rfl) (fun u n y hy => by
    obtain ⟨z, hz, _, _⟩ := DataW.trod_string Tryd.underlying9 hy
    simp only [List.cons.injEq, and_true] at hz
    exact ⟨z, hz⟩) h hz
  refine ⟨l, hl, ?_⟩
  have e : Tryd.prog.bytesOf 9 = 16 := by kernel_rfl
  rw [e] at hn
  omega
theorem open_lines {r : Reach} (hv : Value.okWide Tryd.prog w r base 22 v) (h : DataW.Trod enc Tryd.prog w 0 (fun _ => true) true 22 v d p) (hz : LawFrame.Sz Tryd.prog 22 d) : ∃ xs : List Ln, LsAt w xs v ∧ xs.length ≤ 1125899906842624 := by
  obtain ⟨a0, len, cap, rfl⟩ := okWide_slice Tryd.underlying22 hv
  obtain ⟨fuel, hf⟩ := h
  obtain ⟨l, hl, hn⟩ := LawFrame.open_rows_sz (fun x : { x : Ln // StrsAt w x.ws x.v ∧ x.ws.length ≤ reachBytes } => x.1.cells) Tryd.underlying22 Tryd.underlying27 (by kernel_rfl) (by kernel_rfl) (by decide) (fun vs hd => by
    obtain ⟨n0, y0, t0, s0⟩ := hd 0 _ rfl
    obtain ⟨n1, y1, t1, s1⟩ := hd 1 _ rfl
    obtain ⟨b0, hb0, _⟩ := DataW.trod_int Tryd.underlying3 t0
    obtain ⟨L, hL, hLn⟩ := open_strs_at t1 s1
    simp only [List.cons.injEq, and_true] at hb0
    refine ⟨⟨⟨b0, vs 1, L⟩, hL, hLn⟩, fun j u hu => ?_⟩
    match j, hu with
    | 0, hu => exact ⟨by decide, by rw [hb0]; exact (Option.some.inj hu).symm⟩
    | 1, hu => exact ⟨by decide, (Option.some.inj hu).symm⟩) (show DataW.trod enc Tryd.prog w 0 (fun _ => true) true fuel 22 [.slice a0 len cap] = some (d, p) from hf) hz
  have e : Tryd.prog.bytesOf 27 = 32 := by kernel_rfl
  rw [e] at hn
  have hr := reach_small
  refine ⟨l.map (·.1), ⟨LawFrame.rows_map hl, fun x hx => ?_⟩, by rw [List.length_map]; omega⟩
  obtain ⟨y, -, rfl⟩ := List.mem_map.1 hx
  exact ⟨y.2.1, by have := y.2.2; omega⟩
end
end Go.Proofs.YtpoihpehdlogbaaDoor
