/-
  The matrix that comes in, read as lists, each within the reach.
-/
import Derived.Test.YtckbdnkonccmiaaDoorMatFrame
import Derived.SizedLaws
namespace Go.Proofs.YtckbdnkonccmiaaDoor.LawFrame
open Go.ChangeShapes Go.WideShapes Go.ChangeAt Go.RowKit Go.Deep
section
variable {H : Type} {P : Program}
def Sz (P : Program) (t : TypeId) (d : DataW H) : Prop := ∀ n ∈ d.weights P t, n ≤ reachBytes
theorem Sz.field {t : TypeId} {fs : Array Field} (ht : P.underlying t = some (.struct fs)) {parts : List (DataW H)} (h : Sz P t (.agg parts)) {j : Nat} {fd : Field} {d : DataW H} (hf : fs[j]? = some fd) (hd : parts[j]? = some d) : Sz P fd.type d := by
  intro n hn
  refine h n ?_
  simp only [DataW.weights, ht]
  exact DataW.weights_mem_each (by simp [hf]) hd n hn
theorem weightsAll_mem {e : TypeId} : ∀ {l : List (DataW H)} {d : DataW H}, d ∈ l → ∀ n ∈ d.weights P e, n ∈ DataW.weightsAll P e l
  | [], d, hd, n, hn => by cases hd
  | x :: l, d, hd, n, hn => by
    simp only [DataW.weightsAll, List.mem_append]
    rcases List.mem_cons.1 hd with rfl | hd
    · exact .inl hn
    · exact .inr (weightsAll_mem hd n hn)
theorem Sz.elem {t e : TypeId} (ht : P.underlying t = some (.slice e)) {elems spare : List (DataW H)} (h : Sz P t (.slice elems spare)) {d : DataW H} (hd : d ∈ elems) : Sz P e d := by
  intro n hn
  refine h n ?_
  simp only [DataW.weights, ht, List.mem_cons, List.mem_append]
  exact .inr (.inl (weightsAll_mem hd n hn))
theorem Sz.len {t e : TypeId} (ht : P.underlying t = some (.slice e)) {elems spare : List (DataW H)} (h : Sz P t (.slice elems spare)) : elems.length * P.bytesOf e ≤ reachBytes := by
  have h1 := h ((elems.length + spare.length) * P.bytesOf e) (by simp [DataW.weights, ht])
  exact Nat.le_trans (Nat.mul_le_mul_right _ (by omega)) h1
theorem Sz.str {t : TypeId} {bs : List UInt8} (h : Sz P t (DataW.lit (.string bs) : DataW H)) : bs.length ≤ reachBytes := h _ (by simp [DataW.weights])
theorem Sz.arg {ts : List TypeId} {ds : List (DataW H)} (h : (DataW.weightsEach P ts ds).all (· ≤ reachBytes) = true) {j : Nat} {t : TypeId} {d : DataW H} (ht : ts[j]? = some t) (hd : ds[j]? = some d) : Sz P t d := by
  intro n hn
  have := List.all_eq_true.1 h n (DataW.weights_mem_each ht hd n hn)
  simpa using this
end
section
variable {H : Type} {enc : TypeId × Value → H} {P : Program} {w : World} {base : Nat}
/-- a slice of structs of one-cell fields, in a cell, within the reach -/
theorem open_rows_sz {α : Type} (f : α → List Value) {t e : TypeId} {fs : Array Field} {u : Value} {n : Nat} {y : DataW H × List MemPlace} (ht : P.underlying t = some (.slice e)) (he : P.underlying e = some (.struct fs))
    (hone : oneCellFields P fs = true) (hC : P.cellsOf e = fs.size) (hs : 0 < fs.size)
    (dec : ∀ vs : Nat → Value, (∀ (j : Nat) (fd : Field), fs[j]? = some fd → ∃ n y, DataW.trod enc P w 0 (fun _ => true) true n fd.type [vs j] = some y ∧ Sz P fd.type y.1) → ∃ x : α, ∀ j u, (f x)[j]? = some u → j < fs.size ∧ u = vs j)
    (h : DataW.trod enc P w 0 (fun _ => true) true n t [u] = some y) (hz : Sz P t y.1) : ∃ l : List α, RowsAt w fs.size f l u ∧ l.length * P.bytesOf e ≤ reachBytes := by
  rcases open_slice_fields ht he hone hC h with ⟨hcs, hx⟩ | ⟨a, len', cap', m, D, Pl, hcs, _, hl, hm, hmm, hx, hi⟩
  · simp only [List.cons.injEq, and_true] at hcs
    subst hcs
    exact ⟨[], RowsAt.nil w _ f, by simp⟩
  · simp only [List.cons.injEq, and_true] at hcs
    subst hcs hx
    simp only [if_true] at hmm
    subst hmm
    have hlenb := hz.len ht
    simp only [List.length_map, List.length_range] at hlenb
    obtain ⟨l, hln, hp'⟩ := list_of len' (fun i (x : α) => ∀ d u, (f x)[d]? = some u → w.cell? (a.add (i * fs.size + d)) = some u) (fun i hi' => by
      obtain ⟨ys, n, hD, _, hyl, hfld⟩ := hi i (by omega)
      have hzi : Sz P e (D i) := hz.elem ht (List.mem_map.2 ⟨i, List.mem_range.2 hi', rfl⟩)
      rw [hD] at hzi
      have hex : ∀ j : Nat, ∃ u : Value, ∀ fd, fs[j]? = some fd → w.cell? (a.add (i * fs.size + j)) = some u ∧ ∃ n y, DataW.trod enc P w 0 (fun _ => true) true n fd.type [u] = some y ∧ Sz P fd.type y.1 := by
        intro j
        cases hj : fs[j]? with
        | none => exact ⟨undef, fun fd h => by cases h⟩
        | some fd =>
          obtain ⟨u, y, h1, h2, h3⟩ := hfld j fd hj
          exact ⟨u, fun fd' h => by injection h with h; subst h; exact ⟨h1, _, _, h3, hzi.field he hj (by rw [List.getElem?_map, h2]; rfl)⟩⟩
      obtain ⟨vs, hvs⟩ := Classical.axiomOfChoice hex
      obtain ⟨x, hx⟩ := dec vs (fun j fd hj => (hvs j fd hj).2)
      refine ⟨x, fun d u hu => ?_⟩
      obtain ⟨hd, rfl⟩ := hx d u hu
      exact (hvs d fs[d] (Array.getElem?_eq_getElem hd)).1)
    subst hln
    refine ⟨l, ⟨some a, _, rfl, by omega, fun hne => ?_⟩, hlenb⟩
    have h0 : 0 < l.length := List.length_pos_iff.2 hne
    obtain ⟨b, off, rfl⟩ : ∃ b off, a = ⟨b, off, none⟩ := by
      obtain ⟨ys, n, _, _, _, hfld⟩ := hi 0 (by omega)
      obtain ⟨u, _, h1, _⟩ := hfld 0 fs[0] (Array.getElem?_eq_getElem hs)
      exact add_plain' (by simpa using h1)
    refine ⟨b, off, rfl, ?_, fun i x hx' d u hu => ?_⟩
    · obtain ⟨ys, n, _, _, _, hfld⟩ := hi 0 (by omega)
      obtain ⟨u, _, h1, _⟩ := hfld 0 fs[0] (Array.getElem?_eq_getElem hs)
      have := cell_lt h1
      simpa [add_plain] using this
    · have := hp' i x hx' d u hu
      simpa [add_plain, Nat.add_assoc] using this
/-- a slice of one-cell values, in a cell, within the reach -/
theorem open_row1_sz {α : Type} (f : α → Value) {t e : TypeId} {u : Value} {n : Nat} {y : DataW H × List MemPlace} (ht : P.underlying t = some (.slice e)) (hC : P.cellsOf e = 1)
    (dec : ∀ u n y, DataW.trod enc P w 0 (fun _ => true) true n e [u] = some y → ∃ x : α, u = f x)
    (h : DataW.trod enc P w 0 (fun _ => true) true n t [u] = some y) (hz : Sz P t y.1) : ∃ l : List α, RowsAt w 1 (fun x => [f x]) l u ∧ l.length * P.bytesOf e ≤ reachBytes := by
  rcases open_slice1 ht hC h with ⟨hcs, hx⟩ | ⟨a, len', cap', m, n, V, D, Pl, hcs, _, hl, hm, hmm, hx, hi⟩
  · simp only [List.cons.injEq, and_true] at hcs
    subst hcs
    exact ⟨[], RowsAt.nil w _ _, by simp⟩
  · simp only [List.cons.injEq, and_true] at hcs
    subst hcs hx
    simp only [if_true] at hmm
    subst hmm
    have hlenb := hz.len ht
    simp only [List.length_map, List.length_range] at hlenb
    obtain ⟨l, hln, hp'⟩ := list_of len' (fun i (x : α) => w.cell? (a.add i) = some (f x)) (fun i hi' => by
      obtain ⟨h1, h2⟩ := hi i (by omega)
      obtain ⟨x, hx⟩ := dec _ _ _ h2
      exact ⟨x, by rw [h1, hx]⟩)
    subst hln
    refine ⟨l, ⟨some a, _, rfl, by omega, fun hne => ?_⟩, hlenb⟩
    have h0 : 0 < l.length := List.length_pos_iff.2 hne
    have h1 := hp' 0 l[0] (List.getElem?_eq_getElem h0)
    obtain ⟨b, off, rfl⟩ := add_plain' h1
    refine ⟨b, off, rfl, by have := cell_lt h1; simpa [add_plain] using this, fun i x hx' d u hu => ?_⟩
    match d, hu with
    | 0, hu =>
      simp only [List.getElem?_cons_zero, Option.some.injEq] at hu
      subst hu
      simpa [add_plain] using hp' i x hx'
/-- a struct of one-cell fields that comes in -/
theorem open_struct_sz {r : Reach} {t : TypeId} {fs : Array Field} {v : Value} {d : DataW H} {p : List MemPlace} (ht : P.underlying t = some (.struct fs)) (hone : oneCellFields P fs = true) (hC : P.cellsOf t = fs.size)
    (hv : Value.okWide P w r base t v) (h : DataW.Trod enc P w 0 (fun _ => true) true t v d p) (hz : Sz P t d) :
    ∃ cs : Array Value, v = .agg cs ∧ cs.size = fs.size ∧ ∀ (j : Nat) (fd : Field), fs[j]? = some fd → ∃ u n y, cs[j]? = some u ∧ DataW.trod enc P w 0 (fun _ => true) true n fd.type [u] = some y ∧ Sz P fd.type y.1 := by
  obtain ⟨cs, rfl, hsz⟩ := okWide_struct ht hv
  refine ⟨cs, rfl, by omega, fun j fd hj => ?_⟩
  obtain ⟨fuel, hf⟩ := h
  obtain ⟨ys, n, hn, hy, hlen, hyl, hfl⟩ := DataW.trod_struct ht hf
  simp only [Prod.mk.injEq] at hy
  obtain ⟨ho, hk⟩ := hone_of hone j fd hj
  have hjl : j < fs.size := (Array.getElem?_eq_some_iff.1 hj).1
  have h1 := hfl j fd hj
  rw [ho, hk] at h1
  simp only [Value.cells] at h1 hlen
  have hone' : (cs.toList.drop j).take 1 = [cs[j]'(by omega)] := by
    rw [List.drop_eq_getElem_cons (by simp; omega)]
    simp
  rw [hone'] at h1
  have hys : ys[j]? = some (ys[j]'(by omega)) := List.getElem?_eq_getElem (by omega)
  refine ⟨cs[j]'(by omega), n, _, Array.getElem?_eq_getElem (by omega), h1.trans hys, ?_⟩
  have hz2 := hz
  rw [hy.1] at hz2
  exact hz2.field ht hj (by rw [List.getElem?_map, hys]; rfl)
theorem rows_map {α β : Type} {w : World} {m : Nat} {f : β → List Value} {g : α → β} {l : List α} {v : Value} (h : RowsAt w m (fun x => f (g x)) l v) : RowsAt w m f (l.map g) v := by
  obtain ⟨A, c, rfl, hc, hx⟩ := h
  refine ⟨A, c, by simp, by simpa using hc, fun hne => ?_⟩
  obtain ⟨b, off, rfl, hb, hx⟩ := hx (by simpa using hne)
  refine ⟨b, off, rfl, hb, fun i x hi d u hu => ?_⟩
  rw [List.getElem?_map, Option.map_eq_some_iff] at hi
  obtain ⟨y, hy, rfl⟩ := hi
  exact hx i y hy d u hu
end
section
variable {H : Type} {enc : TypeId × Value → H} {P : Program}
/-- a text that comes in -/
theorem open_str {w : World} {r : Reach} {base : Nat} {t : TypeId} {v : Value} {d : DataW H} {p : List MemPlace} (ht : P.underlying t = some .string) (hv : Value.okWide P w r base t v) (h : DataW.Trod enc P w 0 (fun _ => true) true t v d p) (hz : Sz P t d) : ∃ s : ByteArray, v = .string s ∧ s.size ≤ 1125899906842624 := by
  obtain ⟨s, rfl⟩ := okWide_string ht hv
  obtain ⟨fuel, hf⟩ := h
  obtain ⟨s', hs, hx, _⟩ := DataW.trod_string ht hf
  have e : s = s' := by simpa [Value.cells] using hs
  have h1 := hz
  simp only [Prod.mk.injEq] at hx
  rw [hx.1] at h1
  have h2 := h1.str
  rw [← e] at h2
  have h3 : s.data.toList.length = s.size := by simp
  have h4 : reachBytes ≤ 1125899906842624 := by decide
  exact ⟨s, rfl, by omega⟩
end
end Go.Proofs.YtckbdnkonccmiaaDoor.LawFrame
