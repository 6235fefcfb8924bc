/-
  The matrix with other names, keys and lamps: how it lies, and that it comes to the same.
-/
import Derived.Test.YtbpenoelmangkaaLawMorePlain
namespace Go.Proofs.Ytbpenoelmangkaa
open Go.RowKit
/-- the same causes, but for names and lamps -/
structure Twins (cs cs' : List Cs) : Prop where
  len : cs'.length = cs.length
  at_ : ∀ (i : Nat) (c c' : Cs), cs[i]? = some c → cs'[i]? = some c' → c'.v = c.v ∧ c'.pts = c.pts
  name : ∀ c' ∈ cs', c'.name.size ≤ 1125899906842624
theorem Twins.other {cs cs' : List Cs} (h : Twins cs cs') {c' : Cs} (hc : c' ∈ cs') : ∃ c ∈ cs, c'.v = c.v ∧ c'.pts = c.pts := by
  obtain ⟨i, hi⟩ := List.getElem?_of_mem hc
  have hl : i < cs.length := by rw [← h.len]; exact (List.getElem?_eq_some_iff.1 hi).1
  exact ⟨cs[i], List.getElem_mem hl, h.at_ i _ _ (List.getElem?_eq_getElem hl) hi⟩
theorem Twins.set {cs cs' : List Cs} (h : Twins cs cs') {k : Nat} {c c2 : Cs} (hc : cs'[k]? = some c) (h1 : c2.v = c.v) (h2 : c2.pts = c.pts) (h3 : c2.name.size ≤ 1125899906842624) : Twins cs (cs'.set k c2) := by
  refine ⟨by rw [List.length_set]; exact h.len, fun i a b ha hb => ?_, fun x hx => ?_⟩
  · by_cases e : k = i
    · subst e
      rw [List.getElem?_set_self (List.getElem?_eq_some_iff.1 hc).1] at hb
      injection hb with hb
      subst hb
      rw [h1, h2]
      exact h.at_ k a c ha hc
    · rw [List.getElem?_set_ne e] at hb
      exact h.at_ i a b ha hb
  · rcases List.mem_or_eq_of_mem_set hx with hx | rfl
    · exact h.name x hx
    · exact h3
/-- the matrix's and the other one's own cells, and the other one's causes -/
structure XIs (w : World) (g6 : Nat) (MV XV : Array Value) (cs : List Cs) (Ax : Option Addr) (cs' : List Cs) (wr : World) : Prop where
  below : Below w.heap.size w wr
  own : Words.Blk wr w.heap.size 27 MV
  xblk : Words.Blk wr g6 27 XV
  row : cs' ≠ [] → ∃ (gx : Nat) (cur : Array Value), Ax = some ⟨gx, 0, none⟩ ∧ w.heap.size ≤ gx ∧ Words.Blk wr gx 42 cur ∧ ∀ (i : Nat) (c : Cs), cs'[i]? = some c → ∀ (d : Nat) (u : Value), c.cells[d]? = some u → cur[i * 5 + d]? = some u
  twin : Twins cs cs'
section
variable {w wr w2 : World} {g6 : Nat} {MV XV : Array Value} {cs cs' : List Cs} {Ax : Option Addr}
theorem XIs.more (h : XIs w g6 MV XV cs Ax cs' wr) (hb : Below wr.heap.size wr w2) : XIs w g6 MV XV cs Ax cs' w2 :=
  ⟨h.below.trans (hb.mono h.below.size), h.own.below hb h.own.lt, h.xblk.below hb h.xblk.lt, fun hne => by
    obtain ⟨gx, cur, h1, h2, h3, h4⟩ := h.row hne
    exact ⟨gx, cur, h1, h2, h3.below hb h3.lt, h4⟩, h.twin⟩
theorem XIs.drew (h : XIs w g6 MV XV cs Ax cs' wr) : XIs w g6 MV XV cs Ax cs' wr.drew := ⟨h.below.drew, h.own, h.xblk, h.row, h.twin⟩
theorem XIs.at_ (h : XIs w g6 MV XV cs Ax cs' wr) {k : Nat} {c : Cs} (hc : cs'[k]? = some c) : ∃ gx, Ax = some ⟨gx, 0, none⟩ ∧ w.heap.size ≤ gx ∧ gx < wr.heap.size ∧ (∀ i, wr.frozen? ⟨gx, i, none⟩ = false) ∧ ∀ (d : Nat) (u : Value), c.cells[d]? = some u → wr.cell? ⟨gx, k * 5 + d, none⟩ = some u := by
  obtain ⟨gx, cur, h1, h2, h3, h4⟩ := h.row (by intro e; subst e; simp at hc)
  exact ⟨gx, h1, h2, h3.lt, fun i => h3.frozen i, fun d u hu => by rw [h3.cell]; exact h4 k c hc d u hu⟩
/-- one cell of a cause is stored -/
theorem XIs.store (h : XIs w g6 MV XV cs Ax cs' wr) {k gx : Nat} {c c2 : Cs} (hA : Ax = some ⟨gx, 0, none⟩) (hc : cs'[k]? = some c) (d : Nat) (u : Value) (hd : d < 5) (hcell : ∀ (j : Nat) (x : Value), c2.cells[j]? = some x → j = d ∧ x = u ∨ j ≠ d ∧ c.cells[j]? = some x)
    (h1 : c2.v = c.v) (h2 : c2.pts = c.pts) (h3 : c2.name.size ≤ 1125899906842624) : XIs w g6 MV XV cs Ax (cs'.set k c2) (wr.setCell ⟨gx, k * 5 + d, none⟩ u) := by
  obtain ⟨gx', cur, e1, e2, e3, e4⟩ := h.row (by intro e; subst e; simp at hc)
  rw [hA] at e1
  injection e1 with e1
  injection e1 with e1 _ _
  subst e1
  have hne : ∀ {g : Nat} {bx : Array Value}, Words.Blk wr g 27 bx → g ≠ gx := fun hb => Words.Blk.ne_ hb e3 (by decide)
  refine ⟨h.below.setCell e2 _, h.own.far (hne h.own) _, h.xblk.far (hne h.xblk) _, fun _ => ⟨gx, _, hA, e2, e3.set_ _ _, fun i a ha j x hx => ?_⟩, h.twin.set hc h1 h2 h3⟩
  have hj5 : j < 5 := by rw [← Cs.cells_len a]; exact (List.getElem?_eq_some_iff.1 hx).1
  by_cases e : k = i
  · subst e
    rw [List.getElem?_set_self (List.getElem?_eq_some_iff.1 hc).1] at ha
    injection ha with ha
    subst ha
    rcases hcell j x hx with ⟨rfl, rfl⟩ | ⟨hj, hx2⟩
    · obtain ⟨y, hy⟩ : ∃ y, c.cells[j]? = some y := ⟨_, List.getElem?_eq_getElem (by rw [Cs.cells_len]; exact hd)⟩
      have := e4 k c hc j y hy
      rw [Array.getElem?_setIfInBounds_self_of_lt (Array.getElem?_eq_some_iff.1 this).1]
    · rw [Array.getElem?_setIfInBounds_ne (by omega)]
      exact e4 k c hc j x hx2
  · rw [List.getElem?_set_ne e] at ha
    rw [Array.getElem?_setIfInBounds_ne (by omega)]
    exact e4 i a ha j x hx
end
theorem XIs.mat {w wr : World} {g6 : Nat} {MV XV : Array Value} {m : Mat} {vd vp vc ve : Value} {Ax : Option Addr} {cs' : List Cs} {capx : Nat} (h : XIs w g6 MV XV m.css Ax cs' wr) (hm : MatAt w m vd vp vc ve) (hcap : cs'.length ≤ capx) (key : ByteArray) : MatAt wr { m with key := key, css := cs' } vd vp (.slice Ax cs'.length capx) ve := by
  have hb := hm.below h.below
  refine ⟨hb.1, hb.2.1, ⟨⟨Ax, capx, rfl, hcap, fun hne => ?_⟩, fun c hc => ?_⟩, hb.2.2.2⟩
  · obtain ⟨gx, cur, e1, e2, e3, e4⟩ := h.row hne
    exact ⟨gx, 0, e1, e3.lt, fun i x hi d u hu => by rw [Nat.zero_add, e3.cell]; exact e4 i x hi d u hu⟩
  · obtain ⟨c0, hc0, e1, e2⟩ := h.twin.other hc
    rw [e1, e2]
    exact hb.2.2.1.2 c0 hc0
theorem x_small {m : Mat} {cs' : List Cs} (h : MatSmall m) (ht : Twins m.css cs') (key : ByteArray) (hk : key.size ≤ 1125899906842624) : MatSmall { m with key := key, css := cs' } := by
  refine ⟨hk, h.devs, h.pts, by show cs'.length ≤ _; rw [ht.len]; exact h.css, h.efs, fun c hc => ?_, h.ecs, fun s hs => ?_⟩
  · obtain ⟨c0, hc0, -, e⟩ := ht.other hc
    rw [e]; exact h.cpts c0 hc0
  · have hn := h.names
    simp only [Mat.names, List.mem_append, List.mem_map] at hs hn
    rcases hs with ((hs | hs) | ⟨x, hx, rfl⟩) | hs
    · exact hn s (.inl (.inl (.inl hs)))
    · exact hn s (.inl (.inl (.inr hs)))
    · exact ht.name x hx
    · exact hn s (.inr hs)
section
variable {m : Mat} {cs' : List Cs}
theorem effects_le' (n : Int) : (effectsF m n).length ≤ m.efs.length := by
  unfold effectsF; split
  · exact idsUpto_len _ _ _
  · simp
theorem on_le' (n : Int) : (onF m n).length ≤ m.efs.length := by
  unfold onF; split
  · exact idsUpto_len _ _ _
  · simp
/-- polls are told -/
def PlsIs (l : List Pl) (w : World) (e : Ending) (w' : World) : Prop := ∃ v, e = .returned v ∧ PlsAt w' l v ∧ Below w.heap.size w w'
theorem x_bound (key : ByteArray) {c c' : Cs} (h : c'.pts = c.pts) : boundAt { m with key := key, css := cs' } c' = boundAt m c := by
  unfold boundAt
  rw [h]
  rfl
theorem x_effects (key : ByteArray) (h : cs'.length = m.css.length) (n : Int) : effectsF { m with key := key, css := cs' } n = effectsF m n := by
  unfold effectsF
  simp only [h]
theorem x_polls (key : ByteArray) : pollsF { m with key := key, css := cs' } = pollsF m := rfl
theorem x_on (key : ByteArray) (n : Int) : onF { m with key := key, css := cs' } n = onF m n := rfl
theorem x_age (key : ByteArray) : Mat.age { m with key := key, css := cs' } = m.age := rfl
end
theorem byte_string {P : Program} (w : World) {tb te ts : TypeId} (h1 : P.underlying tb = some (.slice te)) (h2 : P.underlying te = some (.int .u8)) (h3 : P.underlying ts = some .string) (n : Int) (h0 : 0 ≤ n) (h256 : n < 256) (t : TypeId) :
    ∃ s : ByteArray, s.size = 1 ∧ (convert tb ts (.slice (some ⟨w.heap.size, 0, none⟩) 1 1)).run P (w.alloc (.cells #[.int .u8 n] t)) = .ok (.string s) (w.alloc (.cells #[.int .u8 n] t)) := by
  have e2 : (((UInt8.ofNat n.toNat).toNat : Nat) : Int) = n := by rw [UInt8.toNat_ofNat']; omega
  refine ⟨⟨[UInt8.ofNat n.toNat].toArray⟩, rfl, ?_⟩
  refine run_convert_bytes_back _ tb ts te ⟨w.heap.size, 0, none⟩ 1 [UInt8.ofNat n.toNat] h1 h2 h3 (fun j hj => ?_)
  have hj0 : j = 0 := by simpa using hj
  subst hj0
  rw [Go.WideShapes.add_plain, cell_of_row _ _ _ _ _ _ (heap_alloc_new w _)]
  simp only [List.getElem_cons_zero]
  rw [e2]
  rfl
end Go.Proofs.Ytbpenoelmangkaa
