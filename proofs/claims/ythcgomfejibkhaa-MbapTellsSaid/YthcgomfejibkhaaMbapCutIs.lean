/-
  WHAT mbap.Cut COMES TO, in the plain words; frames and their bytes.
-/
import Derived.Test.YthcgomfejibkhaaMbapCut
import Derived.Test.YthcgomfejibkhaaMbapSame
namespace Go.Proofs.Ythcgomfejibkhaa
open Go.RowKit Mbap

theorem came_each {l r : List UInt8} {xs : List (Adu × Nat)} (h : Came l xs r) : ∀ x ∈ xs, x.1.id < 65536 ∧ 1 ≤ x.1.pdu.length ∧ x.1.pdu.length ≤ 253 ∧ x.2 = 7 + x.1.pdu.length := by
  induction h with
  | none => simp
  | more h hf ih =>
    intro x hx
    rcases List.mem_append.1 hx with hx | hx
    · exact ih x hx
    · simp only [List.mem_singleton] at hx
      subst hx
      have := first_some hf
      exact ⟨this.2.2.2.2.2.1, this.2.2.2.1, this.2.2.2.2.1, this.2.1⟩
theorem flat_items (xs : List Item) : xs.flatMap itemCells = (xs.map fun x => (x.1, x.2.1)).flatMap aduCells := by
  induction xs with
  | nil => rfl
  | cons x xs ih => simp only [List.flatMap_cons, List.map_cons, ih]
theorem reads_of {w : World} {l : List UInt8} {A : Option Addr} {c : Nat} (h : BytesAt w l (.slice A l.length c)) : Words.Reads w w.heap.size 1 A l.length (l.map bV) := by
  obtain ⟨A', c', e, -, hr⟩ := h.reads
  injection e with e1 _ _
  subst e1
  exact hr
/-- what Cut hands back, in the plain words -/
def CutOk (l : List UInt8) (B : Nat) (e : Ending) (w' : World) : Prop :=
  ∃ (A : Option Addr) (c : Nat), e = .returned (.tuple #[.slice A (cut l).1.length c, .int .i64 ((cut l).2.1 : Int), .int .i64 ((cut l).2.2 : Int)]) ∧ FramesAt w' (cut l).1 (.slice A (cut l).1.length c) ∧ (∀ g, A = some g → B ≤ g.block)
/-- and where the frames lie -/
def CutOwn (l : List UInt8) (B : Nat) (e : Ending) (w' : World) : Prop :=
  ∃ (A : Option Addr) (c : Nat) (ps : List (Adu × Value)), e = .returned (.tuple #[.slice A (cut l).1.length c, .int .i64 ((cut l).2.1 : Int), .int .i64 ((cut l).2.2 : Int)]) ∧ ps.map (·.1) = (cut l).1 ∧ LawFrame.RowsAt w' 3 aduCells ps (.slice A (cut l).1.length c) ∧
    (∀ p ∈ ps, BytesAt w' p.1.pdu p.2 ∧ p.1.id < 65536 ∧ p.1.pdu.length ≤ 253 ∧ Kind B 5 w' p.2) ∧ (∀ g, A = some g → B ≤ g.block)
theorem Cut_own (l : List UInt8) (v : Value) (w : World) (hl : BytesAt w l v) (hlen : l.length ≤ 1000000) :
    Calls Try.prog 13 #[v] w fun e w' => CutOwn l w.heap.size e w' ∧ Below w.heap.size w w' := by
  refine (Cut_ends l v w hl hlen).mono ?_
  rintro e w' ⟨xs, r, k, A, n, c, hC, hf, rfl, hrow, hR, hB⟩
  have hcut := hC.end_ hf
  have e1 : (cut l).1 = xs.map (·.1) := by rw [hcut]; simp [List.map_map, Function.comp_def]
  have e2 : (cut l).2.1 = (xs.map (·.2.2)).sum := by rw [hcut]; simp [List.map_map, Function.comp_def]
  have e3 : (cut l).2.2 = k := by rw [hcut]
  have hn : n = xs.length := by
    rcases hrow.2 with ⟨h1, h2⟩ | ⟨g, cap, cur, h1, _⟩
    · injection h1 with _ h1 _; omega
    · injection h1
  subst hn
  have hlen' : (cut l).1.length = xs.length := by rw [e1]; simp
  refine ⟨⟨A, c, xs.map fun x => (x.1, x.2.1), by rw [e2, e3, hlen'], by rw [e1]; simp [List.map_map, Function.comp_def], ?_, fun p hp => ?_, fun g hg => ?_⟩, hB⟩
  · rw [flat_items] at hrow
    rw [hlen']
    exact LawFrame.RowsAt.of_own (f := aduCells) (fun _ => rfl) (by omega) hrow
  · obtain ⟨x, hx, rfl⟩ := List.mem_map.1 hp
    have := came_each hC x.both (List.mem_map.2 ⟨x, hx, rfl⟩)
    exact ⟨(hR x hx).2.1, this.1, this.2.2.1, (hR x hx).2.2.mono (by omega)⟩
  · subst hg
    have := (hrow.lt g.block rfl).1
    omega
theorem Cut_any (l : List UInt8) (v : Value) (w : World) (hl : BytesAt w l v) (hlen : l.length ≤ 1000000) :
    Calls Try.prog 13 #[v] w fun e w' => CutOk l w.heap.size e w' ∧ Below w.heap.size w w' := by
  refine (Cut_own l v w hl hlen).mono ?_
  rintro e w' ⟨⟨A, c, ps, rfl, h1, h2, h3, h4⟩, hB⟩
  exact ⟨⟨A, c, rfl, ⟨ps, h1, h2, fun p hp => ⟨(h3 p hp).1, (h3 p hp).2.1, by have := (h3 p hp).2.2.1; omega⟩⟩, h4⟩, hB⟩
theorem cut_le (l : List UInt8) : (cut l).2.1 ≤ l.length ∧ first (l.drop (cut l).2.1) = (none, 0, (cut l).2.2) := by
  have h : ∀ (k : Nat) (l : List UInt8), l.length < k → (cut l).2.1 ≤ l.length ∧ first (l.drop (cut l).2.1) = (none, 0, (cut l).2.2) := by
    intro k
    induction k with
    | zero => intro l h; omega
    | succ k ih =>
      intro l hk
      rcases hf : first l with ⟨_ | f, n, e⟩
      · obtain ⟨rfl, -⟩ := first_none hf
        rw [cut_none hf]
        simp [hf]
      · have hs := first_some hf
        obtain ⟨h1, h2⟩ := ih (l.drop n) (by simp; omega)
        rw [cut_some hf]
        simp only [List.length_drop, List.drop_drop] at h1 h2 ⊢
        exact ⟨by omega, h2⟩
  exact h _ l (Nat.lt_succ_self _)
theorem cut_count (l : List UInt8) : (cut l).1.length ≤ (cut l).2.1 := by
  have h : ∀ (k : Nat) (l : List UInt8), l.length < k → (cut l).1.length ≤ (cut l).2.1 := by
    intro k
    induction k with
    | zero => intro l h; omega
    | succ k ih =>
      intro l hk
      rcases hf : first l with ⟨_ | f, n, e⟩
      · rw [cut_none hf]; simp
      · have hs := first_some hf
        have := ih (l.drop n) (by simp; omega)
        rw [cut_some hf]
        simp only [List.length_cons]
        omega
  exact h _ l (Nat.lt_succ_self _)
theorem seven : ∀ l : List UInt8, 7 ≤ l.length → ∃ a0 a1 a2 a3 a4 a5 a6 r, l = a0 :: a1 :: a2 :: a3 :: a4 :: a5 :: a6 :: r
  | a0 :: a1 :: a2 :: a3 :: a4 :: a5 :: a6 :: r, _ => ⟨a0, a1, a2, a3, a4, a5, a6, r, rfl⟩
theorem put_first {l : List UInt8} {f : Adu} {n e : Nat} (h : first l = (some f, n, e)) : put f = l.take n := by
  have hs := first_some h
  have hlen : 8 ≤ l.length := by omega
  obtain ⟨a0, a1, a2, a3, a4, a5, a6, r, rfl⟩ := seven l (by omega)
  have hn := hs.2.2.2.2.2.2.2.2.1
  have hbar := hs.2.2.2.2.2.2.2.2.2
  have hm2 := hs.2.2.2.2.2.2.1
  have hm := hs.2.2.2.2.2.2.2.1
  have hle := hs.2.2.1
  have e2 : first (a0 :: a1 :: a2 :: a3 :: a4 :: a5 :: a6 :: r) = (some ⟨a0.toNat * 256 + a1.toNat, a6, r.take (many (a0 :: a1 :: a2 :: a3 :: a4 :: a5 :: a6 :: r) - 1)⟩, 6 + many (a0 :: a1 :: a2 :: a3 :: a4 :: a5 :: a6 :: r), 0) := by
    unfold first
    rw [if_neg (by rw [hbar]; simp), if_neg (by simp), if_neg (by omega), if_neg (by omega)]
    rfl
  rw [e2] at h
  injection h with hf h
  injection hf with hf
  have hb2 : a2 = 0 ∧ a3 = 0 := by
    simp only [barred, at_, List.getD_eq_getElem?_getD, List.length_cons, Bool.or_eq_false_iff, Bool.and_eq_false_iff, decide_eq_false_iff_not, bne_eq_false_iff_eq] at hbar
    obtain ⟨h1, h2⟩ := hbar
    have h1' : a2.toNat = 0 := by rcases h1 with h1 | h1 <;> simp at h1 ⊢ <;> omega
    have h2' : a3.toNat = 0 := by rcases h2 with h2 | h2 <;> simp at h2 ⊢ <;> omega
    exact ⟨UInt8.toNat_inj.1 (by simpa using h1'), UInt8.toNat_inj.1 (by simpa using h2')⟩
  obtain ⟨rfl, rfl⟩ := hb2
  have hmany : many (a0 :: a1 :: 0 :: 0 :: a4 :: a5 :: a6 :: r) = a4.toNat * 256 + a5.toNat := rfl
  rw [hmany] at hf hm hm2 hn
  rw [hn]
  have hr : (r.take (a4.toNat * 256 + a5.toNat - 1)).length = a4.toNat * 256 + a5.toNat - 1 := by
    simp only [List.length_cons] at hle; simp; omega
  subst hf
  unfold put
  dsimp only
  rw [hr, if_neg (by omega)]
  have t : 6 + (a4.toNat * 256 + a5.toNat) = (a4.toNat * 256 + a5.toNat - 1) + 7 := by omega
  rw [t]
  simp only [List.take_succ_cons, List.cons_append, List.nil_append]
  have u : a4.toNat * 256 + a5.toNat - 1 + 1 = a4.toNat * 256 + a5.toNat := by omega
  have b0 := a0.toNat_lt
  have b1 := a1.toNat_lt
  have b4 := a4.toNat_lt
  have b5 := a5.toNat_lt
  have f0 : UInt8.ofNat ((a0.toNat * 256 + a1.toNat) / 256) = a0 := by apply UInt8.toNat_inj.1; simp; omega
  have f1 : UInt8.ofNat (a0.toNat * 256 + a1.toNat) = a1 := by apply UInt8.toNat_inj.1; simp
  have f4 : UInt8.ofNat ((a4.toNat * 256 + a5.toNat) / 256) = a4 := by apply UInt8.toNat_inj.1; simp; omega
  have f5 : UInt8.ofNat (a4.toNat * 256 + a5.toNat) = a5 := by apply UInt8.toNat_inj.1; simp
  rw [u, f0, f1, f4, f5]
/-- the bytes of all frames that are cut are those that were cut -/
theorem put_cut (l : List UInt8) : (cut l).1.flatMap put = l.take (cut l).2.1 := by
  have h : ∀ (k : Nat) (l : List UInt8), l.length < k → (cut l).1.flatMap put = l.take (cut l).2.1 := by
    intro k
    induction k with
    | zero => intro l h; omega
    | succ k ih =>
      intro l hk
      rcases hf : first l with ⟨_ | f, n, e⟩
      · rw [cut_none hf]; simp
      · have hs := first_some hf
        rw [cut_some hf]
        simp only [List.flatMap_cons]
        rw [ih (l.drop n) (by simp; omega), put_first hf, List.take_add]
  exact h _ l (Nat.lt_succ_self _)
end Go.Proofs.Ythcgomfejibkhaa
