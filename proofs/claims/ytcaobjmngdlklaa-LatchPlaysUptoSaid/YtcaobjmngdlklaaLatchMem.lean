/-
  Latches in memory.
-/
import Derived.Test.YtcaobjmngdlklaaLatchMap
import Derived.Test.YtcaobjmngdlklaaOwn
import Derived.Lib.Hide
namespace Go.Proofs.Ytcaobjmngdlklaa
open Go.RowKit
def oneC (o : One) : List Value := [.bool o.set, .int .i64 o.at_, .bool false, .int .i64 o.grp]
theorem oneC_len (o : One) : (oneC o).length = 4 := rfl
/-- the latches lie at g: their row, and two maps -/
def LAt (B g : Nat) (v : Value) (m1 m2 N : Nat) (s : LS) (w : World) : Prop :=
  (Words.Blk w g 48 #[v, .map (some m1), .map (some m2)] ∧ w.ownsRow B 50 4 v s.l.length (s.l.flatMap oneC) ∧ MapAt w m1 N s.first ∧ MapAt w m2 N s.cnt) ∧ (m1 ≠ m2 ∧ B ≤ g ∧ B ≤ m1 ∧ B ≤ m2) ∧ ∀ o ∈ s.l, Fit64 o.grp
/-- but for these blocks all is as it was -/
structure Foot (g : Nat) (v : Value) (m1 m2 : Nat) (w w' : World) : Prop where
  os : w'.os = w.os
  tape : w'.tape = w.tape
  output : w'.output = w.output
  size : w.heap.size ≤ w'.heap.size
  block : ∀ k, k < w.heap.size → k ≠ g → v.ownBlock ≠ some k → k ≠ m1 → k ≠ m2 → w'.heap[k]? = w.heap[k]?
section
variable {B g m1 m2 N : Nat} {v : Value} {s : LS} {w w' w2 : World}
theorem Foot.refl : Foot g v m1 m2 w w := ⟨rfl, rfl, rfl, Nat.le_refl _, fun _ _ _ _ _ _ => rfl⟩
theorem Foot.trans (h : Foot g v m1 m2 w w') (k : Foot g v m1 m2 w' w2) : Foot g v m1 m2 w w2 :=
  ⟨k.os.trans h.os, k.tape.trans h.tape, k.output.trans h.output, Nat.le_trans h.size k.size, fun i hi a b c d => (k.block i (Nat.lt_of_lt_of_le hi h.size) a b c d).trans (h.block i hi a b c d)⟩
theorem Foot.drew : Foot g v m1 m2 w w.drew := ⟨rfl, rfl, rfl, Nat.le_refl _, fun _ _ _ _ _ _ => rfl⟩
theorem Foot.drewN (n : Nat) : Foot g v m1 m2 w (w.drewN n) := ⟨rfl, rfl, rfl, Nat.le_refl _, fun _ _ _ _ _ _ => rfl⟩
theorem Foot.grown {row : Option Nat} (h : w.grownBy w' row) (hr : ∀ k, row = some k → k = g ∨ v.ownBlock = some k ∨ k = m1 ∨ k = m2) : Foot g v m1 m2 w w' :=
  ⟨h.os, h.tape, h.output, h.size, fun i hi a b c d => h.block i hi (fun e => by rcases hr i e.symm with h | h | h | h <;> simp_all)⟩
theorem Foot.below0 (h : Below w.heap.size w w') : Foot g v m1 m2 w w' := ⟨h.os, h.tape, h.output, h.size, fun i hi _ _ _ _ => h.block i hi⟩
theorem LAt.foot (h : LAt B g v m1 m2 N s w) (hf : Foot g v m1 m2 w w') (hB : B ≤ w.heap.size) : Below B w w' :=
  ⟨hf.os, hf.tape, hf.output, hf.size, fun k hk => hf.block k (by omega) (by have := h.2.1; omega) (fun e => by have := (h.1.2.1.lt k e).1; omega) (by have := h.2.1; omega) (by have := h.2.1; omega)⟩
theorem LAt.mono (h : LAt B g v m1 m2 N s w) {N' : Nat} (hN : N ≤ N') : LAt B g v m1 m2 N' s w := ⟨⟨h.1.1, h.1.2.1, h.1.2.2.1.mono hN, h.1.2.2.2.mono hN⟩, h.2⟩
/-- all of its blocks are as they were -/
theorem LAt.kept (h : LAt B g v m1 m2 N s w) (hg : w'.heap[g]? = w.heap[g]?) (hv : ∀ k, v.ownBlock = some k → w'.heap[k]? = w.heap[k]?) (h1 : w'.heap[m1]? = w.heap[m1]?) (h2 : w'.heap[m2]? = w.heap[m2]?) : LAt B g v m1 m2 N s w' := by
  refine ⟨⟨hg.trans h.1.1, ⟨h.1.2.1.1, ?_⟩, h.1.2.2.1.block h1, h.1.2.2.2.block h2⟩, h.2⟩
  rcases h.1.2.1.2 with hn | ⟨b, cap, cur, rfl, hb, hgg, rest⟩
  · exact .inl hn
  · exact .inr ⟨b, cap, cur, rfl, hb, (hv b rfl).trans hgg, rest⟩
theorem LAt.below (h : LAt B g v m1 m2 N s w) (hb : Below w.heap.size w w') : LAt B g v m1 m2 N s w' :=
  h.kept (hb.block g (Words.Blk.lt h.1.1)) (fun k hk => hb.block k (h.1.2.1.lt k hk).2) (hb.block m1 h.1.2.2.1.lt) (hb.block m2 h.1.2.2.2.lt)
theorem LAt.drew (h : LAt B g v m1 m2 N s w) : LAt B g v m1 m2 N s w.drew := h
theorem LAt.drewN (h : LAt B g v m1 m2 N s w) (n : Nat) : LAt B g v m1 m2 N s (w.drewN n) := h
theorem own_form {W : World} {base size n : Nat} {e : TypeId} {v : Value} {xs : List Value} (h : W.ownsRow base e size v n xs) : ∃ A c, v = .slice A n c := by
  rcases h.2 with ⟨rfl, rfl⟩ | ⟨g, cap, cur, rfl, _⟩
  · exact ⟨none, 0, rfl⟩
  · exact ⟨_, _, rfl⟩
theorem own_cap {W : World} {base size n c : Nat} {e : TypeId} {A : Option Addr} {xs : List Value} (h : W.ownsRow base e size (.slice A n c) n xs) : n ≤ c := by
  rcases h.2 with ⟨h1, h2⟩ | ⟨g, cap, cur, h1, _, _, h3, _⟩
  · injection h1 with _ h1 h4; omega
  · injection h1 with _ h1 h4; omega
/-- a row with one in it -/
theorem own_some {W : World} {base size n i : Nat} {e : TypeId} {v : Value} {xs : List Value} (h : W.ownsRow base e size v n xs) (hi : i < n) : ∃ b c, v = .slice (some ⟨b, 0, none⟩) n c ∧ n ≤ c := by
  rcases h.2 with ⟨rfl, rfl⟩ | ⟨b, cap, cur, rfl, _, _, hc, _⟩
  · have := h.1
    omega
  · exact ⟨b, cap, rfl, hc⟩
theorem row_cell {W : World} {base e n b c : Nat} {α : Type} {f : α → List Value} {m : Nat} (hf : ∀ x, (f x).length = m) {l : List α} (h : W.ownsRow base e m (.slice (some ⟨b, 0, none⟩) n c) n (l.flatMap f)) {k : Nat} {o : α} (ho : l[k]? = some o) {d : Nat} {u : Value} (hu : (f o)[d]? = some u) :
    W.cell? ⟨b, k * m + d, none⟩ = some u := by
  have hd : d < m := by rw [← hf o]; exact (List.getElem?_eq_some_iff.1 hu).1
  have h1 := LawFrame.flat_at hf l k o ho d hd
  have hl : (l.flatMap f).length = n * m := h.1
  have hlt : k * m + d < n * m := by
    rw [← hl]
    refine (List.getElem?_eq_some_iff.1 (h1.trans hu)).1
  rw [h.cellAt _ hlt, h1, hu]
/-- two cells of one of a row are stored -/
theorem flat_set {α β : Type} {f : α → List β} {m : Nat} (hf : ∀ x, (f x).length = m) : ∀ (l : List α) (k : Nat) (x y : α) (d : Nat) (u : β), l[k]? = some x → d < m → (f x).set d u = f y → (l.flatMap f).set (k * m + d) u = (l.set k y).flatMap f
  | [], _, _, _, _, _, h, _, _ => by simp at h
  | z :: l, 0, x, y, d, u, h, hd, hy => by
    simp only [List.getElem?_cons_zero, Option.some.injEq] at h
    subst h
    simp only [List.flatMap_cons, List.set_cons_zero, Nat.zero_mul, Nat.zero_add]
    rw [List.set_append_left _ _ (by rw [hf]; exact hd), hy]
  | z :: l, k + 1, x, y, d, u, h, hd, hy => by
    simp only [List.getElem?_cons_succ] at h
    simp only [List.flatMap_cons, List.set_cons_succ]
    rw [List.set_append_right _ _ (by rw [hf, Nat.succ_mul]; omega), hf, show (k + 1) * m + d - m = k * m + d by rw [Nat.succ_mul]; omega, flat_set hf l k x y d u h hd hy]
theorem flat_get2 {α : Type} (l : List α) (k : Nat) (x y : α) (h : l[k]? = some x) : (l.set k y)[k]? = some y := by
  simp [(List.getElem?_eq_some_iff.1 h).1]
theorem LAt.blk_ne (h : LAt B g v m1 m2 N s w) {b : Nat} (hb : v.ownBlock = some b) : b ≠ g ∧ b ≠ m1 ∧ b ≠ m2 ∧ g ≠ m1 ∧ g ≠ m2 := by
  obtain ⟨es1, cl1, o1⟩ := h.1.2.2.1.obj
  obtain ⟨es2, cl2, o2⟩ := h.1.2.2.2.obj
  have hg := h.1.1
  unfold Words.Blk at hg
  rcases h.1.2.1.2 with ⟨rfl, _⟩ | ⟨b', cap, cur, rfl, _, hgg, _⟩
  · simp [Value.ownBlock] at hb
  · simp [Value.ownBlock] at hb
    subst hb
    refine ⟨?_, ?_, ?_, ?_, ?_⟩
    · rintro rfl; rw [hg] at hgg; injection hgg with e; injection e with _ e; cases e
    · rintro rfl; rw [o1] at hgg; cases hgg
    · rintro rfl; rw [o2] at hgg; cases hgg
    · rintro rfl; rw [o1] at hg; cases hg
    · rintro rfl; rw [o2] at hg; cases hg
/-- a latch is turned: two stores -/
theorem LAt.turn {n b c k : Nat} {o : One} (h : LAt B g (.slice (some ⟨b, 0, none⟩) n c) m1 m2 N s w) (ho : s.l[k]? = some o) (x : Bool) (t : Int) :
    LAt B g (.slice (some ⟨b, 0, none⟩) n c) m1 m2 N { s with l := s.l.set k { o with set := x, at_ := t } } ((w.setCell ⟨b, k * 4, none⟩ (.bool x)).setCell ⟨b, k * 4 + 1, none⟩ (.int .i64 t)) ∧
      Foot g (.slice (some ⟨b, 0, none⟩) n c) m1 m2 w ((w.setCell ⟨b, k * 4, none⟩ (.bool x)).setCell ⟨b, k * 4 + 1, none⟩ (.int .i64 t)) := by
  obtain ⟨e1, e2, e3, _, _⟩ := h.blk_ne rfl
  obtain ⟨A, c0, e0⟩ := own_form h.1.2.1
  have en : s.l.length = n := by injection e0 with _ e _; exact e.symm
  have hrow := h.1.2.1
  rw [en] at hrow
  obtain ⟨r1, g1⟩ := hrow.stored (k * 4) (.bool x)
  have q0 := flat_set oneC_len s.l k o { o with set := x } 0 (.bool x) ho (by decide) rfl
  rw [Nat.add_zero] at q0
  rw [q0] at r1
  obtain ⟨r2, g2⟩ := r1.stored (k * 4 + 1) (.int .i64 t)
  rw [flat_set oneC_len _ k { o with set := x } { o with set := x, at_ := t } 1 (.int .i64 t) (flat_get2 _ _ _ _ ho) (by decide) rfl, List.set_set] at r2
  have f1 : Foot g (.slice (some ⟨b, 0, none⟩) n c) m1 m2 w (w.setCell ⟨b, k * 4, none⟩ (.bool x)) := Foot.grown g1 (fun k hk => by injection hk with hk; subst hk; exact .inr (.inl rfl))
  have f2 : Foot g (.slice (some ⟨b, 0, none⟩) n c) m1 m2 (w.setCell ⟨b, k * 4, none⟩ (.bool x)) ((w.setCell ⟨b, k * 4, none⟩ (.bool x)).setCell ⟨b, k * 4 + 1, none⟩ (.int .i64 t)) := Foot.grown g2 (fun k hk => by injection hk with hk; subst hk; exact .inr (.inl rfl))
  have q2 : ((w.setCell ⟨b, k * 4, none⟩ (.bool x)).setCell ⟨b, k * 4 + 1, none⟩ (.int .i64 t)).ownsRow B 50 4 (.slice (some ⟨b, 0, none⟩) n c) (s.l.set k { o with set := x, at_ := t }).length ((s.l.set k { o with set := x, at_ := t }).flatMap oneC) := by
    rw [List.length_set, en]
    exact r2
  refine And.intro (And.intro (And.intro ?_ (And.intro q2 (And.intro ?_ ?_))) (And.intro h.2.1 ?_)) (f1.trans f2)
  · exact Words.Blk.far (p := ⟨b, k * 4 + 1, none⟩) (Words.Blk.far (p := ⟨b, k * 4, none⟩) h.1.1 (Ne.symm e1) _) (Ne.symm e1) _
  · exact h.1.2.2.1.block ((Below.heap_setCell _ ⟨b, k * 4 + 1, none⟩ _ _ (Ne.symm e2)).trans (Below.heap_setCell _ ⟨b, k * 4, none⟩ _ _ (Ne.symm e2)))
  · exact h.1.2.2.2.block ((Below.heap_setCell _ ⟨b, k * 4 + 1, none⟩ _ _ (Ne.symm e3)).trans (Below.heap_setCell _ ⟨b, k * 4, none⟩ _ _ (Ne.symm e3)))
  · intro o' ho'
    rcases List.mem_or_eq_of_mem_set ho' with h1 | rfl
    · exact h.2.2 o' h1
    · exact h.2.2 o (List.mem_of_getElem? ho)
/-- the map of first ones is turned -/
theorem LAt.first (h : LAt B g v m1 m2 N s w) {f' : Int → Option Int} {N' : Nat} (hN : N ≤ N') (hm : MapAt w' m1 N' f') (hg : w.grownBy w' (some m1)) : LAt B g v m1 m2 N' { s with first := f' } w' ∧ Foot g v m1 m2 w w' := by
  obtain ⟨es1, cl1, o1⟩ := h.1.2.2.1.obj
  have hgm : some g ≠ some m1 := by
    intro e
    injection e with e
    subst e
    have h2 := h.1.1
    unfold Words.Blk at h2
    rw [o1] at h2
    cases h2
  refine ⟨⟨⟨h.1.1.grown hg hgm, h.1.2.1.kept hg ?_, hm, (h.1.2.2.2.block (hg.block m2 h.1.2.2.2.lt (by have := h.2.1.1; simp; omega))).mono hN⟩, h.2⟩, Foot.grown hg (fun k hk => by injection hk with hk; subst hk; exact .inr (.inr (.inl rfl)))⟩
  rcases hv : v.ownBlock with _ | b
  · exact .inl rfl
  · have := h.blk_ne hv
    exact .inr (by simp; exact this.2.1)
/-- the map of how many is turned -/
theorem LAt.cnt (h : LAt B g v m1 m2 N s w) {f' : Int → Option Int} {N' : Nat} (hN : N ≤ N') (hm : MapAt w' m2 N' f') (hg : w.grownBy w' (some m2)) : LAt B g v m1 m2 N' { s with cnt := f' } w' ∧ Foot g v m1 m2 w w' := by
  obtain ⟨es1, cl1, o1⟩ := h.1.2.2.2.obj
  have hgm : some g ≠ some m2 := by
    intro e
    injection e with e
    subst e
    have h2 := h.1.1
    unfold Words.Blk at h2
    rw [o1] at h2
    cases h2
  refine ⟨⟨⟨h.1.1.grown hg hgm, h.1.2.1.kept hg ?_, (h.1.2.2.1.block (hg.block m1 h.1.2.2.1.lt (by have := h.2.1.1; simp; omega))).mono hN, hm⟩, h.2⟩, Foot.grown hg (fun k hk => by injection hk with hk; subst hk; exact .inr (.inr (.inr rfl)))⟩
  rcases hv : v.ownBlock with _ | b
  · exact .inl rfl
  · have := h.blk_ne hv
    exact .inr (by simp; exact this.2.2.1)
end
end Go.Proofs.Ytcaobjmngdlklaa
