/-
  The lines of a text as they lie in memory; what a round over them leaves.
-/
import Derived.Test.YtpoihpehdlogbaaDoorLexCatch
namespace Go.Proofs.YtpoihpehdlogbaaDoor
open Go.RowKit Go.Shelf
/-- a line: its number, the slice of its words, and the words -/
structure Ln where
  no : Int
  v : Value
  ws : List ByteArray
def Ln.cells (x : Ln) : List Value := [.int .i64 x.no, x.v]
theorem Ln.cells_len (x : Ln) : x.cells.length = 2 := rfl
def Ln.told (x : Ln) : Int × List ByteArray := (x.no, x.ws)
theorem line_info : (Tryd.prog.info? 27).map (fun i => (i.zero, i.size, i.bytes)) = some (some (.agg #[.int .i64 0, .slice none 0 0]), 2, 32) := by kernel_rfl
theorem line_parts : ∃ i, Tryd.prog.info? 27 = some i ∧ i.zero = some (.agg #[.int .i64 0, .slice none 0 0]) ∧ i.size = 2 ∧ i.bytes = 32 := by
  have h := line_info
  cases e : Tryd.prog.info? 27 with
  | none => rw [e] at h; cases h
  | some i =>
    rw [e] at h
    simp only [Option.map_some, Option.some.injEq, Prod.mk.injEq] at h
    exact ⟨i, rfl, h.1, h.2.1, h.2.2⟩
def toldOf (x : Nat × List (List UInt8)) : Int × List ByteArray := ((x.1 : Int), x.2.map toB)
def toldL (l : List (Nat × List (List UInt8))) : List (Int × List ByteArray) := l.map toldOf
/-- the lines lie at v, in blocks from B on, and their words beside them -/
def LnsAt (W : World) (B : Nat) (l : List (Int × List ByteArray)) (n : Nat) (v : Value) : Prop :=
  ∃ xs : List Ln, n = xs.length ∧ xs.map Ln.told = l ∧ W.ownsRow B 27 2 v n (xs.flatMap Ln.cells) ∧ ∀ x ∈ xs, ∃ B', W.ownsRow B' 9 1 x.v x.ws.length (x.ws.flatMap sC)
theorem LnsAt.below {W w2 : World} {B n : Nat} {l : List (Int × List ByteArray)} {v : Value} (h : LnsAt W B l n v) (hb : Below W.heap.size W w2) : LnsAt w2 B l n v := by
  obtain ⟨xs, h1, h2, h3, h4⟩ := h
  refine ⟨xs, h1, h2, own_below h3 hb, fun x hx => ?_⟩
  obtain ⟨B', hB⟩ := h4 x hx
  exact ⟨B', own_below hB hb⟩
theorem LnsAt.mono {W : World} {B B2 n : Nat} {l : List (Int × List ByteArray)} {v : Value} (h : LnsAt W B l n v) (hB : B2 ≤ B) : LnsAt W B2 l n v := by
  obtain ⟨xs, h1, h2, ⟨h3, h3'⟩, h4⟩ := h
  refine ⟨xs, h1, h2, ⟨h3, ?_⟩, h4⟩
  rcases h3' with h | ⟨g, cap, cur, e, hb, rest⟩
  · exact .inl h
  · exact .inr ⟨g, cap, cur, e, Nat.le_trans hB hb, rest⟩
/-- what a growth that turns no cells leaves -/
theorem grown_same {A B : World} {row : Option Nat} {W0 : Nat} (hg : A.grownBy B row) (hr : ∀ r, row = some r → W0 ≤ r ∧ ∃ o, A.heap[r]? = some o ∧ o.isCells = false) {g : Nat} {cs : Array Value} {t : TypeId} (h : A.heap[g]? = some (Obj.cells cs t (0, 0))) : B.heap[g]? = A.heap[g]? := by
  refine hg.block g (Array.getElem?_eq_some_iff.1 h).1 (fun e => ?_)
  obtain ⟨-, o, ho, hc⟩ := hr g e.symm
  rw [h] at ho
  cases ho
  cases hc
theorem boxed_same {A B : World} {row : Option Nat} {W0 : Nat} (hg : A.grownBy B row) (hr : ∀ r, row = some r → W0 ≤ r ∧ ∃ o, A.heap[r]? = some o ∧ o.isCells = false) {b : Nat} {t : TypeId} {v : Value} (h : Boxed A b t v) : Boxed B b t v := (grown_same hg hr h).trans h
theorem row_same {A B : World} {row : Option Nat} {W0 : Nat} (hg : A.grownBy B row) (hr : ∀ r, row = some r → W0 ≤ r ∧ ∃ o, A.heap[r]? = some o ∧ o.isCells = false) {base size n : Nat} {e : TypeId} {v : Value} {xs : List Value} (h : A.ownsRow base e size v n xs) : B.ownsRow base e size v n xs := by
  rcases h.2 with ⟨rfl, _⟩ | ⟨g, cap, cur, rfl, _, hgb, _⟩
  · exact h.kept hg (.inl rfl)
  · refine h.kept hg (.inr (fun ee => ?_))
    obtain ⟨-, o, ho, hc⟩ := hr g ee.symm
    rw [hgb] at ho
    cases ho
    cases hc
theorem LnsAt.same {A W : World} {row : Option Nat} {W0 B n : Nat} {l : List (Int × List ByteArray)} {v : Value} (h : LnsAt A B l n v) (hg : A.grownBy W row) (hr : ∀ r, row = some r → W0 ≤ r ∧ ∃ o, A.heap[r]? = some o ∧ o.isCells = false) : LnsAt W B l n v := by
  obtain ⟨xs, h1, h2, h3, h4⟩ := h
  refine ⟨xs, h1, h2, row_same hg hr h3, fun x hx => ?_⟩
  obtain ⟨B', hB⟩ := h4 x hx
  exact ⟨B', row_same hg hr hB⟩
theorem LnsAt.nil (W : World) (B : Nat) : LnsAt W B [] 0 (.slice none 0 0) := ⟨[], rfl, rfl, World.ownsRow_nil _ _ _ _, fun x hx => (by cases hx)⟩
theorem words_flat (F : List (List UInt8)) : (F.map toB).flatMap sC = F.map strV := by
  induction F with
  | nil => rfl
  | cons x F ih => rw [List.map_cons, List.flatMap_cons, ih]; rfl
theorem words_own (W : World) (F : List (List UInt8)) (hF : F.length ≤ 14) : (W.alloc (.cells (F.map strV).toArray 9)).ownsRow W.heap.size 9 1 (.slice (some ⟨W.heap.size, 0, none⟩) F.length F.length) F.length ((F.map toB).flatMap sC) := by
  rw [words_flat]
  refine ⟨by simp, .inr ⟨W.heap.size, F.length, _, rfl, Nat.le_refl _, heap_alloc_new W _, Nat.le_refl _, by simp only [maxLen]; omega, by simp, by rw [Nat.mul_one]; exact List.take_of_length_le (by simp)⟩⟩
theorem wordsE_none {l : List UInt8} (h : wordsE l = none) : (Lib.fields l).length ≤ 14 ∧ l.all okB = true ∧ (Lib.fields l).any longB = false := by
  unfold wordsE at h
  by_cases h1 : l.all okB = true
  · rw [if_pos h1] at h
    by_cases h2 : (Lib.fields l).any longB = true
    · rw [if_pos h2] at h; cases h
    · rw [if_neg h2] at h
      by_cases h3 : 14 < (Lib.fields l).length
      · rw [if_pos h3] at h; cases h
      · exact ⟨by omega, h1, by simpa using h2⟩
  · rw [if_neg h1] at h; cases h
theorem items_len : ∀ (no : Nat) (ps : List (List UInt8)), (items no ps).length = ps.length
  | _, [] => rfl
  | no, p :: ps => by rw [items, List.length_cons, List.length_cons, items_len]
theorem pieces_small (c : UInt8) : ∀ l : List UInt8, (pieces c l).length ≤ l.length + 1 ∧ ∀ p ∈ pieces c l, p.length ≤ l.length
  | [] => by simp [pieces]
  | b :: l => by
    obtain ⟨h1, h2⟩ := pieces_small c l
    by_cases hb : (b == c) = true
    · rw [pieces_hit hb]
      refine ⟨by simp; omega, fun p hp => ?_⟩
      rcases List.mem_cons.1 hp with rfl | hp
      · simp
      · have := h2 p hp; simp; omega
    · obtain ⟨p, ps, e⟩ : ∃ p ps, pieces c l = p :: ps := by
        cases e : pieces c l with
        | nil => exact absurd e (pieces_ne c l)
        | cons p ps => exact ⟨p, ps, rfl⟩
      rw [pieces_skip hb e]
      rw [e] at h1 h2
      refine ⟨by simp at h1 ⊢; omega, fun q hq => ?_⟩
      rcases List.mem_cons.1 hq with rfl | hq
      · have := h2 p (by simp); simp; omega
      · have := h2 q (by simp [hq]); simp; omega
theorem items_small : ∀ {no : Nat} {ps : List (List UInt8)} {m : Nat}, (∀ p ∈ ps, p.length ≤ m) → ∀ x ∈ items no ps, x.2.length ≤ m
  | _, [], _, _, x, hx => by cases hx
  | no, p :: ps, m, h, x, hx => by
    rw [items] at hx
    rcases List.mem_cons.1 hx with rfl | hx
    · exact Nat.le_trans (strip_len p) (h p (by simp))
    · exact items_small (fun q hq => h q (by simp [hq])) x hx
theorem itemsOf_small (l : List UInt8) : (itemsOf l).length ≤ l.length + 1 ∧ ∀ x ∈ itemsOf l, x.2.length ≤ l.length := by
  obtain ⟨h1, h2⟩ := pieces_small 10 l
  exact ⟨by unfold itemsOf; rw [items_len]; exact h1, items_small h2⟩
theorem gather_len (l : List (Nat × List UInt8)) : (gather l).length ≤ l.length := by
  induction l with
  | nil => simp [gather]
  | cons x l ih =>
    unfold gather at ih ⊢
    rw [List.flatMap_cons, List.length_append, List.length_cons]
    have : (lineOf x).length ≤ 1 := by unfold lineOf; split <;> simp
    omega
theorem gather_add (l : List (Nat × List UInt8)) (x : Nat × List UInt8) : gather (l ++ [x]) = gather l ++ lineOf x := by
  unfold gather; rw [List.flatMap_append]; simp
theorem lineOf_none {x : Nat × List UInt8} (h : Lib.fields x.2 = []) : lineOf x = [] := by unfold lineOf; rw [if_pos h]
theorem lineOf_some {x : Nat × List UInt8} (h : ¬ Lib.fields x.2 = []) : lineOf x = [(x.1, Lib.fields x.2)] := by unfold lineOf; rw [if_neg h]
theorem bad_here {pre post : List (Nat × List UInt8)} {x : Nat × List UInt8} {k : Int} (hp : firstBad pre = none) (h : wordsE x.2 = some k) : firstBad (pre ++ x :: post) = some (k, (x.1 : Int)) := by
  unfold firstBad at hp ⊢
  rw [List.findSome?_append, hp, List.findSome?_cons]
  unfold badOf
  rw [h]; rfl
theorem fine_here {pre : List (Nat × List UInt8)} {x : Nat × List UInt8} (hp : firstBad pre = none) (h : wordsE x.2 = none) : firstBad (pre ++ [x]) = none := by
  unfold firstBad at hp ⊢
  rw [List.findSome?_append, hp, List.findSome?_cons]
  unfold badOf
  rw [h]; rfl
/-- what stands between two rounds; h: the heap's size when the call began, B: the heap's size when the loop began -/
def CI (w : World) (B : Nat) (pre : List (Nat × List UInt8)) (W : World) : Prop :=
  (∃ v n, Boxed W w.heap.size 22 v ∧ LnsAt W B (toldL (gather pre)) n v) ∧ Boxed W (w.heap.size + 1) 30 (.int .i64 0) ∧ Boxed W (w.heap.size + 1 + 1) 3 (.int .i64 0) ∧ Below w.heap.size w W ∧ firstBad pre = none
theorem ci_own (w : World) (B D : Nat) (hD : w.heap.size ≤ D) : OwnFrom D (CI w B) := by
  rintro pre X Y row ⟨⟨v, n, h1, h2⟩, h3, h4, h5, h6⟩ hg hr
  exact ⟨⟨v, n, boxed_same hg hr h1, h2.same hg hr⟩, boxed_same hg hr h3, boxed_same hg hr h4, h5.grown hg h5.size (fun k hk => by have := (hr k hk).1; omega), h6⟩
/-- what stands behind a panic -/
def CB (w : World) (l : List UInt8) (ch : List PanicEntry) (W : World) : Prop :=
  ∃ k no v, ch = faultC k no ∧ firstBad (itemsOf l) = some (k, no) ∧ Boxed W w.heap.size 22 v ∧ Boxed W (w.heap.size + 1) 30 (.int .i64 0) ∧ Boxed W (w.heap.size + 1 + 1) 3 (.int .i64 0) ∧ Below w.heap.size w W
theorem cb_own (w : World) (l : List UInt8) (D : Nat) (hD : w.heap.size ≤ D) : OwnFrom D (CB w l) := by
  rintro pre X Y row ⟨k, no, v, h0, h1, h2, h3, h4, h5⟩ hg hr
  exact ⟨k, no, v, h0, h1, boxed_same hg hr h2, boxed_same hg hr h3, boxed_same hg hr h4, h5.grown hg h5.size (fun k hk => by have := (hr k hk).1; omega)⟩
theorem grown_of_below {w w' : World} (h : Below w.heap.size w w') : w.grownBy w' none := ⟨h.os, h.tape, h.output, h.size, fun i hi _ => h.block i hi⟩
theorem keeps_of_below {w w' : World} (h : Below w.heap.size w w') (B : Nat) : KeepsFrom B w w' := (KeepsOthers.of_grownBy (grown_of_below h) (fun j o e => by cases e)).from B
theorem boxed_below {w w' : World} {b : Nat} {t : TypeId} {v : Value} (h : Boxed w b t v) (hb : Below w.heap.size w w') : Boxed w' b t v := (hb.block _ (Array.getElem?_eq_some_iff.1 h).1).trans h
theorem ci_bad {w W W' : World} {B : Nat} {l : List UInt8} {pre post : List (Nat × List UInt8)} {x : Nat × List UInt8} {k : Int} (h : CI w B pre W) (hp : itemsOf l = pre ++ x :: post) (hk : wordsE x.2 = some k) (hb : Below W.heap.size W W') : CB w l (faultC k (x.1 : Int)) W' := by
  obtain ⟨⟨v, n, h1, -⟩, h3, h4, h5, h6⟩ := h
  exact ⟨k, (x.1 : Int), v, rfl, by rw [hp]; exact bad_here h6 hk, boxed_below h1 hb, boxed_below h3 hb, boxed_below h4 hb, h5.trans (hb.mono h5.size)⟩
theorem ci_skip {w W W' : World} {B : Nat} {pre : List (Nat × List UInt8)} {x : Nat × List UInt8} (h : CI w B pre W) (hx : wordsE x.2 = none) (hf : Lib.fields x.2 = []) (hb : Below W.heap.size W W') : CI w B (pre ++ [x]) W' := by
  obtain ⟨⟨v, n, h1, h2⟩, h3, h4, h5, h6⟩ := h
  exact ⟨⟨v, n, boxed_below h1 hb, by rw [gather_add, lineOf_none hf, List.append_nil]; exact h2.below hb⟩, boxed_below h3 hb, boxed_below h4 hb, h5.trans (hb.mono h5.size), fine_here h6 hx⟩
theorem ci_box {w W W1 w2 : World} {B : Nat} {v : Value} {n : Nat} {ob : Obj} {xs : List Value} (hB : w.heap.size + 1 + 1 < B) (hv : Boxed W w.heap.size 22 v) (hown : W.ownsRow B 27 2 v n xs) (hb1 : Below W.heap.size W W1) (hg : (W1.alloc ob).grownBy w2 v.ownBlock) : Boxed w2 w.heap.size 22 v := by
  have h1 := boxed_below hv hb1
  have hl := (Array.getElem?_eq_some_iff.1 h1).1
  exact ((hg.block _ (by simp; omega) (fun e => by have := (hown.lt _ e.symm).1; omega)).trans (Below.heap_alloc _ _ _ hl)).trans h1
theorem one_line (no : Int) (A : Option Addr) (n c : Nat) : ∀ u ∈ [Value.int .i64 no, .slice A n c], u.oneCell' = true := by
  intro u hu
  simp only [List.mem_cons, List.not_mem_nil, or_false] at hu
  rcases hu with rfl | rfl <;> rfl
/-- what a line's append leaves -/
theorem ci_more {w W W1 w2 : World} {B : Nat} {pre : List (Nat × List UInt8)} {x : Nat × List UInt8} {v v' : Value} {n : Nat} {ob : Obj} (hB : w.heap.size + 1 + 1 < B) (h : CI w B pre W) (hv : Boxed W w.heap.size 22 v) (xs : List Ln)
    (hn : n = xs.length) (htold : xs.map Ln.told = toldL (gather pre)) (hown : W.ownsRow B 27 2 v n (xs.flatMap Ln.cells)) (hws : ∀ x ∈ xs, ∃ B', W.ownsRow B' 9 1 x.v x.ws.length (x.ws.flatMap sC))
    (hx : wordsE x.2 = none) (hf : ¬ Lib.fields x.2 = []) (hW1 : W.alloc (.cells ((Lib.fields x.2).map strV).toArray 9) = W1)
    (ho : w2.ownsRow B 27 2 v' (n + 1) (xs.flatMap Ln.cells ++ [.int .i64 (x.1 : Int), .slice (some ⟨W.heap.size, 0, none⟩) (Lib.fields x.2).length (Lib.fields x.2).length])) (hg : (W1.alloc ob).grownBy w2 v.ownBlock) (D : Nat) (_hD : w.heap.size ≤ D) :
    KeepsFrom D W (w2.setCell ⟨w.heap.size, 0, none⟩ v') ∧ CI w B (pre ++ [x]) (w2.setCell ⟨w.heap.size, 0, none⟩ v') := by
  have hwo := words_own W (Lib.fields x.2) (wordsE_none hx).1
  rw [hW1] at hwo
  have hb1 : Below W.heap.size W W1 := by rw [← hW1]; exact (Below.refl _ _).alloc (Nat.le_refl _) _
  obtain ⟨-, h3, h4, h5, h6⟩ := h
  have hlt := hown.lt
  have hne : ∀ b, b < B → v.ownBlock ≠ some b := fun b hb e => by have := (hlt b e).1; omega
  have hz2 : W1.heap.size ≤ w2.heap.size := by have := hg.size; simp at this; omega
  have hold : ∀ b, b < B → b < W1.heap.size → w2.heap[b]? = W1.heap[b]? := fun b hb hbl => (hg.block b (by simp; omega) (fun e => hne b hb e.symm)).trans (Below.heap_alloc _ _ _ hbl)
  have b0 : Boxed w2 w.heap.size 22 v := (hold _ (by omega) (Array.getElem?_eq_some_iff.1 (boxed_below hv hb1)).1).trans (boxed_below hv hb1)
  have b1 : Boxed w2 (w.heap.size + 1) 30 (.int .i64 0) := (hold _ (by omega) (Array.getElem?_eq_some_iff.1 (boxed_below h3 hb1)).1).trans (boxed_below h3 hb1)
  have b2 : Boxed w2 (w.heap.size + 1 + 1) 3 (.int .i64 0) := (hold _ (by omega) (Array.getElem?_eq_some_iff.1 (boxed_below h4 hb1)).1).trans (boxed_below h4 hb1)
  have hown1 := own_below hown hb1
  have hgs := grown_set w2 w.heap.size 0 v'
  have hnot : ∀ {n' size' B' : Nat} {u : Value} {ys : List Value}, w2.ownsRow B' 9 size' u n' ys → u.ownBlock = none ∨ u.ownBlock ≠ some w.heap.size := by
    intro n' size' B' u ys hu
    rcases hu.2 with ⟨rfl, _⟩ | ⟨g, cap, cur, rfl, _, hgb, _⟩
    · exact .inl rfl
    · refine .inr (fun e => ?_)
      injection e with e
      simp only at e
      subst e
      rw [show w2.heap[w.heap.size]? = _ from b0] at hgb
      injection hgb with hgb
      injection hgb with _ hgb
      exact absurd hgb (by decide)
  refine ⟨?_, ⟨v', n + 1, b0.set v', xs ++ [⟨(x.1 : Int), .slice (some ⟨W.heap.size, 0, none⟩) (Lib.fields x.2).length (Lib.fields x.2).length, (Lib.fields x.2).map toB⟩], by simp [hn], ?_, ?_, ?_⟩, b1.other (by omega) _, b2.other (by omega) _, ?_, fine_here h6 hx⟩
  · refine KeepsOthers.from ?_ D
    refine ((KeepsOthers.of_grownBy (grown_of_below hb1) (fun j o e => by cases e)).trans ((KeepsOthers.alloc W1 ob).trans (KeepsOthers.of_grownBy hg (fun j o ej hj => ?_)))).trans (KeepsOthers.setCell _ _ _)
    rcases (hown1.alloc ob).2 with ⟨rfl, _⟩ | ⟨g, cap, cur, rfl, _, hgb, _⟩
    · simp [Value.ownBlock] at ej
    · simp only [Value.ownBlock, Option.some.injEq] at ej
      subst ej
      rw [hgb] at hj
      cases hj
      rfl
  · rw [gather_add, lineOf_some hf]
    unfold toldL at htold ⊢
    rw [List.map_append, List.map_append, htold]
    rfl
  · have h1 : (xs ++ [(⟨(x.1 : Int), .slice (some ⟨W.heap.size, 0, none⟩) (Lib.fields x.2).length (Lib.fields x.2).length, (Lib.fields x.2).map toB⟩ : Ln)]).flatMap Ln.cells = xs.flatMap Ln.cells ++ [.int .i64 (x.1 : Int), .slice (some ⟨W.heap.size, 0, none⟩) (Lib.fields x.2).length (Lib.fields x.2).length] := by simp [Ln.cells]
    rw [h1]
    exact ho.kept hgs (.inr (fun e => by have := (ho.lt _ e).1; omega))
  · intro y hy
    rcases List.mem_append.1 hy with hy | hy
    · obtain ⟨B', hB'⟩ := hws y hy
      have e1 := own_below hB' hb1
      have e2 := (e1.alloc ob).kept hg (own_ne e1 hown1 (by decide))
      exact ⟨B', e2.kept hgs (hnot e2)⟩
    · obtain rfl := List.mem_singleton.1 hy
      have e2 := (hwo.alloc ob).kept hg (own_ne hwo hown1 (by decide))
      exact ⟨W.heap.size, by simpa using e2.kept hgs (hnot e2)⟩
  · have e1 : Below w.heap.size w W1 := h5.trans (hb1.mono h5.size)
    have e2 : Below w.heap.size w w2 := (e1.alloc e1.size ob).grown hg (by have := e1.size; simp; omega) (fun k hk => by have := (hlt k hk).1; omega)
    exact e2.setCell (p := ⟨w.heap.size, 0, none⟩) (Nat.le_refl _) _
theorem LnsAt.set {W : World} {B n b : Nat} {l : List (Int × List ByteArray)} {v u u' : Value} {t : TypeId} (h : LnsAt W B l n v) (hb : Boxed W b t u) (ht : t ≠ 27 ∧ t ≠ 9) : LnsAt (W.setCell ⟨b, 0, none⟩ u') B l n v := by
  have hnot : ∀ {n' size' B' : Nat} {e : TypeId} {x : Value} {ys : List Value}, t ≠ e → W.ownsRow B' e size' x n' ys → x.ownBlock = none ∨ x.ownBlock ≠ some b := by
    intro n' size' B' e x ys hne hu
    rcases hu.2 with ⟨rfl, _⟩ | ⟨g, cap, cur, rfl, _, hgb, _⟩
    · exact .inl rfl
    · refine .inr (fun e => ?_)
      injection e with e
      simp only at e
      subst e
      rw [show W.heap[_]? = _ from hb] at hgb
      injection hgb with hgb
      injection hgb with _ hgb
      exact hne hgb
  obtain ⟨xs, h1, h2, h3, h4⟩ := h
  refine ⟨xs, h1, h2, h3.kept (grown_set W b 0 u') (hnot ht.1 h3), fun x hx => ?_⟩
  obtain ⟨B', hB⟩ := h4 x hx
  exact ⟨B', hB.kept (grown_set W b 0 u') (hnot ht.2 hB)⟩
theorem ci_again {w W : World} {B : Nat} {xs : List (Nat × List UInt8)} {v : Value} (h : CI w B xs W) (hv : Boxed W w.heap.size 22 v) : CI w B xs (((W.setCell ⟨w.heap.size, 0, none⟩ v).setCell ⟨w.heap.size + 1, 0, none⟩ (.int .i64 0)).setCell ⟨w.heap.size + 1 + 1, 0, none⟩ (.int .i64 0)) := by
  obtain ⟨⟨v', n, h1, h2⟩, h3, h4, h5, h6⟩ := h
  obtain rfl : v' = v := by
    have e := Option.some.inj (h1.cell.symm.trans hv.cell)
    exact e
  have a1 := h1.set v'
  have a3 := h3.other (B' := w.heap.size) (by omega) v'
  have a4 := h4.other (B' := w.heap.size) (by omega) v'
  have a2 := h2.set (u' := v') h1 ⟨by decide, by decide⟩
  have b1 := a1.other (B' := w.heap.size + 1) (by omega) (.int .i64 0)
  have b3 := a3.set (.int .i64 0)
  have b4 := a4.other (B' := w.heap.size + 1) (by omega) (.int .i64 0)
  have b2 := a2.set (u' := .int .i64 0) a3 ⟨by decide, by decide⟩
  have c1 := b1.other (B' := w.heap.size + 1 + 1) (by omega) (.int .i64 0)
  have c3 := b3.other (B' := w.heap.size + 1 + 1) (by omega) (.int .i64 0)
  have c4 := b4.set (.int .i64 0)
  have c2 := b2.set (u' := .int .i64 0) b4 ⟨by decide, by decide⟩
  exact ⟨⟨v', n, c1, c2⟩, c3, c4, ((h5.setCell (p := ⟨w.heap.size, 0, none⟩) (Nat.le_refl _) _).setCell (p := ⟨w.heap.size + 1, 0, none⟩) (Nat.le_succ _) _).setCell (p := ⟨w.heap.size + 1 + 1, 0, none⟩) (by simp only []; omega) _, h6⟩
end Go.Proofs.YtpoihpehdlogbaaDoor
