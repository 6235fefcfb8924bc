/-
  THE WALK of mbap.Cut.
-/
import Derived.Test.YthcgomfejibkhaaMbapFrames
import Derived.Test.YthcgomfejibkhaaMbapGreat
import Derived.RangeFuncBox
namespace Go.Proofs.Ythcgomfejibkhaa
open Go.RowKit Go.Shelf Mbap
attribute [local go_sem] Oper.semAt_some

theorem adu_info : (Try.prog.info? 26).map (fun i => (i.zero, i.size, i.bytes)) = some (some (.agg #[.int .u16 0, .int .u8 0, .slice none 0 0]), 3, 32) := by kernel_rfl
/-- the cells of what came -/
abbrev itemCells (x : Item) : List Value := aduCells (x.1, x.2.1)
theorem BytesAt.kept {W W' : World} {B : Nat} {l : List UInt8} {v : Value} (h : BytesAt W l v) (hk : Kind B 5 W v) (hz : W.heap.size ≤ W'.heap.size) (hs : ∀ (g : Nat) (cs : Array Value), W.heap[g]? = some (Obj.cells cs 5 (0, 0)) → W'.heap[g]? = W.heap[g]?) : BytesAt W' l v := by
  obtain ⟨A, c, rfl, hc, hx⟩ := h
  refine ⟨A, c, rfl, hc, fun hne => ?_⟩
  obtain ⟨b, off, rfl, hb, hx⟩ := hx hne
  obtain ⟨-, cs, hcs⟩ := hk b rfl
  exact ⟨b, off, rfl, by omega, fun i x hi d u hu => (World.cell?_of_block (w := W) (a := ⟨b, _, none⟩) (hs b cs hcs)).trans (hx i x hi d u hu)⟩
/-- the bytes of what came -/
def Rest (B : Nat) (W : World) (x : Item) : Prop := (∃ A c, x.2.1 = .slice A x.1.pdu.length c) ∧ BytesAt W x.1.pdu x.2.1 ∧ Kind B 5 W x.2.1
theorem Rest.kept {W W' : World} {B : Nat} {x : Item} (h : Rest B W x) (hz : W.heap.size ≤ W'.heap.size) (hs : ∀ (g : Nat) (cs : Array Value), W.heap[g]? = some (Obj.cells cs 5 (0, 0)) → W'.heap[g]? = W.heap[g]?) : Rest B W' x :=
  ⟨h.1, h.2.1.kept h.2.2 hz hs, h.2.2.keep hs⟩
/-- what stands between two rounds; h: the heap's size when the call began -/
def CutI (l : List UInt8) (w : World) (xs : List Item) (W : World) : Prop :=
  (∃ v, Boxed W w.heap.size 32 v ∧ W.ownsRow (w.heap.size + 5) 26 3 v xs.length (xs.flatMap itemCells)) ∧ Boxed W (w.heap.size + 1) 3 (.int .i64 ((xs.map (·.2.2)).sum : Nat)) ∧
    Boxed W (w.heap.size + 2) 27 (.int .i64 0) ∧ (∀ x ∈ xs, Rest (w.heap.size + 5) W x) ∧ Below w.heap.size w W ∧ ∃ r, Came l (xs.map Item.both) r
/-- what a growth that turns no cells leaves -/
theorem grown_same {A B : World} {row : Option Nat} {W0 : Nat} (hg : A.grownBy B row) (hr : ∀ r, row = some r → W0 ≤ r ∧ ∃ o, A.heap[r]? = some o ∧ o.isCells = false) {g : Nat} {cs : Array Value} {t : TypeId} (h : A.heap[g]? = some (Obj.cells cs t (0, 0))) : B.heap[g]? = A.heap[g]? := by
  refine hg.block g (Array.getElem?_eq_some_iff.1 h).1 (fun e => ?_)
  obtain ⟨-, o, ho, hc⟩ := hr g e.symm
  rw [h] at ho
  cases ho
  cases hc
theorem boxed_same {A B : World} {row : Option Nat} {W0 : Nat} (hg : A.grownBy B row) (hr : ∀ r, row = some r → W0 ≤ r ∧ ∃ o, A.heap[r]? = some o ∧ o.isCells = false) {b : Nat} {t : TypeId} {v : Value} (h : Boxed A b t v) : Boxed B b t v := (grown_same hg hr h).trans h
theorem row_same {A B : World} {row : Option Nat} {W0 : Nat} (hg : A.grownBy B row) (hr : ∀ r, row = some r → W0 ≤ r ∧ ∃ o, A.heap[r]? = some o ∧ o.isCells = false) {base size n : Nat} {e : TypeId} {v : Value} {xs : List Value} (h : A.ownsRow base e size v n xs) : B.ownsRow base e size v n xs := by
  rcases h.2 with ⟨rfl, _⟩ | ⟨g, cap, cur, rfl, _, hgb, _⟩
  · exact h.kept hg (.inl rfl)
  · refine h.kept hg (.inr (fun ee => ?_))
    obtain ⟨-, o, ho, hc⟩ := hr g ee.symm
    rw [hgb] at ho
    cases ho
    cases hc
theorem cutI_own (l : List UInt8) (w : World) (B : Nat) (hB : w.heap.size ≤ B) : OwnFrom B (CutI l w) := by
  rintro xs X Y row ⟨⟨v, h1, h2⟩, h3, h4, h5, h6, h7⟩ hg hr
  refine ⟨⟨v, boxed_same hg hr h1, row_same hg hr h2⟩, boxed_same hg hr h3, boxed_same hg hr h4, fun x hx => (h5 x hx).kept hg.size (fun g cs h => grown_same hg hr h), ?_, h7⟩
  exact h6.grown hg h6.size (fun k hk => by have := (hr k hk).1; omega)
/-- what stands behind the loop -/
def CutR (l : List UInt8) (w : World) (xs : List Item) (W : World) : Prop :=
  ∃ r e, Came l (xs.map Item.both) r ∧ first r = (none, 0, e) ∧
  (∃ v, Boxed W w.heap.size 32 v ∧ W.ownsRow (w.heap.size + 5) 26 3 v xs.length (xs.flatMap itemCells)) ∧ Boxed W (w.heap.size + 1) 3 (.int .i64 ((xs.map (·.2.2)).sum : Nat)) ∧
    Boxed W (w.heap.size + 2) 27 (.int .i64 (e : Int)) ∧ (∀ x ∈ xs, Rest (w.heap.size + 5) W x) ∧ Below w.heap.size w W
theorem cutR_own (l : List UInt8) (w : World) (B : Nat) (hB : w.heap.size ≤ B) : OwnFrom B (CutR l w) := by
  rintro xs X Y row ⟨r, e, h7, h8, ⟨v, h1, h2⟩, h3, h4, h5, h6⟩ hg hr
  refine ⟨r, e, h7, h8, ⟨v, boxed_same hg hr h1, row_same hg hr h2⟩, boxed_same hg hr h3, boxed_same hg hr h4, fun x hx => (h5 x hx).kept hg.size (fun g cs h => grown_same hg hr h), ?_⟩
  exact h6.grown hg h6.size (fun k hk => by have := (hr k hk).1; omega)
/-- the iterator's last store -/
theorem cut_ends {l : List UInt8} {w : World} {B : Nat} {xs : List Item} {X Y : World} (h : CutI l w xs X) (he : EndsAt l (w.heap.size + 2) xs X Y) : KeepsFrom B X Y ∧ CutR l w xs Y := by
  obtain ⟨⟨v, h1, h2⟩, h3, h4, h5, h6, h7⟩ := h
  obtain ⟨r, e, hC, hf, hg, hy⟩ := he
  have hne : ∀ (g : Nat) (cs : Array Value) (t : TypeId), X.heap[g]? = some (Obj.cells cs t (0, 0)) → t ≠ 27 → Y.heap[g]? = X.heap[g]? := by
    intro g cs t h ht
    refine hg.block g (Array.getElem?_eq_some_iff.1 h).1 (fun ee => ?_)
    injection ee with ee
    subst ee
    rw [show X.heap[w.heap.size + 2]? = _ from h4] at h
    injection h with h
    injection h with _ h
    exact ht h.symm
  refine ⟨(KeepsOthers.of_grownBy hg (fun j o hj ho => ?_)).from B, r, e, hC, hf, ⟨v, (hne _ _ _ h1 (by decide)).trans h1, ?_⟩, (hne _ _ _ h3 (by decide)).trans h3, hy, fun x hx => (h5 x hx).kept hg.size (fun g cs h => hne g cs 5 h (by decide)), ?_⟩
  · cases hj
    rw [show X.heap[w.heap.size + 2]? = _ from h4] at ho
    cases ho
    rfl
  · rcases h2.2 with ⟨rfl, _⟩ | ⟨g, cap, cur, rfl, _, hgb, _⟩
    · exact h2.kept hg (.inl rfl)
    · refine h2.kept hg (.inr (fun ee => ?_))
      injection ee with ee
      subst ee
      rw [show X.heap[w.heap.size + 2]? = _ from h4] at hgb
      injection hgb with hgb
      injection hgb with _ hgb
      cases hgb
  · exact h6.grown hg h6.size (fun k hk => by cases hk; omega)
/-- what the round's own assignment leaves -/
def CutA (l : List UInt8) (w : World) (fr : Nat → Item → Act) (pre : List Item) (x : Item) (a : Act) (W : World) : Prop :=
  ∃ Bx, w.heap.size + 5 ≤ Bx ∧ W.heap[Bx]? = some (.cells (itemCells x).toArray 26 (0, 0)) ∧ a = fr Bx x ∧ Rest (w.heap.size + 5) W x ∧ ∃ r, Came l ((pre ++ [x]).map Item.both) r
theorem cutA_own (l : List UInt8) (w : World) (fr : Nat → Item → Act) (pre : List Item) (x : Item) (a : Act) (B : Nat) : OwnFrom B (fun (_ : Unit) W => CutA l w fr pre x a W) := by
  rintro s X Y row ⟨Bx, h1, h2, h3, h4, h5⟩ hg hr
  exact ⟨Bx, h1, (grown_same hg hr h2).trans h2, h3, h4.kept hg.size (fun g cs h => grown_same hg hr h), h5⟩
/-- the frame of a round -/
def cutFr (A : Option Addr) (n c h : Nat) (Bx : Nat) (x : Item) : Act :=
  ⟨#[.slice A n c, undef, .slice none 0 0, .int .i64 0, .int .i64 0, .pointer (some ⟨h, 0, none⟩), .pointer (some ⟨h + 1, 0, none⟩), .pointer (some ⟨h + 1 + 1, 0, none⟩), .pointer (some ⟨Bx, 0, none⟩), .int .i64 (x.2.2 : Int), .slice A n c,
    .func (.func 20) #[] #[.pointer (some ⟨h + 1 + 1 + 1, 0, none⟩), .pointer (some ⟨h + 1 + 1 + 1 + 1, 0, none⟩)], aduV x.1 x.2.1, .int .i64 (x.2.2 : Int), undef, undef, undef, undef, undef, undef, undef, undef, undef, undef], []⟩
/-- the blocks that a round keeps -/
def CutK (h k : Nat) : Prop := k < h + 5 ∧ k ≠ h ∧ k ≠ h + 1
theorem cutK_has (h : Nat) : (∀ k, k < h → CutK h k) ∧ CutK h (h + 1 + 1 + 1 + 1) ∧ CutK h (h + 2) := ⟨fun k hk => ⟨by omega, by omega, by omega⟩, ⟨by omega, by omega, by omega⟩, ⟨by omega, by omega, by omega⟩⟩
theorem keeps_trans {K : Nat → Prop} {A B C : World} (h : Keeps K A B) (k : Keeps K B C) : Keeps K A C := ⟨Nat.le_trans h.1 k.1, fun i hi => (k.2 i hi).trans (h.2 i hi)⟩
theorem keeps_put {h : Nat} {W : World} {l : Nat} {o : Obj} (hl : h + 5 ≤ l) : Keeps (CutK h) W (W.putObj l o) :=
  ⟨by simp [World.putObj], fun k hk => World.putObj_heap_other (by have := hk.1; omega)⟩
theorem keeps_of_grown {h : Nat} {W W' : World} {row : Option Nat} (hg : W.grownBy W' row) (hr : ∀ k, row = some k → ¬ CutK h k) (hz : h + 5 ≤ W.heap.size) : Keeps (CutK h) W W' :=
  ⟨hg.size, fun k hk => hg.block k (by have := hk.1; omega) (fun e => hr k e.symm hk)⟩
theorem cut_start (l : List UInt8) (w : World) (A : Option Addr) (c : Nat) (h : BytesAt w l (.slice A l.length c)) (W0 : World)
    (hW : (((((w.alloc (.cells #[.slice none 0 0] 32)).alloc (.cells #[.int .i64 0] 3)).alloc (.cells #[.int .i64 0] 27)).alloc (.cells #[.slice A l.length c] 22)).alloc (.cells #[.pointer (some ⟨w.heap.size + 1 + 1, 0, none⟩)] 45)) = W0) :
    W0.heap.size = w.heap.size + 5 ∧ CutI l w [] W0 ∧ W0.heap[w.heap.size + 1 + 1 + 1]? = some (.cells #[.slice A l.length c] 22 (0, 0)) ∧ ItAt (w.heap.size + 1 + 1 + 1 + 1) (w.heap.size + 2) W0 W0 ∧ BytesAt W0 l (.slice A l.length c) ∧ (0 < l.length → ∀ g, (Value.slice A l.length c).ownBlock = some g → g < w.heap.size) := by
  subst hW
  refine ⟨by simp, ⟨⟨.slice none 0 0, ?_, World.ownsRow_nil _ _ _ _⟩, ?_, ?_, by simp, ?_, l, Came.none l⟩, ?_, ⟨Nat.le_refl _, ?_, ?_⟩, ?_, ?_⟩
  · exact (((((Boxed.new w 32 (.slice none 0 0)).alloc _).alloc _).alloc _).alloc _)
  · have := Boxed.new (w.alloc (.cells #[.slice none 0 0] 32)) 3 (.int .i64 0)
    rw [World.size_alloc] at this
    exact (((this.alloc _).alloc _).alloc _)
  · have := Boxed.new ((w.alloc (.cells #[.slice none 0 0] 32)).alloc (.cells #[.int .i64 0] 3)) 27 (.int .i64 0)
    rw [World.size_alloc, World.size_alloc] at this
    exact ((this.alloc _).alloc _)
  · exact ((((((Below.refl _ _).alloc (Nat.le_refl _) _).alloc (by simp) _).alloc (by simp; omega) _).alloc (by simp; omega) _).alloc (by simp; omega) _)
  · have := Boxed.new (((w.alloc (.cells #[.slice none 0 0] 32)).alloc (.cells #[.int .i64 0] 3)).alloc (.cells #[.int .i64 0] 27)) 22 (.slice A l.length c)
    rw [World.size_alloc, World.size_alloc, World.size_alloc] at this
    exact (this.alloc _)
  · have := Boxed.new ((((w.alloc (.cells #[.slice none 0 0] 32)).alloc (.cells #[.int .i64 0] 3)).alloc (.cells #[.int .i64 0] 27)).alloc (.cells #[.slice A l.length c] 22)) 45 (.pointer (some ⟨w.heap.size + 1 + 1, 0, none⟩))
    rw [World.size_alloc, World.size_alloc, World.size_alloc, World.size_alloc] at this
    exact this
  · have := Boxed.new ((w.alloc (.cells #[.slice none 0 0] 32)).alloc (.cells #[.int .i64 0] 3)) 27 (.int .i64 0)
    rw [World.size_alloc, World.size_alloc] at this
    exact ((this.alloc _).alloc _)
  · exact ((((h.alloc _).alloc _).alloc _).alloc _).alloc _
  · intro hn g hg
    obtain ⟨b, off, c', e, hb, -⟩ := h.byte hn
    injection e with e _ _
    subst e
    cases hg
    exact hb
/-- a round's end -/
def goesOnIs (B : Nat) (w : World) (l : List UInt8) (xs : List Item) (W W' : World) : Prop := KeepsFrom B W W' ∧ Keeps (CutK w.heap.size) W W' ∧ CutI l w xs W'
theorem cut_round {l : List UInt8} {w W w1 : World} {pre : List Item} {x : Item} {v v' : Value} {o : Obj} {B : Nat} (hWz : w.heap.size + 5 ≤ W.heap.size) (hi : CutI l w pre W) (hv : Boxed W w.heap.size 32 v)
    (hrow : W.ownsRow (w.heap.size + 5) 26 3 v pre.length (pre.flatMap itemCells)) (hx : Rest (w.heap.size + 5) W x) (hC : ∃ r, Came l ((pre ++ [x]).map Item.both) r)
    (hown' : w1.ownsRow (w.heap.size + 5) 26 3 v' (pre.length + 1) (pre.flatMap itemCells ++ itemCells x)) (hgrow : (W.alloc o).grownBy w1 v.ownBlock) :
    goesOnIs B w l (pre ++ [x]) W ((w1.setCell ⟨w.heap.size, 0, none⟩ v').setCell ⟨w.heap.size + 1, 0, none⟩ (.int .i64 (((pre.map (·.2.2)).sum : Nat) + (x.2.2 : Int)))) := by
  obtain ⟨-, hm, he, hr, hb, -⟩ := hi
  have hlt := hrow.lt
  have hg1 : W.grownBy w1 v.ownBlock := ⟨hgrow.os, hgrow.tape, hgrow.output, Nat.le_trans (by simp) hgrow.size, fun k hk hne => (hgrow.block k (by simp; omega) hne).trans (Below.heap_alloc _ _ _ hk)⟩
  have hoth : ∀ (g : Nat) (cs : Array Value) (t : TypeId), W.heap[g]? = some (Obj.cells cs t (0, 0)) → t ≠ 26 → w1.heap[g]? = W.heap[g]? := by
    intro g cs t h ht
    refine hg1.block g (Array.getElem?_eq_some_iff.1 h).1 (fun ee => ?_)
    rcases hrow.2 with ⟨rfl, _⟩ | ⟨g', cap, cur, rfl, _, hgb, _⟩
    · simp [Value.ownBlock] at ee
    · simp only [Value.ownBlock, Option.some.injEq] at ee
      subst ee
      rw [hgb] at h
      injection h with h
      injection h with _ h
      exact ht h.symm
  have hv1 : Boxed w1 w.heap.size 32 v := (hoth _ _ _ hv (by decide)).trans hv
  have hm1 : Boxed w1 (w.heap.size + 1) 3 (.int .i64 ((pre.map (·.2.2)).sum : Nat)) := (hoth _ _ _ hm (by decide)).trans hm
  have he1 : Boxed w1 (w.heap.size + 2) 27 (.int .i64 0) := (hoth _ _ _ he (by decide)).trans he
  have hsm : (((pre.map (·.2.2)).sum : Nat) + (x.2.2 : Int)) = (((pre ++ [x]).map (·.2.2)).sum : Nat) := by simp
  rw [hsm]
  have hown2 : ((w1.setCell ⟨w.heap.size, 0, none⟩ v').setCell ⟨w.heap.size + 1, 0, none⟩ (.int .i64 (((pre ++ [x]).map (·.2.2)).sum : Nat))).ownsRow (w.heap.size + 5) 26 3 v' (pre ++ [x]).length ((pre ++ [x]).flatMap itemCells) := by
    have h1 : (pre ++ [x]).flatMap itemCells = pre.flatMap itemCells ++ itemCells x := by simp
    have h2 : (pre ++ [x]).length = pre.length + 1 := by simp
    rw [h1, h2]
    refine (hown'.kept (grownBy_setCell' w1 _ v') (.inr (fun e => ?_))).kept (grownBy_setCell' _ _ _) (.inr (fun e => ?_))
    · have := (hown'.lt _ e).1; omega
    · have := (hown'.lt _ e).1; omega
  have hsame : ∀ (g : Nat) (cs : Array Value), W.heap[g]? = some (Obj.cells cs 5 (0, 0)) → ((w1.setCell ⟨w.heap.size, 0, none⟩ v').setCell ⟨w.heap.size + 1, 0, none⟩ (.int .i64 (((pre ++ [x]).map (·.2.2)).sum : Nat))).heap[g]? = W.heap[g]? := by
    intro g cs h
    rw [heap_setCell_other _ _ g _ (fun e => ?_), heap_setCell_other _ _ g _ (fun e => ?_)]
    · exact hoth g cs 5 h (by decide)
    · rw [e, show W.heap[w.heap.size]? = _ from hv] at h; cases h
    · rw [e, show W.heap[w.heap.size + 1]? = _ from hm] at h; cases h
  have hz1 : W.heap.size ≤ ((w1.setCell ⟨w.heap.size, 0, none⟩ v').setCell ⟨w.heap.size + 1, 0, none⟩ (.int .i64 (((pre ++ [x]).map (·.2.2)).sum : Nat))).heap.size := by
    have := hg1.size; simpa [World.setCell] using this
  refine ⟨?_, ?_, ⟨v', (hv1.set v').other (by omega) _, hown2⟩, (hm1.other (by omega) _).set _, (he1.other (by omega) _).other (by omega) _, ?_, ?_, hC⟩
  · refine KeepsOthers.from ?_ B
    refine (((KeepsOthers.of_grownBy hg1 (fun j ob ej hj => ?_))).trans (KeepsOthers.setCell _ _ _)).trans (KeepsOthers.setCell _ _ _)
    rcases hrow.2 with ⟨rfl, _⟩ | ⟨g, cap, cur, rfl, _, hgb, _⟩
    · simp [Value.ownBlock] at ej
    · simp only [Value.ownBlock, Option.some.injEq] at ej
      subst ej
      rw [hgb] at hj
      cases hj
      rfl
  · refine ⟨hz1, fun k hk => ?_⟩
    obtain ⟨hk1, hk2, hk3⟩ := hk
    rw [heap_setCell_other _ _ k _ hk3, heap_setCell_other _ _ k _ hk2]
    exact hg1.block k (by omega) (fun e => by have := (hlt k e.symm).1; omega)
  · intro y hy
    rcases List.mem_append.1 hy with hy | hy
    · exact (hr y hy).kept hz1 hsame
    · simp only [List.mem_singleton] at hy
      subst hy
      exact hx.kept hz1 hsame
  · exact ((hb.grown hg1 hb.size (fun k hk => by have := (hlt k hk).1; omega)).setCell (p := ⟨w.heap.size, 0, none⟩) (Nat.le_refl _) _).setCell (p := ⟨w.heap.size + 1, 0, none⟩) (Nat.le_succ _) _
theorem cut_many {l : List UInt8} {w W w1 : World} {pre : List Item} {v : Value} {o : Obj} (hi : CutI l w pre W) (hrow : W.ownsRow (w.heap.size + 5) 26 3 v pre.length (pre.flatMap itemCells)) (hgrow : (W.alloc o).grownBy w1 v.ownBlock) : Boxed w1 (w.heap.size + 1) 3 (.int .i64 ((pre.map (·.2.2)).sum : Nat)) :=
  (hi.2.1.alloc o).kept hgrow (hi.2.1.not_row (by decide) hrow)
theorem item_one (f : Adu) (A : Option Addr) (c m : Nat) : ∀ u ∈ itemCells (f, .slice A f.pdu.length c, m), u.oneCell' = true := by
  intro u hu
  simp only [List.mem_cons, List.not_mem_nil, or_false] at hu
  rcases hu with rfl | rfl | rfl <;> rfl
theorem own_form {W : World} {base size n : Nat} {e : TypeId} {v : Value} {xs : List Value} (h : W.ownsRow base e size v n xs) : ∃ A c, v = .slice A n c := by
  rcases h.2 with ⟨rfl, rfl⟩ | ⟨g, cap, cur, rfl, _⟩
  · exact ⟨none, 0, rfl⟩
  · exact ⟨_, _, rfl⟩
theorem came_len {l r : List UInt8} {xs : List (Adu × Nat)} (h : Came l xs r) : xs.length ≤ (xs.map (·.2)).sum := by
  induction h with
  | none => simp
  | more h hf ih => have := (first_some hf).2.1; simp; omega
/-- what Cut hands back -/
def CutIs (l : List UInt8) (w : World) (e : Ending) (w' : World) : Prop :=
  ∃ (xs : List Item) (r : List UInt8) (k : Nat) (A : Option Addr) (n c : Nat), Came l (xs.map Item.both) r ∧ first r = (none, 0, k) ∧ e = .returned (.tuple #[.slice A n c, .int .i64 ((xs.map (·.2.2)).sum : Nat), .int .i64 (k : Int)]) ∧
    w'.ownsRow (w.heap.size + 5) 26 3 (.slice A n c) xs.length (xs.flatMap itemCells) ∧ (∀ x ∈ xs, Rest (w.heap.size + 5) w' x) ∧ Below w.heap.size w w'
set_option maxRecDepth 100000 in
set_option maxHeartbeats 2000000 in
theorem Cut_ends (l : List UInt8) (v : Value) (w : World) (hl : BytesAt w l v) (hlen : l.length ≤ 1000000) :
    Calls Try.prog 13 #[v] w (CutIs l w) := by
  refine (callsIn_wide (n := 3)).1 ?_
  obtain ⟨A, c, rfl, hc, hR⟩ := hl.reads
  have HL := Lib.hid hl
  clear hl hR
  refine callsIn_of_wp_marks Try.func13 rfl trivial ?_ rfl
  simp only [Try.ntmps13, List.size_toArray, List.length_cons, List.length_nil, Nat.reduceAdd, Nat.reduceSub, Array.replicate_succ, Array.replicate_zero, List.push_toArray, List.append_toArray, List.nil_append, List.cons_append]
  gi_wp2_with (refine ⟨trivial, ?_⟩; gi_at_call 19; refine (callsIn_wide.2 (frames_any A l.length c (w.heap.size + 1 + 1) _)).mono ?_; rintro e w1 ⟨rfl, rfl⟩)
  obtain ⟨W0, hW⟩ : ∃ W0, (((((w.alloc (.cells #[.slice none 0 0] 32)).alloc (.cells #[.int .i64 0] 3)).alloc (.cells #[.int .i64 0] 27)).alloc (.cells #[.slice A l.length c] 22)).alloc (.cells #[.pointer (some ⟨w.heap.size + 1 + 1, 0, none⟩)] 45)) = W0 := ⟨_, rfl⟩
  obtain ⟨hz, hI0, hb3, hb4, hl0, hown⟩ := cut_start l w A c HL.out W0 hW
  rw [hW]
  clear hW HL
  refine Ranged.wp_range (α := Item) (gf := 20) (lb := #[.pointer (some ⟨w.heap.size + 1 + 1 + 1, 0, none⟩), .pointer (some ⟨w.heap.size + 1 + 1 + 1 + 1, 0, none⟩)]) rfl (enters_of Try.func20 (by kernel_rfl) rfl)
    (frames_iter l _ w.heap.size (w.heap.size + 1 + 1 + 1) (w.heap.size + 1 + 1 + 1 + 1) (w.heap.size + 2) (CutK w.heap.size) W0 hl0 (by omega) hown (by omega) hb3 hb4 (cutK_has _) 2) (by decide) keeps_trans (fun W k o hk => keeps_put (by omega)) (fun _ => rfl)
    (CutI l w) (CutR l w) (cutI_own l w _ (by omega)) (cutR_own l w _ (by omega)) (CutA l w (cutFr A l.length c w.heap.size)) (fun pre x a => cutA_own l w _ pre x a _) hI0 (fun xs X Y h he => cut_ends h he) ?assign ?body ?done
  case assign =>
    rintro lp pre x W K hWz hi hok hK
    obtain ⟨f, v, m⟩ := x
    obtain ⟨⟨A1, c1, hv⟩, hk2, hk3, hC⟩ := hok
    dsimp only at hv
    subst hv
    simp only [encItem, aduV]
    gi_wp2
    exact hK _ _ ((KeepsOthers.alloc _ _).from _) (keeps_of_grown (World.grownBy_alloc _ _ none) (fun k e => by cases e) (by omega)) ((cutI_own l w W0.heap.size (by omega)).alloc _ hi) ⟨W.heap.size, by omega, heap_alloc_new _ _, rfl, ⟨⟨A1, c1, rfl⟩, hk2.alloc _, (hk3.mono (by omega)).alloc _⟩, hC⟩
  case body =>
    rintro lp pre x a' W hWz hi ⟨Bx, hBx, hbx, rfl, hok, hC⟩
    obtain ⟨i0, hi0, hz0, hz1, hz2⟩ := info_parts adu_info
    have hi1 := hi
    obtain ⟨⟨v, hv, hrow⟩, hm, he, hr, hb, hC0⟩ := hi
    obtain ⟨f, vx, m⟩ := x
    have HOK := Lib.hid hok
    obtain ⟨⟨A1, c1, hvx⟩, -, -⟩ := hok
    dsimp only at hvx
    subst hvx
    have k0 : W.cell? ⟨w.heap.size, 0, none⟩ = some v := hv.cell
    have k1 : W.cell? ⟨w.heap.size + 1, 0, none⟩ = some (.int .i64 ((pre.map (·.2.2)).sum : Nat)) := hm.cell
    have b0 : W.cell? ⟨Bx, 0, none⟩ = some (.int .u16 f.id) := cell_of_row _ _ _ _ _ _ hbx
    have b1 : W.cell? ⟨Bx, 1, none⟩ = some (.int .u8 (f.unit.toNat : Int)) := cell_of_row _ _ _ _ _ _ hbx
    have b2 : W.cell? ⟨Bx, 2, none⟩ = some (.slice A1 f.pdu.length c1) := cell_of_row _ _ _ _ _ _ hbx
    have hbz : Bx < W.heap.size := (Array.getElem?_eq_some_iff.1 hbx).1
    have hsum : (pre.map (·.2.2)).sum + m ≤ 1000000 := by
      obtain ⟨r, hr⟩ := hC
      have := hr.len.1
      simp [List.map_map, Function.comp_def] at this
      omega
    have hpl : pre.length ≤ 1000000 := by
      obtain ⟨r, hr⟩ := hC0
      have := came_len hr
      simp [List.map_map, Function.comp_def] at this
      omega
    have HZ := Lib.hid hz
    have HV := Lib.hid hv
    have HROW := Lib.hid hrow
    have HC := Lib.hid hC
    have hWz' : w.heap.size + 5 ≤ W.heap.size := by omega
    clear hv hrow hm he hr hb hC0 hC hbx hz hI0 hb3 hb4 hl0 hown
    unfold cutFr
    simp only [aduV]
    have h32 : (pre.length + 1) * 32 ≤ 140737488355328 := by omega
    have h63 : pre.length + 1 ≤ maxLen := by simp only [maxLen]; omega
    have HKI := Lib.hid hi1
    clear hi1
    gi_wp2_with (gi_at_builtin; refine wpListIn_append_own _ rfl _ _ 32 rfl (w.heap.size + 5) 26 i0 _ 3 32 Try.underlying32 hi0 hz0 hz1 hz2 rfl (by decide) v pre.length _ rfl (HROW.out.alloc _) ⟨W.heap.size, 0, none⟩ 1 1 (itemCells (f, .slice A1 f.pdu.length c1, m)) rfl rfl (World.news_of_block (heap_alloc_new W _)) (item_one _ _ _ _) h63 h32 (by simp; omega) ?_; intro v' w1 hown' hgrow _; obtain ⟨g', cap', rfl⟩ := ownsRow_succ hown'; have hfin := cut_round (B := W0.heap.size) hWz' HKI.out HV.out HROW.out HOK.out HC.out hown' hgrow; have hv1 := (HV.out.alloc (.cells (itemCells (f, .slice A1 f.pdu.length c1, m)).toArray 26)).kept hgrow (HV.out.not_row (by decide) HROW.out); have hm1 := cut_many HKI.out HROW.out hgrow; have k0' := hv1.cell; have f0' := hv1.frozen; have k1' := hm1.cell; have f1' := hm1.frozen; have HFIN := Lib.hid hfin; clear hfin hown' hgrow hv1 hm1 k0 k1)
    exact HFIN.out
  case done =>
    rintro D xs W hD hcr hK
    have HCR := Lib.hid hcr
    obtain ⟨r, k, hC, hf, ⟨v, hv, hrow⟩, hm, he, -, -⟩ := hcr
    obtain ⟨Av, cv, rfl⟩ := own_form hrow
    have k0 : W.cell? ⟨w.heap.size, 0, none⟩ = some (.slice Av xs.length cv) := hv.cell
    have k1 : W.cell? ⟨w.heap.size + 1, 0, none⟩ = some (.int .i64 ((xs.map (·.2.2)).sum : Nat)) := hm.cell
    have k2 : W.cell? ⟨w.heap.size + 1 + 1, 0, none⟩ = some (.int .i64 (k : Int)) := he.cell
    have HZ := Lib.hid hz
    have HK := Lib.hid hK
    have HC := Lib.hid hC
    have HF := Lib.hid hf
    have HROW := Lib.hid hrow
    clear hz hK hC hf hrow hv hm he hI0 hb3 hb4 hl0 hown
    gi_wp2
    refine wpIn_wide.2 ?_
    go_quiet (fail)
    gi_wp2
    have hO := cutR_own l w W0.heap.size (by have := HZ.out; omega)
    have h1 := hO xs W (W.drewN nq) none HCR.out ⟨rfl, rfl, rfl, Nat.le_refl _, fun _ _ _ => rfl⟩ (fun r e => by cases e)
    obtain ⟨_, _, _, _, _, _, _, hR, hB⟩ := hO.putObj (.deferred none) h1 hD HK.out rfl
    have hrow2 : ((W.drewN nq).putObj D (.deferred none)).ownsRow (w.heap.size + 5) 26 3 (.slice Av xs.length cv) xs.length (xs.flatMap itemCells) := ownsRow_putObj (W := W.drewN nq) HROW.out _ HK.out rfl
    refine ⟨by simp, .inl ⟨_, _, rfl, run_takeDeferred HK.out, ?_⟩⟩
    exact ⟨_, results_tmp3 rfl _ _ _, xs, r, k, Av, xs.length, cv, HC.out, HF.out, rfl, hrow2, hR, hB⟩
end Go.Proofs.Ythcgomfejibkhaa
