/-
  Two texts, one below the other: what they have, in plain Lean; and lines that are gathered on, as they lie in memory.
-/
import Derived.Test.YtpoihpehdlogbaaDoorLawNumbers
namespace Go.Proofs.YtpoihpehdlogbaaDoor
open Go.RowKit
theorem textE_short {l : List UInt8} (h : l.length ≤ 4096) : textE l = firstBad (itemsOf l) := by unfold textE; rw [if_neg (by omega)]
theorem join_first {s t : List UInt8} {k no : Int} (hl : s.length + t.length ≤ 4000) (h : textE s = some (k, no)) : textE (s ++ 10 :: t) = some (k, no) := by
  rw [textE_short (by omega)] at h
  rw [textE_short (by simp; omega), items_below, firstBad_append, h]; rfl
theorem join_next {s t : List UInt8} {k no : Int} (hl : s.length + t.length ≤ 4000) (h : textE s = none) (h' : textE t = some (k, no)) : textE (s ++ 10 :: t) = some (k, no + ((ends s + 1 : Nat) : Int)) := by
  rw [textE_short (by omega)] at h h'
  rw [textE_short (by simp; omega), items_below, firstBad_append, h, firstBad_shift, h']; rfl
theorem join_fine {s t : List UInt8} (hl : s.length + t.length ≤ 4000) (h : textE s = none) (h' : textE t = none) : textE (s ++ 10 :: t) = none ∧ textL (s ++ 10 :: t) = textL s ++ (textL t).map (onward (ends s + 1)) := by
  rw [textE_short (by omega)] at h h'
  constructor
  · rw [textE_short (by simp; omega), items_below, firstBad_append, h, firstBad_shift, h']; rfl
  · unfold textL
    rw [items_below, gather_append, gather_shift]
def shiftT (k : Nat) (x : Int × List ByteArray) : Int × List ByteArray := (x.1 + (k : Int), x.2)
theorem told_shift (k : Nat) (l : List (Nat × List (List UInt8))) : toldL (l.map (onward k)) = (toldL l).map (shiftT k) := by
  unfold toldL
  rw [List.map_map, List.map_map]
  apply List.map_congr_left
  intro x _
  unfold toldOf onward shiftT
  simp
theorem told_append (a b : List (Nat × List (List UInt8))) : toldL (a ++ b) = toldL a ++ toldL b := by unfold toldL; rw [List.map_append]
/-- the rows lie apart -/
def Apart (v u : Value) : Prop := v.ownBlock = none ∨ v.ownBlock ≠ u.ownBlock
theorem LnsAt.row {W : World} {B n : Nat} {l : List (Int × List ByteArray)} {v : Value} (h : LnsAt W B l n v) : ∃ xs, W.ownsRow B 27 2 v n xs := by
  obtain ⟨xs, h1, h2, h3, h4⟩ := h
  exact ⟨_, h3⟩
theorem apart_early {W W' : World} {B B' n n' : Nat} {l l' : List (Int × List ByteArray)} {v u : Value} (h : LnsAt W B l n v) (h' : LnsAt W' B' l' n' u) (hB : W.heap.size ≤ B') : Apart v u := by
  obtain ⟨xs, h⟩ := h.row
  obtain ⟨ys, h'⟩ := h'.row
  unfold Apart
  cases hv : v.ownBlock with
  | none => exact .inl rfl
  | some g =>
    refine .inr (fun e => ?_)
    have h1 := (h.lt g hv).2
    have h2 := (h'.lt g e.symm).1
    omega
theorem lns_keep {W w2 : World} {B n m Bv : Nat} {l : List (Int × List ByteArray)} {u v : Value} {xs : List Value} {ob : Obj} (h : LnsAt W B l n u) (ha : Apart v u) (hv : W.ownsRow Bv 27 2 v m xs) (hg : (W.alloc ob).grownBy w2 v.ownBlock) : LnsAt w2 B l n u := by
  have hb : Below W.heap.size W (W.alloc ob) := (Below.refl _ _).alloc (Nat.le_refl _) _
  obtain ⟨ys, h1, h2, h3, h4⟩ := h
  have hv' := own_below hv hb
  refine ⟨ys, h1, h2, (own_below h3 hb).kept hg ?_, fun x hx => ?_⟩
  · rcases ha with e | e
    · cases hu : u.ownBlock with
      | none => exact .inl rfl
      | some g => exact .inr (by rw [e]; exact fun c => by cases c)
    · exact .inr (fun c => e c.symm)
  · obtain ⟨B', hB⟩ := h4 x hx
    have hB' := own_below hB hb
    exact ⟨B', hB'.kept hg (own_ne hB' hv' (by decide))⟩
theorem lns_push {W w2 : World} {B n : Nat} {l : List (Int × List ByteArray)} {v v' : Value} {ob : Obj} (xs : List Ln) (hn : n = xs.length) (hl : xs.map Ln.told = l) (hv : W.ownsRow B 27 2 v n (xs.flatMap Ln.cells)) (hws : ∀ x ∈ xs, ∃ B', W.ownsRow B' 9 1 x.v x.ws.length (x.ws.flatMap sC))
    (x : Ln) (hx : ∃ B', W.ownsRow B' 9 1 x.v x.ws.length (x.ws.flatMap sC)) (ho : w2.ownsRow B 27 2 v' (n + 1) (xs.flatMap Ln.cells ++ x.cells)) (hg : (W.alloc ob).grownBy w2 v.ownBlock) : LnsAt w2 B (l ++ [x.told]) (n + 1) v' := by
  have hb : Below W.heap.size W (W.alloc ob) := (Below.refl _ _).alloc (Nat.le_refl _) _
  have hv' := own_below hv hb
  have hk : ∀ y : Ln, (∃ B', W.ownsRow B' 9 1 y.v y.ws.length (y.ws.flatMap sC)) → ∃ B', w2.ownsRow B' 9 1 y.v y.ws.length (y.ws.flatMap sC) := fun y ⟨B', hB⟩ => by
    have hB' := own_below hB hb
    exact ⟨B', hB'.kept hg (own_ne hB' hv' (by decide))⟩
  refine ⟨xs ++ [x], by simp [hn], by simp [hl], by simpa using ho, fun y hy => ?_⟩
  rcases List.mem_append.1 hy with hy | hy
  · exact hk y (hws y hy)
  · simp only [List.mem_singleton] at hy
    subst hy
    exact hk y hx
theorem apart_push {W : World} {B n : Nat} {l : List (Int × List ByteArray)} {v v' u : Value} {ob : Obj} (ha : Apart v u) (hu : LnsAt W B l n u) (hv' : v'.ownBlock = v.ownBlock ∨ v'.ownBlock = some (W.alloc ob).heap.size) : Apart v' u := by
  obtain ⟨xs, hu⟩ := hu.row
  unfold Apart at ha ⊢
  rcases hv' with e | e
  · rw [e]; exact ha
  · refine .inr (fun c => ?_)
    have := (hu.lt (W.alloc ob).heap.size (c.symm.trans e)).2
    rw [World.size_alloc] at this
    omega
/-- what stands between two rounds of gathering on -/
structure Joined (w : World) (B Bb Bc nb nc n : Nat) (la lb lc : List (Int × List ByteArray)) (v vb vc : Value) (W : World) : Prop where
  mine : LnsAt W B la n v
  next : LnsAt W Bb lb nb vb
  all_ : LnsAt W Bc lc nc vc
  apb : Apart v vb
  apc : Apart v vc
  old : Below w.heap.size w W
  base : w.heap.size ≤ B
theorem Joined.push {w W w2 : World} {B Bb Bc nb nc n : Nat} {la lb lc : List (Int × List ByteArray)} {v vb vc v' : Value} {ob : Obj} (h : Joined w B Bb Bc nb nc n la lb lc v vb vc W) (xs : List Ln) (hn : n = xs.length) (hl : xs.map Ln.told = la) (hv : W.ownsRow B 27 2 v n (xs.flatMap Ln.cells)) (hws : ∀ x ∈ xs, ∃ B', W.ownsRow B' 9 1 x.v x.ws.length (x.ws.flatMap sC))
    (x : Ln) (hx : ∃ B', W.ownsRow B' 9 1 x.v x.ws.length (x.ws.flatMap sC)) (ho : w2.ownsRow B 27 2 v' (n + 1) (xs.flatMap Ln.cells ++ x.cells)) (hg : (W.alloc ob).grownBy w2 v.ownBlock) (hv' : v'.ownBlock = v.ownBlock ∨ v'.ownBlock = some (W.alloc ob).heap.size) :
    Joined w B Bb Bc nb nc (n + 1) (la ++ [x.told]) lb lc v' vb vc w2 :=
  ⟨lns_push xs hn hl hv hws x hx ho hg, lns_keep h.next h.apb hv hg, lns_keep h.all_ h.apc hv hg, apart_push h.apb h.next hv', apart_push h.apc h.all_ hv',
    (h.old.alloc h.old.size ob).grown hg (by have := h.old.size; simp; omega) (fun k hk => by have := (hv.lt k hk).1; have := h.base; omega), h.base⟩
theorem Joined.drewN {w W : World} {B Bb Bc nb nc n : Nat} {la lb lc : List (Int × List ByteArray)} {v vb vc : Value} (h : Joined w B Bb Bc nb nc n la lb lc v vb vc W) (m : Nat) : Joined w B Bb Bc nb nc n la lb lc v vb vc (W.drewN m) :=
  ⟨h.mine, h.next, h.all_, h.apb, h.apc, below_drewn h.old m, h.base⟩
theorem Joined.drew {w W : World} {B Bb Bc nb nc n : Nat} {la lb lc : List (Int × List ByteArray)} {v vb vc : Value} (h : Joined w B Bb Bc nb nc n la lb lc v vb vc W) : Joined w B Bb Bc nb nc n la lb lc v vb vc W.drew :=
  ⟨h.mine, h.next, h.all_, h.apb, h.apc, below_drewn h.old 1, h.base⟩
theorem reads_line (w : World) (g : Nat) (hg : w.heap.size = g) (x : Ln) (t : TypeId) : Words.Reads (w.alloc (.cells #[.int .i64 x.no, x.v] t)) (g + 1) 2 (some ⟨g, 0, none⟩) 1 x.cells := by
  subst hg
  exact LawFrame.reads_block (xs := x.cells) (t := t) (heap_alloc_new w _) (by omega) rfl
end Go.Proofs.YtpoihpehdlogbaaDoor
