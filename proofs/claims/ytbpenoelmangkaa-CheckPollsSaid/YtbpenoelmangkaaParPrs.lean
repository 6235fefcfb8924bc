/-
  The document's parser: its state in memory; fresh, walked where nothing is wrong.
-/
import Derived.Test.YtbpenoelmangkaaParText
namespace Go.Proofs.Ytbpenoelmangkaa
open Go.RowKit
def prsCells (m : Mat) (bw bk : Bool) (vd vp vc ve : Value) : Array Value := #[.int .i64 m.retries, .int .i64 m.wait, .int .i64 m.back, .int .i64 m.cycle, .string m.key, vd, vp, vc, ve, .bool bw, .bool bk, .int .i64 0]
/-- the parser's block g, with rows of its own from B on -/
structure PrsAt (B g : Nat) (m : Mat) (bw bk : Bool) (vd vp vc ve : Value) (w : World) : Prop where
  blk : Words.Blk w g 76 (prsCells m bw bk vd vp vc ve)
  low : B ≤ g
  ds : w.ownsRow B 54 3 vd m.devs.length (m.devs.flatMap Dev.cells)
  ps : w.ownsRow B 35 6 vp m.pts.length (m.pts.flatMap Pt.cells)
  cs : w.ownsRow B 42 5 vc m.css.length (m.css.flatMap Cs.cells)
  es : w.ownsRow B 39 5 ve m.efs.length (m.efs.flatMap Ef.cells)
  ci : ∀ c ∈ m.css, ∃ B', w.ownsRow B' 3 1 c.v c.pts.length (c.pts.flatMap nC)
  ei : ∀ c ∈ m.efs, ∃ B', w.ownsRow B' 3 1 c.v c.cs.length (c.cs.flatMap nC)
theorem grown_set (W : World) (h j : Nat) (u : Value) : W.grownBy (W.setCell ⟨h, j, none⟩ u) (some h) :=
  ⟨rfl, rfl, rfl, by simp [World.setCell], fun i _ hi => by simp [World.setCell, Array.getElem?_modify]; intro e; exact absurd (by rw [e]) hi⟩
theorem Dev.cells_len (x : Dev) : x.cells.length = 3 := rfl
theorem Pt.cells_len (x : Pt) : x.cells.length = 6 := rfl
theorem Cs.cells_len (x : Cs) : x.cells.length = 5 := rfl
theorem Ef.cells_len (x : Ef) : x.cells.length = 5 := rfl
section
variable {B g : Nat} {m : Mat} {bw bk : Bool} {vd vp vc ve : Value} {w w' : World}
/-- what leaves the rows and the block as they were -/
theorem PrsAt.keep (h : PrsAt B g m bw bk vd vp vc ve w) {row : Option Nat} (hg : w.grownBy w' row) (hd : vd.ownBlock = none ∨ vd.ownBlock ≠ row) (hp : vp.ownBlock = none ∨ vp.ownBlock ≠ row) (hc : vc.ownBlock = none ∨ vc.ownBlock ≠ row) (he : ve.ownBlock = none ∨ ve.ownBlock ≠ row) (hi : ∀ v, (∃ B' n xs, w.ownsRow B' 3 1 v n xs) → v.ownBlock = none ∨ v.ownBlock ≠ row) (hb : some g ≠ row) : PrsAt B g m bw bk vd vp vc ve w' :=
  ⟨h.blk.grown hg hb, h.low, h.ds.kept hg hd, h.ps.kept hg hp, h.cs.kept hg hc, h.es.kept hg he, fun c hc' => by obtain ⟨B', hB⟩ := h.ci c hc'; exact ⟨B', hB.kept hg (hi _ ⟨_, _, _, hB⟩)⟩, fun c hc' => by obtain ⟨B', hB⟩ := h.ei c hc'; exact ⟨B', hB.kept hg (hi _ ⟨_, _, _, hB⟩)⟩⟩
theorem PrsAt.below (h : PrsAt B g m bw bk vd vp vc ve w) (hb : Below w.heap.size w w') : PrsAt B g m bw bk vd vp vc ve w' :=
  ⟨h.blk.below hb h.blk.lt, h.low, own_below h.ds hb, own_below h.ps hb, own_below h.cs hb, own_below h.es hb, fun c hc => by obtain ⟨B', hB⟩ := h.ci c hc; exact ⟨B', own_below hB hb⟩, fun c hc => by obtain ⟨B', hB⟩ := h.ei c hc; exact ⟨B', own_below hB hb⟩⟩
theorem PrsAt.mat (h : PrsAt B g m bw bk vd vp vc ve w) : MatAt w m vd vp vc ve :=
  ⟨LawFrame.RowsAt.of_own Dev.cells_len (by decide) h.ds, LawFrame.RowsAt.of_own Pt.cells_len (by decide) h.ps, ⟨LawFrame.RowsAt.of_own Cs.cells_len (by decide) h.cs, fun c hc => by obtain ⟨B', hB⟩ := h.ci c hc; exact LawFrame.RowsAt.of_own nC_len (by decide) hB⟩, ⟨LawFrame.RowsAt.of_own Ef.cells_len (by decide) h.es, fun c hc => by obtain ⟨B', hB⟩ := h.ei c hc; exact LawFrame.RowsAt.of_own nC_len (by decide) hB⟩⟩
/-- a store into the block -/
theorem PrsAt.store (h : PrsAt B g m bw bk vd vp vc ve w) {m' : Mat} {bw' bk' : Bool} (i : Nat) (u : Value) (hd : m'.devs = m.devs) (hp : m'.pts = m.pts) (hc : m'.css = m.css) (he : m'.efs = m.efs) (hs : (prsCells m bw bk vd vp vc ve).setIfInBounds i u = prsCells m' bw' bk' vd vp vc ve) : PrsAt B g m' bw' bk' vd vp vc ve (w.setCell ⟨g, i, none⟩ u) := by
  have hg := grown_set w g i u
  have k : ∀ {base : Nat} {e : TypeId} {size n : Nat} {v : Value} {xs : List Value}, w.ownsRow base e size v n xs → e ≠ 76 → (w.setCell ⟨g, i, none⟩ u).ownsRow base e size v n xs := fun ho hne => ho.kept hg (.inr (Words.own_blk_ne ho h.blk hne))
  refine ⟨by rw [← hs]; exact h.blk.set_ i u, h.low, ?_, ?_, ?_, ?_, ?_, ?_⟩
  · rw [hd]; exact k h.ds (by decide)
  · rw [hp]; exact k h.ps (by decide)
  · rw [hc]; exact k h.cs (by decide)
  · rw [he]; exact k h.es (by decide)
  · rw [hc]; intro c hc'; obtain ⟨B', hB⟩ := h.ci c hc'; exact ⟨B', k hB (by decide)⟩
  · rw [he]; intro c hc'; obtain ⟨B', hB⟩ := h.ei c hc'; exact ⟨B', k hB (by decide)⟩
/-- one more behind a row: the append, then the store of the field -/
theorem PrsAt.app_ds (h : PrsAt B g m bw bk vd vp vc ve w) {x : Dev} {v' : Value} {ob : Obj} {w2 : World} (ho : w2.ownsRow B 54 3 v' (m.devs.length + 1) (m.devs.flatMap Dev.cells ++ x.cells)) (hg : (w.alloc ob).grownBy w2 vd.ownBlock) :
    Words.Blk w2 g 76 (prsCells m bw bk vd vp vc ve) ∧ PrsAt B g { m with devs := m.devs ++ [x] } bw bk v' vp vc ve (w2.setCell ⟨g, 5, none⟩ v') := by
  have hb : Words.Blk w2 g 76 (prsCells m bw bk vd vp vc ve) := (h.blk.alloc ob).grown hg (fun e => Words.own_blk_ne h.ds h.blk (by decide) e.symm)
  have hs := grown_set w2 g 5 v'
  have k : ∀ {base : Nat} {e : TypeId} {size n : Nat} {v : Value} {xs : List Value}, w.ownsRow base e size v n xs → e ≠ 76 → e ≠ 54 → (w2.setCell ⟨g, 5, none⟩ v').ownsRow base e size v n xs := fun ho hne hne2 => by
    have h1 := (ho.alloc ob).kept hg (own_ne ho h.ds hne2)
    exact h1.kept hs (.inr (Words.own_blk_ne h1 hb hne))
  have hown : (w2.setCell ⟨g, 5, none⟩ v').ownsRow B 54 3 v' (m.devs ++ [x]).length ((m.devs ++ [x]).flatMap Dev.cells) := by
    have h1 := ho.kept hs (.inr (Words.own_blk_ne ho hb (by decide)))
    simpa using h1
  refine ⟨hb, ⟨hb.set_ 5 v', h.low, hown, k h.ps (by decide) (by decide), k h.cs (by decide) (by decide), k h.es (by decide) (by decide), ?_, ?_⟩⟩
  · intro c hc; obtain ⟨B', hB⟩ := h.ci c hc; exact ⟨B', k hB (by decide) (by decide)⟩
  · intro c hc; obtain ⟨B', hB⟩ := h.ei c hc; exact ⟨B', k hB (by decide) (by decide)⟩
/-- one more behind a row: the append, then the store of the field -/
theorem PrsAt.app_ps (h : PrsAt B g m bw bk vd vp vc ve w) {x : Pt} {v' : Value} {ob : Obj} {w2 : World} (ho : w2.ownsRow B 35 6 v' (m.pts.length + 1) (m.pts.flatMap Pt.cells ++ x.cells)) (hg : (w.alloc ob).grownBy w2 vp.ownBlock) :
    Words.Blk w2 g 76 (prsCells m bw bk vd vp vc ve) ∧ PrsAt B g { m with pts := m.pts ++ [x] } bw bk vd v' vc ve (w2.setCell ⟨g, 6, none⟩ v') := by
  have hb : Words.Blk w2 g 76 (prsCells m bw bk vd vp vc ve) := (h.blk.alloc ob).grown hg (fun e => Words.own_blk_ne h.ps h.blk (by decide) e.symm)
  have hs := grown_set w2 g 6 v'
  have k : ∀ {base : Nat} {e : TypeId} {size n : Nat} {v : Value} {xs : List Value}, w.ownsRow base e size v n xs → e ≠ 76 → e ≠ 35 → (w2.setCell ⟨g, 6, none⟩ v').ownsRow base e size v n xs := fun ho hne hne2 => by
    have h1 := (ho.alloc ob).kept hg (own_ne ho h.ps hne2)
    exact h1.kept hs (.inr (Words.own_blk_ne h1 hb hne))
  have hown : (w2.setCell ⟨g, 6, none⟩ v').ownsRow B 35 6 v' (m.pts ++ [x]).length ((m.pts ++ [x]).flatMap Pt.cells) := by
    have h1 := ho.kept hs (.inr (Words.own_blk_ne ho hb (by decide)))
    simpa using h1
  refine ⟨hb, ⟨hb.set_ 6 v', h.low, k h.ds (by decide) (by decide), hown, k h.cs (by decide) (by decide), k h.es (by decide) (by decide), ?_, ?_⟩⟩
  · intro c hc; obtain ⟨B', hB⟩ := h.ci c hc; exact ⟨B', k hB (by decide) (by decide)⟩
  · intro c hc; obtain ⟨B', hB⟩ := h.ei c hc; exact ⟨B', k hB (by decide) (by decide)⟩
/-- one more behind a row: the append, then the store of the field -/
theorem PrsAt.app_cs (h : PrsAt B g m bw bk vd vp vc ve w) {x : Cs} (hx : ∃ B', w.ownsRow B' 3 1 x.v x.pts.length (x.pts.flatMap nC)) {v' : Value} {ob : Obj} {w2 : World} (ho : w2.ownsRow B 42 5 v' (m.css.length + 1) (m.css.flatMap Cs.cells ++ x.cells)) (hg : (w.alloc ob).grownBy w2 vc.ownBlock) :
    Words.Blk w2 g 76 (prsCells m bw bk vd vp vc ve) ∧ PrsAt B g { m with css := m.css ++ [x] } bw bk vd vp v' ve (w2.setCell ⟨g, 7, none⟩ v') := by
  have hb : Words.Blk w2 g 76 (prsCells m bw bk vd vp vc ve) := (h.blk.alloc ob).grown hg (fun e => Words.own_blk_ne h.cs h.blk (by decide) e.symm)
  have hs := grown_set w2 g 7 v'
  have k : ∀ {base : Nat} {e : TypeId} {size n : Nat} {v : Value} {xs : List Value}, w.ownsRow base e size v n xs → e ≠ 76 → e ≠ 42 → (w2.setCell ⟨g, 7, none⟩ v').ownsRow base e size v n xs := fun ho hne hne2 => by
    have h1 := (ho.alloc ob).kept hg (own_ne ho h.cs hne2)
    exact h1.kept hs (.inr (Words.own_blk_ne h1 hb hne))
  have hown : (w2.setCell ⟨g, 7, none⟩ v').ownsRow B 42 5 v' (m.css ++ [x]).length ((m.css ++ [x]).flatMap Cs.cells) := by
    have h1 := ho.kept hs (.inr (Words.own_blk_ne ho hb (by decide)))
    simpa using h1
  refine ⟨hb, ⟨hb.set_ 7 v', h.low, k h.ds (by decide) (by decide), k h.ps (by decide) (by decide), hown, k h.es (by decide) (by decide), ?_, ?_⟩⟩
  · intro c hc
    rcases List.mem_append.1 hc with hc | hc
    · obtain ⟨B', hB⟩ := h.ci c hc; exact ⟨B', k hB (by decide) (by decide)⟩
    · obtain rfl := List.mem_singleton.1 hc
      obtain ⟨B', hB⟩ := hx; exact ⟨B', k hB (by decide) (by decide)⟩
  · intro c hc; obtain ⟨B', hB⟩ := h.ei c hc; exact ⟨B', k hB (by decide) (by decide)⟩
/-- one more behind a row: the append, then the store of the field -/
theorem PrsAt.app_es (h : PrsAt B g m bw bk vd vp vc ve w) {x : Ef} (hx : ∃ B', w.ownsRow B' 3 1 x.v x.cs.length (x.cs.flatMap nC)) {v' : Value} {ob : Obj} {w2 : World} (ho : w2.ownsRow B 39 5 v' (m.efs.length + 1) (m.efs.flatMap Ef.cells ++ x.cells)) (hg : (w.alloc ob).grownBy w2 ve.ownBlock) :
    Words.Blk w2 g 76 (prsCells m bw bk vd vp vc ve) ∧ PrsAt B g { m with efs := m.efs ++ [x] } bw bk vd vp vc v' (w2.setCell ⟨g, 8, none⟩ v') := by
  have hb : Words.Blk w2 g 76 (prsCells m bw bk vd vp vc ve) := (h.blk.alloc ob).grown hg (fun e => Words.own_blk_ne h.es h.blk (by decide) e.symm)
  have hs := grown_set w2 g 8 v'
  have k : ∀ {base : Nat} {e : TypeId} {size n : Nat} {v : Value} {xs : List Value}, w.ownsRow base e size v n xs → e ≠ 76 → e ≠ 39 → (w2.setCell ⟨g, 8, none⟩ v').ownsRow base e size v n xs := fun ho hne hne2 => by
    have h1 := (ho.alloc ob).kept hg (own_ne ho h.es hne2)
    exact h1.kept hs (.inr (Words.own_blk_ne h1 hb hne))
  have hown : (w2.setCell ⟨g, 8, none⟩ v').ownsRow B 39 5 v' (m.efs ++ [x]).length ((m.efs ++ [x]).flatMap Ef.cells) := by
    have h1 := ho.kept hs (.inr (Words.own_blk_ne ho hb (by decide)))
    simpa using h1
  refine ⟨hb, ⟨hb.set_ 8 v', h.low, k h.ds (by decide) (by decide), k h.ps (by decide) (by decide), k h.cs (by decide) (by decide), hown, ?_, ?_⟩⟩
  · intro c hc; obtain ⟨B', hB⟩ := h.ci c hc; exact ⟨B', k hB (by decide) (by decide)⟩
  · intro c hc
    rcases List.mem_append.1 hc with hc | hc
    · obtain ⟨B', hB⟩ := h.ei c hc; exact ⟨B', k hB (by decide) (by decide)⟩
    · obtain rfl := List.mem_singleton.1 hc
      obtain ⟨B', hB⟩ := hx; exact ⟨B', k hB (by decide) (by decide)⟩
end
/-- the parser's state, with what lay below as it was -/
def PS (W : World) (g : Nat) (m : Mat) (bw bk : Bool) (vd vp vc ve : Value) (w : World) : Prop := PrsAt W.heap.size g m bw bk vd vp vc ve w ∧ Below W.heap.size W w
theorem PS.below {W : World} {g : Nat} {m : Mat} {bw bk : Bool} {vd vp vc ve : Value} {w w' : World} (h : PS W g m bw bk vd vp vc ve w) (hb : Below w.heap.size w w') : PS W g m bw bk vd vp vc ve w' := ⟨h.1.below hb, h.2.trans (hb.mono h.2.size)⟩
theorem PS.cell {W : World} {g : Nat} {m : Mat} {bw bk : Bool} {vd vp vc ve : Value} {w : World} (h : PS W g m bw bk vd vp vc ve w) (i : Nat) : w.cell? ⟨g, i, none⟩ = (prsCells m bw bk vd vp vc ve)[i]? := h.1.blk.cell i
theorem PS.free {W : World} {g : Nat} {m : Mat} {bw bk : Bool} {vd vp vc ve : Value} {w : World} (h : PS W g m bw bk vd vp vc ve w) (i : Nat) : w.frozen? ⟨g, i, none⟩ = false := h.1.blk.frozen i
set_option maxHeartbeats 4000000 in
set_option maxRecDepth 100000 in
theorem fresh_any (W : World) (g : Nat) (m : Mat) (bw bq : Bool) (vd vp vc ve : Value) (w : World) (h : PS W g m bw bq vd vp vc ve w) (hm : m.devs.length + m.pts.length + m.css.length + m.efs.length ≤ 1000) (s : ByteArray) (hs : ¬ s ∈ m.names) :
    Calls Try.prog 71 #[.pointer (some ⟨g, 0, none⟩), .string s] w fun e w' => e = .returned (.tuple #[]) ∧ Below w.heap.size w w' := by
  obtain ⟨r, wt, bk, cy, key, ds, ps, cs, es⟩ := m
  obtain ⟨Ad, cd, e⟩ := own_form h.1.ds
  simp only at e
  subst e
  obtain ⟨Ap, cp, e⟩ := own_form h.1.ps
  simp only at e
  subst e
  obtain ⟨Ac, cc, e⟩ := own_form h.1.cs
  simp only at e
  subst e
  obtain ⟨Ae, ce, e⟩ := own_form h.1.es
  simp only at e
  subst e
  have HP := Lib.hid h
  have HN := Lib.hid hs
  have hnl : (Mat.names ⟨r, wt, bk, cy, key, ds, ps, cs, es⟩).length ≤ 1000 := by simp only [Mat.names, List.length_append, List.length_map]; simp only at hm; omega
  clear h hs
  have z0 : w.cell? ⟨g, 0, none⟩ = some (.int .i64 r) := HP.out.cell 0
  have z1 : w.cell? ⟨g, 1, none⟩ = some (.int .i64 wt) := HP.out.cell 1
  have z2 : w.cell? ⟨g, 2, none⟩ = some (.int .i64 bk) := HP.out.cell 2
  have z3 : w.cell? ⟨g, 3, none⟩ = some (.int .i64 cy) := HP.out.cell 3
  have z4 : w.cell? ⟨g, 4, none⟩ = some (.string key) := HP.out.cell 4
  have z5 : w.cell? ⟨g, 5, none⟩ = some (.slice Ad ds.length cd) := HP.out.cell 5
  have z6 : w.cell? ⟨g, 6, none⟩ = some (.slice Ap ps.length cp) := HP.out.cell 6
  have z7 : w.cell? ⟨g, 7, none⟩ = some (.slice Ac cs.length cc) := HP.out.cell 7
  have z8 : w.cell? ⟨g, 8, none⟩ = some (.slice Ae es.length ce) := HP.out.cell 8
  go_enter Try.func71, Try.ntmps71
  go_wp2_with fail
  refine (rNames_any _ ⟨r, wt, bk, cy, key, ds, ps, cs, es⟩ _ _ _ _ HP.out.1.mat hm).mono ?_
  rintro e w1 ⟨v, rfl, hv, hb⟩
  obtain ⟨A, c, e, hc, -⟩ := id hv
  subst e
  have HV := Lib.hid hv
  have HB := Lib.hid hb
  clear hv hb z0 z1 z2 z3 z4 z5 z6 z7 z8
  go_wp2_with fail
  refine (find_any _ _ _ HV.out (by omega) s).mono ?_
  intro e w2 hf
  obtain ⟨rfl, rfl⟩ := hf.no HN.out
  clear hf
  go_wp2_with fail
  go_end0
  exact ⟨rfl, HB.out⟩
end Go.Proofs.Ytbpenoelmangkaa
