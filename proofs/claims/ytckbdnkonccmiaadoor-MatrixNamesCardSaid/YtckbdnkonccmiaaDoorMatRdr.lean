/-
  The reader of lines: its state in memory.
-/
import Derived.Test.YtckbdnkonccmiaaDoorMatMap
import Derived.Test.YtckbdnkonccmiaaDoorMatLib
namespace Go.Proofs.YtckbdnkonccmiaaDoor
open Go.RowKit
theorem Dev.cells_len (x : Dev) : x.cells.length = 3 := rfl
theorem Pt.cells_len (x : Pt) : x.cells.length = 6 := rfl
theorem Cs.cells_len (x : Cs) : x.cells.length = 5 := rfl
theorem Ef.cells_len (x : Ef) : x.cells.length = 5 := rfl
/-- where something that has a name stands: of which kind, the how manieth -/
abbrev Kn := ByteArray → Option (Int × Int)
def placeV (p : Int × Int) : Value := .agg #[.int .i64 p.1, .int .i64 p.2]
def placeZ : Value := .agg #[.int .i64 0, .int .i64 0]
def knV (kn : Kn) : ByteArray → Option Value := fun s => (kn s).map placeV
def rdrCells (m : Mat) (mb : Nat) (wt lk : Bool) (vl : Value) (wr un : Bool) (vd vp vc ve : Value) : Array Value := #[.int .i64 m.retries, .int .i64 m.wait, .int .i64 m.back, .int .i64 m.cycle, .string m.key, vd, vp, vc, ve, .map (some mb), .bool wt, .bool lk, vl, .bool wr, .bool un]
theorem map_row_ne {z : Value} {w : World} {b N : Nat} {f : ByteArray → Option Value} (h : MapV z w b N f) {base size n : Nat} {e : TypeId} {v : Value} {xs : List Value} (ho : w.ownsRow base e size v n xs) : some b ≠ v.ownBlock := by
  obtain ⟨es, clock, hb⟩ := h.obj
  intro c
  rcases ho.2 with ⟨rfl, _⟩ | ⟨g, cap, cur, rfl, _, hg, _⟩
  · cases c
  · simp only [Value.ownBlock, Option.some.injEq] at c
    subst c
    rw [hb] at hg
    cases hg
theorem map_blk_ne {z : Value} {w : World} {b N : Nat} {f : ByteArray → Option Value} (h : MapV z w b N f) {g : Nat} {t : TypeId} {cs : Array Value} (hg : Words.Blk w g t cs) : b ≠ g := by
  obtain ⟨es, clock, hb⟩ := h.obj
  rintro rfl
  unfold Words.Blk at hg
  rw [hb] at hg
  cases hg
theorem row_map_ne {z : Value} {w : World} {b N : Nat} {f : ByteArray → Option Value} (h : MapV z w b N f) {base size n : Nat} {e : TypeId} {v : Value} {xs : List Value} (ho : w.ownsRow base e size v n xs) : v.ownBlock = none ∨ v.ownBlock ≠ some b := .inr (fun e => map_row_ne h ho e.symm)
/-- the reader's block g, with rows of its own from B on, and its map -/
structure RdrAt (B g mb N : Nat) (m : Mat) (kn : Kn) (wt lk : Bool) (vl : Value) (wr un : Bool) (vd vp vc ve : Value) (w : World) : Prop where
  blk : Words.Blk w g 66 (rdrCells m mb wt lk vl wr un vd vp vc ve)
  low : B ≤ g
  lowm : B ≤ mb
  ds : w.ownsRow B 47 3 vd m.devs.length (m.devs.flatMap Dev.cells)
  ps : w.ownsRow B 45 6 vp m.pts.length (m.pts.flatMap Pt.cells)
  cs : w.ownsRow B 43 5 vc m.css.length (m.css.flatMap Cs.cells)
  es : w.ownsRow B 54 5 ve m.efs.length (m.efs.flatMap Ef.cells)
  ci : ∀ c ∈ m.css, ∃ B', w.ownsRow B' 3 1 c.v c.pts.length (c.pts.flatMap nC)
  ei : ∀ c ∈ m.efs, ∃ B', w.ownsRow B' 3 1 c.v c.cs.length (c.cs.flatMap nC)
  mp : MapV placeZ w mb N (knV kn)
section
variable {B g mb N : Nat} {m : Mat} {kn : Kn} {wt lk wr un : Bool} {vl vd vp vc ve : Value} {w w' : World}
theorem RdrAt.below (h : RdrAt B g mb N m kn wt lk vl wr un vd vp vc ve w) (hb : Below w.heap.size w w') : RdrAt B g mb N m kn wt lk vl wr un vd vp vc ve w' :=
  ⟨h.blk.below hb h.blk.lt, h.low, h.lowm, own_below h.ds hb, own_below h.ps hb, own_below h.cs hb, own_below h.es hb, fun c hc => by obtain ⟨B', hB⟩ := h.ci c hc; exact ⟨B', own_below hB hb⟩, fun c hc => by obtain ⟨B', hB⟩ := h.ei c hc; exact ⟨B', own_below hB hb⟩, h.mp.below hb⟩
theorem RdrAt.mat (h : RdrAt B g mb N m kn wt lk vl wr un vd vp vc ve w) : MatAt w m vd vp vc ve :=
  ⟨LawFrame.RowsAt.of_own Dev.cells_len (by decide) h.ds, LawFrame.RowsAt.of_own Pt.cells_len (by decide) h.ps, ⟨LawFrame.RowsAt.of_own Cs.cells_len (by decide) h.cs, fun c hc => by obtain ⟨B', hB⟩ := h.ci c hc; exact LawFrame.RowsAt.of_own nC_len (by decide) hB⟩, ⟨LawFrame.RowsAt.of_own Ef.cells_len (by decide) h.es, fun c hc => by obtain ⟨B', hB⟩ := h.ei c hc; exact LawFrame.RowsAt.of_own nC_len (by decide) hB⟩⟩
/-- a store into the block -/
theorem RdrAt.store (h : RdrAt B g mb N m kn wt lk vl wr un vd vp vc ve w) {m' : Mat} {wt' lk' wr' un' : Bool} {vl' : Value} (i : Nat) (u : Value) (hd : m'.devs = m.devs) (hp : m'.pts = m.pts) (hc : m'.css = m.css) (he : m'.efs = m.efs) (hs : (rdrCells m mb wt lk vl wr un vd vp vc ve).setIfInBounds i u = rdrCells m' mb wt' lk' vl' wr' un' vd vp vc ve) : RdrAt B g mb N m' kn wt' lk' vl' wr' un' vd vp vc ve (w.setCell ⟨g, i, none⟩ u) := by
  have hg := grown_set w g i u
  have k : ∀ {base : Nat} {e : TypeId} {size n : Nat} {v : Value} {xs : List Value}, w.ownsRow base e size v n xs → e ≠ 66 → (w.setCell ⟨g, i, none⟩ u).ownsRow base e size v n xs := fun ho hne => ho.kept hg (.inr (Words.own_blk_ne ho h.blk hne))
  refine ⟨by rw [← hs]; exact h.blk.set_ i u, h.low, h.lowm, ?_, ?_, ?_, ?_, ?_, ?_, h.mp.grown hg (fun e => map_blk_ne h.mp h.blk (Option.some.inj e))⟩
  · rw [hd]; exact k h.ds (by decide)
  · rw [hp]; exact k h.ps (by decide)
  · rw [hc]; exact k h.cs (by decide)
  · rw [he]; exact k h.es (by decide)
  · rw [hc]; intro c hc'; obtain ⟨B', hB⟩ := h.ci c hc'; exact ⟨B', k hB (by decide)⟩
  · rw [he]; intro c hc'; obtain ⟨B', hB⟩ := h.ei c hc'; exact ⟨B', k hB (by decide)⟩
/-- an entry that is put -/
theorem RdrAt.put (h : RdrAt B g mb N m kn wt lk vl wr un vd vp vc ve w) {kn' : Kn} {N' : Nat} (hm : MapV placeZ w' mb N' (knV kn')) (hg : w.grownBy w' (some mb)) : RdrAt B g mb N' m kn' wt lk vl wr un vd vp vc ve w' :=
  ⟨h.blk.grown hg (fun e => map_blk_ne h.mp h.blk (Option.some.inj e).symm), h.low, h.lowm, h.ds.kept hg (row_map_ne h.mp h.ds), h.ps.kept hg (row_map_ne h.mp h.ps), h.cs.kept hg (row_map_ne h.mp h.cs), h.es.kept hg (row_map_ne h.mp h.es),
    fun c hc => by obtain ⟨B', hB⟩ := h.ci c hc; exact ⟨B', hB.kept hg (row_map_ne h.mp hB)⟩, fun c hc => by obtain ⟨B', hB⟩ := h.ei c hc; exact ⟨B', hB.kept hg (row_map_ne h.mp hB)⟩, hm⟩
/-- one more behind a row: the append, then the store of the field -/
theorem RdrAt.app_ds (h : RdrAt B g mb N m kn wt lk vl wr un vd vp vc ve w) {x : Dev} {v' : Value} {ob : Obj} {w2 : World} (ho : w2.ownsRow B 47 3 v' (m.devs.length + 1) (m.devs.flatMap Dev.cells ++ x.cells)) (hg : (w.alloc ob).grownBy w2 vd.ownBlock) :
    Words.Blk w2 g 66 (rdrCells m mb wt lk vl wr un vd vp vc ve) ∧ RdrAt B g mb N { m with devs := m.devs ++ [x] } kn wt lk vl wr un v' vp vc ve (w2.setCell ⟨g, 5, none⟩ v') := by
  have hb : Words.Blk w2 g 66 (rdrCells m mb wt lk vl wr un vd vp vc ve) := (h.blk.alloc ob).grown hg (fun e => Words.own_blk_ne h.ds h.blk (by decide) e.symm)
  have hs := grown_set w2 g 5 v'
  have hba : Below w.heap.size w (w.alloc ob) := (Below.refl _ _).alloc (Nat.le_refl _) ob
  have hm2 : MapV placeZ w2 mb N (knV kn) := (h.mp.below hba).grown hg (map_row_ne h.mp h.ds)
  have k : ∀ {base : Nat} {e : TypeId} {size n : Nat} {v : Value} {xs : List Value}, w.ownsRow base e size v n xs → e ≠ 66 → e ≠ 47 → (w2.setCell ⟨g, 5, none⟩ v').ownsRow base e size v n xs := fun ho hne hne2 => by
    have h1 := (ho.alloc ob).kept hg (own_ne ho h.ds hne2)
    exact h1.kept hs (.inr (Words.own_blk_ne h1 hb hne))
  have hown : (w2.setCell ⟨g, 5, none⟩ v').ownsRow B 47 3 v' (m.devs ++ [x]).length ((m.devs ++ [x]).flatMap Dev.cells) := by
    have h1 := ho.kept hs (.inr (Words.own_blk_ne ho hb (by decide)))
    simpa using h1
  refine ⟨hb, ⟨hb.set_ 5 v', h.low, h.lowm, hown, k h.ps (by decide) (by decide), k h.cs (by decide) (by decide), k h.es (by decide) (by decide), ?_, ?_, hm2.grown hs (fun e => map_blk_ne hm2 hb (Option.some.inj e))⟩⟩
  · intro c hc; obtain ⟨B', hB⟩ := h.ci c hc; exact ⟨B', k hB (by decide) (by decide)⟩
  · intro c hc; obtain ⟨B', hB⟩ := h.ei c hc; exact ⟨B', k hB (by decide) (by decide)⟩
/-- one more behind a row: the append, then the store of the field -/
theorem RdrAt.app_ps (h : RdrAt B g mb N m kn wt lk vl wr un vd vp vc ve w) {x : Pt} {v' : Value} {ob : Obj} {w2 : World} (ho : w2.ownsRow B 45 6 v' (m.pts.length + 1) (m.pts.flatMap Pt.cells ++ x.cells)) (hg : (w.alloc ob).grownBy w2 vp.ownBlock) :
    Words.Blk w2 g 66 (rdrCells m mb wt lk vl wr un vd vp vc ve) ∧ RdrAt B g mb N { m with pts := m.pts ++ [x] } kn wt lk vl wr un vd v' vc ve (w2.setCell ⟨g, 6, none⟩ v') := by
  have hb : Words.Blk w2 g 66 (rdrCells m mb wt lk vl wr un vd vp vc ve) := (h.blk.alloc ob).grown hg (fun e => Words.own_blk_ne h.ps h.blk (by decide) e.symm)
  have hs := grown_set w2 g 6 v'
  have hba : Below w.heap.size w (w.alloc ob) := (Below.refl _ _).alloc (Nat.le_refl _) ob
  have hm2 : MapV placeZ w2 mb N (knV kn) := (h.mp.below hba).grown hg (map_row_ne h.mp h.ps)
  have k : ∀ {base : Nat} {e : TypeId} {size n : Nat} {v : Value} {xs : List Value}, w.ownsRow base e size v n xs → e ≠ 66 → e ≠ 45 → (w2.setCell ⟨g, 6, none⟩ v').ownsRow base e size v n xs := fun ho hne hne2 => by
    have h1 := (ho.alloc ob).kept hg (own_ne ho h.ps hne2)
    exact h1.kept hs (.inr (Words.own_blk_ne h1 hb hne))
  have hown : (w2.setCell ⟨g, 6, none⟩ v').ownsRow B 45 6 v' (m.pts ++ [x]).length ((m.pts ++ [x]).flatMap Pt.cells) := by
    have h1 := ho.kept hs (.inr (Words.own_blk_ne ho hb (by decide)))
    simpa using h1
  refine ⟨hb, ⟨hb.set_ 6 v', h.low, h.lowm, k h.ds (by decide) (by decide), hown, k h.cs (by decide) (by decide), k h.es (by decide) (by decide), ?_, ?_, hm2.grown hs (fun e => map_blk_ne hm2 hb (Option.some.inj e))⟩⟩
  · intro c hc; obtain ⟨B', hB⟩ := h.ci c hc; exact ⟨B', k hB (by decide) (by decide)⟩
  · intro c hc; obtain ⟨B', hB⟩ := h.ei c hc; exact ⟨B', k hB (by decide) (by decide)⟩
/-- one more behind a row: the append, then the store of the field -/
theorem RdrAt.app_cs (h : RdrAt B g mb N m kn wt lk vl wr un vd vp vc ve w) {x : Cs} (hx : ∃ B', w.ownsRow B' 3 1 x.v x.pts.length (x.pts.flatMap nC)) {v' : Value} {ob : Obj} {w2 : World} (ho : w2.ownsRow B 43 5 v' (m.css.length + 1) (m.css.flatMap Cs.cells ++ x.cells)) (hg : (w.alloc ob).grownBy w2 vc.ownBlock) :
    Words.Blk w2 g 66 (rdrCells m mb wt lk vl wr un vd vp vc ve) ∧ RdrAt B g mb N { m with css := m.css ++ [x] } kn wt lk vl wr un vd vp v' ve (w2.setCell ⟨g, 7, none⟩ v') := by
  have hb : Words.Blk w2 g 66 (rdrCells m mb wt lk vl wr un vd vp vc ve) := (h.blk.alloc ob).grown hg (fun e => Words.own_blk_ne h.cs h.blk (by decide) e.symm)
  have hs := grown_set w2 g 7 v'
  have hba : Below w.heap.size w (w.alloc ob) := (Below.refl _ _).alloc (Nat.le_refl _) ob
  have hm2 : MapV placeZ w2 mb N (knV kn) := (h.mp.below hba).grown hg (map_row_ne h.mp h.cs)
  have k : ∀ {base : Nat} {e : TypeId} {size n : Nat} {v : Value} {xs : List Value}, w.ownsRow base e size v n xs → e ≠ 66 → e ≠ 43 → (w2.setCell ⟨g, 7, none⟩ v').ownsRow base e size v n xs := fun ho hne hne2 => by
    have h1 := (ho.alloc ob).kept hg (own_ne ho h.cs hne2)
    exact h1.kept hs (.inr (Words.own_blk_ne h1 hb hne))
  have hown : (w2.setCell ⟨g, 7, none⟩ v').ownsRow B 43 5 v' (m.css ++ [x]).length ((m.css ++ [x]).flatMap Cs.cells) := by
    have h1 := ho.kept hs (.inr (Words.own_blk_ne ho hb (by decide)))
    simpa using h1
  refine ⟨hb, ⟨hb.set_ 7 v', h.low, h.lowm, k h.ds (by decide) (by decide), k h.ps (by decide) (by decide), hown, k h.es (by decide) (by decide), ?_, ?_, hm2.grown hs (fun e => map_blk_ne hm2 hb (Option.some.inj e))⟩⟩
  · intro c hc
    rcases List.mem_append.1 hc with hc | hc
    · obtain ⟨B', hB⟩ := h.ci c hc; exact ⟨B', k hB (by decide) (by decide)⟩
    · obtain rfl := List.mem_singleton.1 hc
      obtain ⟨B', hB⟩ := hx; exact ⟨B', k hB (by decide) (by decide)⟩
  · intro c hc; obtain ⟨B', hB⟩ := h.ei c hc; exact ⟨B', k hB (by decide) (by decide)⟩
/-- one more behind a row: the append, then the store of the field -/
theorem RdrAt.app_es (h : RdrAt B g mb N m kn wt lk vl wr un vd vp vc ve w) {x : Ef} (hx : ∃ B', w.ownsRow B' 3 1 x.v x.cs.length (x.cs.flatMap nC)) {v' : Value} {ob : Obj} {w2 : World} (ho : w2.ownsRow B 54 5 v' (m.efs.length + 1) (m.efs.flatMap Ef.cells ++ x.cells)) (hg : (w.alloc ob).grownBy w2 ve.ownBlock) :
    Words.Blk w2 g 66 (rdrCells m mb wt lk vl wr un vd vp vc ve) ∧ RdrAt B g mb N { m with efs := m.efs ++ [x] } kn wt lk vl wr un vd vp vc v' (w2.setCell ⟨g, 8, none⟩ v') := by
  have hb : Words.Blk w2 g 66 (rdrCells m mb wt lk vl wr un vd vp vc ve) := (h.blk.alloc ob).grown hg (fun e => Words.own_blk_ne h.es h.blk (by decide) e.symm)
  have hs := grown_set w2 g 8 v'
  have hba : Below w.heap.size w (w.alloc ob) := (Below.refl _ _).alloc (Nat.le_refl _) ob
  have hm2 : MapV placeZ w2 mb N (knV kn) := (h.mp.below hba).grown hg (map_row_ne h.mp h.es)
  have k : ∀ {base : Nat} {e : TypeId} {size n : Nat} {v : Value} {xs : List Value}, w.ownsRow base e size v n xs → e ≠ 66 → e ≠ 54 → (w2.setCell ⟨g, 8, none⟩ v').ownsRow base e size v n xs := fun ho hne hne2 => by
    have h1 := (ho.alloc ob).kept hg (own_ne ho h.es hne2)
    exact h1.kept hs (.inr (Words.own_blk_ne h1 hb hne))
  have hown : (w2.setCell ⟨g, 8, none⟩ v').ownsRow B 54 5 v' (m.efs ++ [x]).length ((m.efs ++ [x]).flatMap Ef.cells) := by
    have h1 := ho.kept hs (.inr (Words.own_blk_ne ho hb (by decide)))
    simpa using h1
  refine ⟨hb, ⟨hb.set_ 8 v', h.low, h.lowm, k h.ds (by decide) (by decide), k h.ps (by decide) (by decide), k h.cs (by decide) (by decide), hown, ?_, ?_, hm2.grown hs (fun e => map_blk_ne hm2 hb (Option.some.inj e))⟩⟩
  · intro c hc; obtain ⟨B', hB⟩ := h.ci c hc; exact ⟨B', k hB (by decide) (by decide)⟩
  · intro c hc
    rcases List.mem_append.1 hc with hc | hc
    · obtain ⟨B', hB⟩ := h.ei c hc; exact ⟨B', k hB (by decide) (by decide)⟩
    · obtain rfl := List.mem_singleton.1 hc
      obtain ⟨B', hB⟩ := hx; exact ⟨B', k hB (by decide) (by decide)⟩
end
/-- what stays as it is while a line is read -/
structure RC where
  W : World
  g : Nat
  mb : Nat
  N : Nat
  m : Mat
  kn : Kn
  wt : Bool
  lk : Bool
  vd : Value
  vp : Value
  vc : Value
  ve : Value
  fb : Nat
  kl : Option (Nat × Array Value)
/-- the forms lie in their map, beside the reader's; the line that is read in its block -/
structure FormsAt (fb mb : Nat) (kl : Option (Nat × Array Value)) (w : World) : Prop where
  mv : MapV formZ w fb 6 formsF
  ne : fb ≠ mb
  ln : ∀ g cs, kl = some (g, cs) → Words.Blk w g 50 cs
theorem FormsAt.below {fb mb : Nat} {kl : Option (Nat × Array Value)} {w w' : World} (h : FormsAt fb mb kl w) (hb : Below w.heap.size w w') : FormsAt fb mb kl w' := ⟨h.mv.below hb, h.ne, fun g cs hk => (h.ln g cs hk).below hb (h.ln g cs hk).lt⟩
theorem FormsAt.grown {fb mb : Nat} {kl : Option (Nat × Array Value)} {w w' : World} {r : Option Nat} (h : FormsAt fb mb kl w) (hg : w.grownBy w' r) (hr : some fb ≠ r) (hk : ∀ g cs, kl = some (g, cs) → some g ≠ r) : FormsAt fb mb kl w' := ⟨h.mv.grown hg hr, h.ne, fun g cs hl => (h.ln g cs hl).grown hg (hk g cs hl)⟩
theorem FormsAt.set {fb mb g i : Nat} {kl : Option (Nat × Array Value)} {t : TypeId} {cs : Array Value} {u : Value} {w : World} (h : FormsAt fb mb kl w) (hb : Words.Blk w g t cs) (ht : t ≠ 50) : FormsAt fb mb kl (w.setCell ⟨g, i, none⟩ u) := h.grown (grown_set w g i u) (fun e => map_blk_ne h.mv hb (Option.some.inj e)) (fun g' cs' hl e => Words.Blk.ne_ (h.ln g' cs' hl) hb ht.symm (Option.some.inj e))
/-- the reader's state, with what lay below as it was; its row's value -/
structure RV (c : RC) (ls : List ByteArray) (wr un : Bool) (vl : Value) (w : World) : Prop where
  at_ : RdrAt c.W.heap.size c.g c.mb c.N c.m c.kn c.wt c.lk vl wr un c.vd c.vp c.vc c.ve w
  left : StrsAt c.W ls vl
  old : Below c.W.heap.size c.W w
  fm : FormsAt c.fb c.mb c.kl w
/-- .. whatever its row's value -/
def RS (c : RC) (ls : List ByteArray) (wr un : Bool) (w : World) : Prop := ∃ vl, RV c ls wr un vl w
section
variable {c : RC} {wr un : Bool} {ls : List ByteArray} {vl : Value} {w w' : World}
theorem RV.below (h : RV c ls wr un vl w) (hb : Below w.heap.size w w') : RV c ls wr un vl w' := ⟨h.at_.below hb, h.left, h.old.trans (hb.mono h.old.size), h.fm.below hb⟩
theorem RV.alloc (h : RV c ls wr un vl w) (ob : Obj) : RV c ls wr un vl (w.alloc ob) := h.below ((Below.refl _ _).alloc (Nat.le_refl _) ob)
theorem RS.below (h : RS c ls wr un w) (hb : Below w.heap.size w w') : RS c ls wr un w' := by
  obtain ⟨vl, h⟩ := h
  exact ⟨vl, h.below hb⟩
theorem RS.old (h : RS c ls wr un w) : Below c.W.heap.size c.W w := by
  obtain ⟨vl, h⟩ := h
  exact h.old
theorem RS.drew (h : RS c ls wr un w) : RS c ls wr un w.drew := h.below (below_drewn (Below.refl _ _) 1)
theorem RV.drew (h : RV c ls wr un vl w) : RV c ls wr un vl w.drew := h.below (below_drewn (Below.refl _ _) 1)
theorem RS.drewN (h : RS c ls wr un w) (n : Nat) : RS c ls wr un (w.drewN n) := h.below (below_drewn (Below.refl _ _) n)
theorem RV.cell (h : RV c ls wr un vl w) (i : Nat) : w.cell? ⟨c.g, i, none⟩ = (rdrCells c.m c.mb c.wt c.lk vl wr un c.vd c.vp c.vc c.ve)[i]? := h.at_.blk.cell i
theorem RV.free (h : RV c ls wr un vl w) (i : Nat) : w.frozen? ⟨c.g, i, none⟩ = false := h.at_.blk.frozen i
/-- a store into the row's cells -/
theorem RV.store (h : RV c ls wr un vl w) {wr' un' : Bool} {vl' : Value} {ls' : List ByteArray} (i : Nat) (u : Value) (hs : (rdrCells c.m c.mb c.wt c.lk vl wr un c.vd c.vp c.vc c.ve).setIfInBounds i u = rdrCells c.m c.mb c.wt c.lk vl' wr' un' c.vd c.vp c.vc c.ve) (hl : StrsAt c.W ls' vl') : RV c ls' wr' un' vl' (w.setCell ⟨c.g, i, none⟩ u) :=
  ⟨h.at_.store i u rfl rfl rfl rfl hs, hl, h.old.setCell (p := ⟨c.g, i, none⟩) h.at_.low u, h.fm.set h.at_.blk (by decide)⟩
theorem RV.strs (h : RV c ls wr un vl w) : StrsAt w ls vl := LawFrame.RowsAt.below h.left h.old
end
theorem grown_trans {A B C : World} {r : Option Nat} (h : A.grownBy B r) (k : B.grownBy C r) : A.grownBy C r :=
  ⟨k.os.trans h.os, k.tape.trans h.tape, k.output.trans h.output, Nat.le_trans h.size k.size, fun i hi hr => (k.block i (Nat.lt_of_lt_of_le hi h.size) hr).trans (h.block i hi hr)⟩
theorem grown_any {A B : World} {r : Option Nat} (h : A.grownBy B none) : A.grownBy B r := ⟨h.os, h.tape, h.output, h.size, fun i hi _ => h.block i hi (by simp)⟩
theorem below_grown {A B : World} (h : A.grownBy B none) : Below A.heap.size A B := ⟨h.os, h.tape, h.output, h.size, fun i hi => h.block i hi (by simp)⟩
theorem grown_refl (A : World) (r : Option Nat) : A.grownBy A r := ⟨rfl, rfl, rfl, Nat.le_refl _, fun _ _ _ => rfl⟩
theorem grown_late {A B C : World} {r r' : Option Nat} (h : A.grownBy B r) (k : B.grownBy C r') (hr : ∀ i, r' = some i → A.heap.size ≤ i) : A.grownBy C r :=
  ⟨k.os.trans h.os, k.tape.trans h.tape, k.output.trans h.output, Nat.le_trans h.size k.size, fun i hi hir => (k.block i (Nat.lt_of_lt_of_le hi h.size) (fun e => by have := hr i e.symm; omega)).trans (h.block i hi hir)⟩
/-- a row is kept, where what grows is new -/
theorem own_new {w0 w1 w2 : World} {r : Option Nat} {base base' size n n' : Nat} {e e' : TypeId} {v : Value} {xs xs' : List Value} (h0 : w0.ownsRow base' e' size v n' xs') (h : w1.ownsRow base e size v n xs) (hg : w1.grownBy w2 r) (hr : ∀ k, r = some k → w0.heap.size ≤ k) : w2.ownsRow base e size v n xs := by
  refine h.kept hg ?_
  cases hv : v.ownBlock with
  | none => exact .inl rfl
  | some b =>
    refine .inr (fun e => ?_)
    have h1 := (h0.lt b hv).2
    have h2 := hr b e.symm
    omega
/-- what the reader's small functions leave: its state, and all other blocks as they were -/
def RT (c : RC) (ls : List ByteArray) (wr un : Bool) (w w' : World) : Prop := RS c ls wr un w' ∧ w.grownBy w' (some c.g)
theorem RV.keepNew {c : RC} {ls0 ls : List ByteArray} {wr0 un0 wr un : Bool} {vl0 vl : Value} {w0 w1 w2 : World} {r : Option Nat} (h0 : RV c ls0 wr0 un0 vl0 w0) (h : RV c ls wr un vl w1) (hg : w1.grownBy w2 r) (hr : ∀ k, r = some k → w0.heap.size ≤ k) : RV c ls wr un vl w2 := by
  have a0 := h0.at_
  have a := h.at_
  have hne : ∀ k, k < w0.heap.size → some k ≠ r := fun k hk e => by have := hr k e.symm; omega
  refine ⟨⟨a.blk.grown hg (hne _ a0.blk.lt), a.low, a.lowm, own_new a0.ds a.ds hg hr, own_new a0.ps a.ps hg hr, own_new a0.cs a.cs hg hr, own_new a0.es a.es hg hr, fun x hx => ?_, fun x hx => ?_, a.mp.grown hg (hne _ a0.mp.lt)⟩, h.left, h.old.grown hg h.old.size (fun k hk => by have := hr k hk; have := h0.old.size; omega), h.fm.grown hg (hne _ h0.fm.mv.lt) (fun g cs hl => hne _ (h0.fm.ln g cs hl).lt)⟩
  · obtain ⟨B0, hB0⟩ := a0.ci x hx
    obtain ⟨B', hB⟩ := a.ci x hx
    exact ⟨B', own_new hB0 hB hg hr⟩
  · obtain ⟨B0, hB0⟩ := a0.ei x hx
    obtain ⟨B', hB⟩ := a.ei x hx
    exact ⟨B', own_new hB0 hB hg hr⟩
/-- a row, but for its first -/
theorem strs_tail {w : World} {x : ByteArray} {l : List ByteArray} {b off c : Nat} (h : StrsAt w (x :: l) (.slice (some ⟨b, off, none⟩) (l.length + 1) c)) : StrsAt w l (.slice (some ⟨b, off + 1, none⟩) l.length (c - 1)) := by
  obtain ⟨A, c', e, hc, hx⟩ := h
  obtain ⟨b', off', hA, hb, hcell⟩ := hx (by simp)
  subst hA
  injection e with e1 e2 e3
  injection e1 with e1
  injection e1 with e4 e5 e6
  subst e3 e4 e5
  refine ⟨some ⟨b, off + 1, none⟩, c - 1, rfl, by simp at hc; omega, fun hne => ⟨b, off + 1, rfl, hb, fun i y hy d u hu => ?_⟩⟩
  have := hcell (i + 1) y (by simpa using hy) d u hu
  rw [show off + 1 + i * 1 + d = off + (i + 1) * 1 + d by omega]
  exact this
theorem strs_none {w : World} {A : Option Addr} {c : Nat} : StrsAt w [] (.slice A 0 c) := ⟨A, c, rfl, Nat.zero_le _, fun h => absurd rfl h⟩
end Go.Proofs.YtckbdnkonccmiaaDoor
