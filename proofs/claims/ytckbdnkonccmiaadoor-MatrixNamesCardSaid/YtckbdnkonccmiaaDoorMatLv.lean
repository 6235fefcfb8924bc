/-
  The reader: its small functions over a row; a local of a method; an entry, and one more behind a row.
-/
import Derived.Test.YtckbdnkonccmiaaDoorMatRest
import Derived.Test.YtckbdnkonccmiaaDoorMatNum
import Derived.Test.YtckbdnkonccmiaaDoorMatLamp
namespace Go.Proofs.YtckbdnkonccmiaaDoor
open Go.RowKit
/-- a row: what is left, whether something was wrong, whether a name was -/
abbrev Row := List ByteArray × Bool × Bool
def nameS (kn : Kn) (s : Row) : ByteArray × Row := ((nameF kn s.1 s.2.1 s.2.2).1, (nameF kn s.1 s.2.1 s.2.2).2.1, s.2.1, (nameF kn s.1 s.2.1 s.2.2).2.2)
def numS (s : Row) : Int × Row := ((numF s.1 s.2.1).1, (numF s.1 s.2.1).2.1, (numF s.1 s.2.1).2.2, s.2.2)
def lampS (s : Row) : Int × Row := ((lampF s.1 s.2.1).1, (lampF s.1 s.2.1).2.1, (lampF s.1 s.2.1).2.2, s.2.2)
def saidS (kn : Kn) (kind : Int) (s : Row) : Int × Row := ((saidF kn kind s.1 s.2.1 s.2.2).1, (saidF kn kind s.1 s.2.1 s.2.2).2.1, s.2.1, (saidF kn kind s.1 s.2.1 s.2.2).2.2)
def restS (kn : Kn) (kind : Int) (s : Row) : List Int × Row := ((restF kn kind s.1 s.2.1 s.2.2).1, (restF kn kind s.1 s.2.1 s.2.2).2.1, s.2.1, (restF kn kind s.1 s.2.1 s.2.2).2.2)
/-- words that are not too many, nor too long -/
def Fits (l : List ByteArray) : Prop := l.length ≤ 100000 ∧ ∀ s ∈ l, s.size ≤ 1000000
theorem Fits.word {l : List ByteArray} (h : Fits l) (wr : Bool) : Fits (wordF l wr).2 := ⟨Nat.le_trans wordF_len h.1, fun s hs => h.2 s (wordF_left s hs)⟩
theorem nameS_fits {kn : Kn} {s : Row} (h : Fits s.1) : Fits (nameS kn s).2.1 := h.word _
theorem numS_fits {s : Row} (h : Fits s.1) : Fits (numS s).2.1 := by
  unfold numS numF
  simp only
  split <;> exact h.word _
theorem lampS_fits {s : Row} (h : Fits s.1) : Fits (lampS s).2.1 := by
  unfold lampS lampF
  simp only
  split <;> exact h.word _
theorem saidS_fits {kn : Kn} {kind : Int} {s : Row} (h : Fits s.1) : Fits (saidS kn kind s).2.1 := by
  unfold saidS saidF
  simp only
  split
  · split <;> exact h.word _
  · exact h.word _
theorem restS_fits {kn : Kn} {kind : Int} {s : Row} (h : Fits s.1) : Fits (restS kn kind s).2.1 := by
  unfold restS restF
  simp only
  split
  · exact h
  · exact ⟨Nat.zero_le _, fun s hs => by cases hs⟩
theorem nameS_size {kn : Kn} {s : Row} (h : Fits s.1) : (nameS kn s).1.size ≤ 1000000 := wordF_size h.2
theorem own_blk_keep {w : World} {base size n D : Nat} {e t : TypeId} {v : Value} {xs : List Value} {cs : Array Value} (h : w.ownsRow base e size v n xs) (hb : Words.Blk w D t cs) (hne : e ≠ t) (i : Nat) (u : Value) : (w.setCell ⟨D, i, none⟩ u).ownsRow base e size v n xs := h.kept (grown_set w D i u) (.inr (Words.own_blk_ne h hb hne))
def RSS (c : RC) (s : Row) (w : World) : Prop := RS c s.1 s.2.1 s.2.2 w
theorem name_S (c : RC) (s : Row) (w : World) (h : RSS c s w) (hf : Fits s.1) : Calls Tryd.prog 71 #[.pointer (some ⟨c.g, 0, none⟩)] w fun e w' => e = .returned (.string (nameS c.kn s).1) ∧ RSS c (nameS c.kn s).2 w' ∧ w.grownBy w' (some c.g) :=
  name_any c s.1 s.2.1 s.2.2 w h (by have := hf.1; omega) hf.2
theorem num_S (c : RC) (s : Row) (w : World) (h : RSS c s w) (hf : Fits s.1) : Calls Tryd.prog 72 #[.pointer (some ⟨c.g, 12, none⟩)] w fun e w' => e = .returned (.int .i64 (numS s).1) ∧ RSS c (numS s).2 w' ∧ w.grownBy w' (some c.g) :=
  number_any c s.1 s.2.1 s.2.2 w h (by have := hf.1; omega) hf.2
theorem num64_S (c : RC) (s : Row) (w : World) (h : RSS c s w) (hf : Fits s.1) : Calls Tryd.prog 69 #[.pointer (some ⟨c.g, 12, none⟩)] w fun e w' => e = .returned (.int .i64 (numS s).1) ∧ RSS c (numS s).2 w' ∧ w.grownBy w' (some c.g) :=
  number64_any c s.1 s.2.1 s.2.2 w h (by have := hf.1; omega) hf.2
theorem lamp_S (c : RC) (s : Row) (w : World) (h : RSS c s w) (hf : Fits s.1) : Calls Tryd.prog 74 #[.pointer (some ⟨c.g, 12, none⟩)] w fun e w' => e = .returned (.int .i64 (lampS s).1) ∧ RSS c (lampS s).2 w' ∧ w.grownBy w' (some c.g) :=
  lamp_any c s.1 s.2.1 s.2.2 w h (by have := hf.1; omega)
theorem said_S (c : RC) (kind : Int) (s : Row) (w : World) (h : RSS c s w) (hf : Fits s.1) : Calls Tryd.prog 73 #[.pointer (some ⟨c.g, 0, none⟩), .int .i64 kind] w fun e w' => e = .returned (.int .i64 (saidS c.kn kind s).1) ∧ RSS c (saidS c.kn kind s).2 w' ∧ w.grownBy w' (some c.g) :=
  said_any c s.1 s.2.1 s.2.2 w kind h (by have := hf.1; omega) hf.2
theorem rest_S (c : RC) (kind : Int) (s : Row) (w : World) (h : RSS c s w) (hf : Fits s.1) : Calls Tryd.prog 75 #[.pointer (some ⟨c.g, 0, none⟩), .int .i64 kind] w fun e w' => ∃ A n cp, e = .returned (.slice A n cp) ∧ n = (restS c.kn kind s).1.length ∧ w'.ownsRow w.heap.size 3 1 (.slice A n cp) n ((restS c.kn kind s).1.flatMap nC) ∧ RSS c (restS c.kn kind s).2 w' ∧ w.grownBy w' (some c.g) :=
  rest_any c kind s.1 s.2.1 s.2.2 w h hf.1 hf.2
/-- a method's own local, of type t, in block D, that was made at w0 or later -/
structure LV (c : RC) (w0 : World) (D : Nat) (t : TypeId) (cs : Array Value) (s : Row) (w : World) : Prop where
  first : ∃ ls0 wr0 un0 vl0, RV c ls0 wr0 un0 vl0 w0
  rs : RSS c s w
  blk : Words.Blk w D t cs
  late : w0.heap.size ≤ D
section
variable {c : RC} {w0 w w' : World} {D : Nat} {t : TypeId} {cs : Array Value} {s s' : Row}
theorem LV.gne (h : LV c w0 D t cs s w) : D ≠ c.g := by
  obtain ⟨_, _, _, _, h0⟩ := h.first
  have := h0.at_.blk.lt
  have := h.late
  omega
theorem LV.call (h : LV c w0 D t cs s w) (hr : RSS c s' w') (hg : w.grownBy w' (some c.g)) : LV c w0 D t cs s' w' :=
  ⟨h.first, hr, h.blk.grown hg (fun e => h.gne (Option.some.inj e)), h.late⟩
theorem LV.store (h : LV c w0 D t cs s w) (i : Nat) (u : Value) : LV c w0 D t (cs.setIfInBounds i u) s (w.setCell ⟨D, i, none⟩ u) := by
  obtain ⟨_, _, _, _, h0⟩ := h.first
  obtain ⟨vl, hr⟩ := h.rs
  exact ⟨h.first, ⟨vl, h0.keepNew hr (grown_set w D i u) (fun k hk => by injection hk with hk; have := h.late; omega)⟩, h.blk.set_ i u, h.late⟩
theorem LV.new (h : RSS c s w) (cs : Array Value) (t : TypeId) : LV c w w.heap.size t cs s (w.alloc (.cells cs t)) := by
  obtain ⟨vl, hr⟩ := h
  exact ⟨⟨_, _, _, _, hr⟩, ⟨vl, hr.alloc _⟩, Words.Blk.new _ _ _, Nat.le_refl _⟩
end
/-- an entry that is put -/
def updK (kn : Kn) (a : ByteArray) (p : Int × Int) : Kn := fun x => if x = a then some p else kn x
theorem knV_upd (kn : Kn) (a : ByteArray) (p : Int × Int) : knV (updK kn a p) = updB (knV kn) a (placeV p) := by
  funext x
  unfold knV updK updB
  split <;> rfl
def RC.put (c : RC) (a : ByteArray) (p : Int × Int) : RC := { c with N := c.N + 1, kn := updK c.kn a p }
theorem RV.put {c : RC} {ls : List ByteArray} {wr un : Bool} {vl : Value} {w w' : World} (h : RV c ls wr un vl w) {a : ByteArray} {p : Int × Int} (hm : MapV placeZ w' c.mb (c.N + 1) (updB (knV c.kn) a (placeV p))) (hg : w.grownBy w' (some c.mb)) : RV (c.put a p) ls wr un vl w' := by
  rw [← knV_upd] at hm
  exact ⟨h.at_.put hm hg, h.left, h.old.grown hg h.old.size (fun k hk => by injection hk with hk; have := h.at_.lowm; omega), h.fm.grown hg (fun e => h.fm.ne (Option.some.inj e)) (fun g cs hl e => map_blk_ne h.at_.mp (h.fm.ln g cs hl) (Option.some.inj e).symm)⟩
theorem ds_info : (Tryd.prog.info? 47).map (fun i => (i.zero, i.size, i.bytes)) = some (some (.agg #[.string (ByteArray.mk #[]), .int .i64 0, .int .i64 0]), 3, 32) := by kernel_rfl
theorem ds_parts : ∃ i, Tryd.prog.info? 47 = some i ∧ i.zero = some (.agg #[.string (ByteArray.mk #[]), .int .i64 0, .int .i64 0]) ∧ i.size = 3 ∧ i.bytes = 32 := by
  have h := ds_info
  cases e : Tryd.prog.info? 47 with
  | none => rw [e] at h; cases h
  | some i =>
    rw [e] at h
    simp only [Option.map_some, Option.some.injEq, Prod.mk.injEq] at h
    exact ⟨i, rfl, h.1, h.2.1, h.2.2⟩
theorem reads_ds (w : World) (g : Nat) (hg : w.heap.size = g) (x : Dev) (t : TypeId) : Words.Reads (w.alloc (.cells #[.string x.name, .int .i64 x.line, .int .i64 x.unit] t)) (g + 1) 3 (some ⟨g, 0, none⟩) 1 x.cells := by
  subst hg
  exact LawFrame.reads_block (xs := x.cells) (t := t) (heap_alloc_new w _) (by omega) rfl
theorem one_ds (x : Dev) : ∀ u ∈ x.cells, u.oneCell' = true := by
  intro u hu
  simp only [Dev.cells, List.mem_cons, List.not_mem_nil, or_false] at hu
  rcases hu with rfl | rfl | rfl <;> rfl
theorem ps_info : (Tryd.prog.info? 45).map (fun i => (i.zero, i.size, i.bytes)) = some (some (.agg #[.string (ByteArray.mk #[]), .int .i64 0, .int .i64 0, .int .i64 0, .int .i64 0, .int .i64 0]), 6, 56) := by kernel_rfl
theorem ps_parts : ∃ i, Tryd.prog.info? 45 = some i ∧ i.zero = some (.agg #[.string (ByteArray.mk #[]), .int .i64 0, .int .i64 0, .int .i64 0, .int .i64 0, .int .i64 0]) ∧ i.size = 6 ∧ i.bytes = 56 := by
  have h := ps_info
  cases e : Tryd.prog.info? 45 with
  | none => rw [e] at h; cases h
  | some i =>
    rw [e] at h
    simp only [Option.map_some, Option.some.injEq, Prod.mk.injEq] at h
    exact ⟨i, rfl, h.1, h.2.1, h.2.2⟩
theorem reads_ps (w : World) (g : Nat) (hg : w.heap.size = g) (x : Pt) (t : TypeId) : Words.Reads (w.alloc (.cells #[.string x.name, .int .i64 x.dev, .int .i64 x.place, .int .i64 x.trip, .int .i64 x.on, .int .i64 x.off] t)) (g + 1) 6 (some ⟨g, 0, none⟩) 1 x.cells := by
  subst hg
  exact LawFrame.reads_block (xs := x.cells) (t := t) (heap_alloc_new w _) (by omega) rfl
theorem one_ps (x : Pt) : ∀ u ∈ x.cells, u.oneCell' = true := by
  intro u hu
  simp only [Pt.cells, List.mem_cons, List.not_mem_nil, or_false] at hu
  rcases hu with rfl | rfl | rfl | rfl | rfl | rfl <;> rfl
theorem cs_info : (Tryd.prog.info? 43).map (fun i => (i.zero, i.size, i.bytes)) = some (some (.agg #[.string (ByteArray.mk #[]), .int .i64 0, .int .i64 0, .int .i64 0, .slice none 0 0]), 5, 64) := by kernel_rfl
theorem cs_parts : ∃ i, Tryd.prog.info? 43 = some i ∧ i.zero = some (.agg #[.string (ByteArray.mk #[]), .int .i64 0, .int .i64 0, .int .i64 0, .slice none 0 0]) ∧ i.size = 5 ∧ i.bytes = 64 := by
  have h := cs_info
  cases e : Tryd.prog.info? 43 with
  | none => rw [e] at h; cases h
  | some i =>
    rw [e] at h
    simp only [Option.map_some, Option.some.injEq, Prod.mk.injEq] at h
    exact ⟨i, rfl, h.1, h.2.1, h.2.2⟩
theorem reads_cs (w : World) (g : Nat) (hg : w.heap.size = g) (x : Cs) (t : TypeId) : Words.Reads (w.alloc (.cells #[.string x.name, .int .i64 x.votes, .int .i64 x.lamp, .int .i64 x.limit, x.v] t)) (g + 1) 5 (some ⟨g, 0, none⟩) 1 x.cells := by
  subst hg
  exact LawFrame.reads_block (xs := x.cells) (t := t) (heap_alloc_new w _) (by omega) rfl
theorem one_cs (x : Cs) (A : Option Addr) (n c : Nat) (hv : x.v = .slice A n c) : ∀ u ∈ x.cells, u.oneCell' = true := by
  intro u hu
  simp only [Cs.cells, List.mem_cons, List.not_mem_nil, or_false] at hu
  rcases hu with rfl | rfl | rfl | rfl | rfl <;> first | rfl | (rw [hv]; rfl)
theorem es_info : (Tryd.prog.info? 54).map (fun i => (i.zero, i.size, i.bytes)) = some (some (.agg #[.string (ByteArray.mk #[]), .int .i64 0, .int .i64 0, .int .i64 0, .slice none 0 0]), 5, 64) := by kernel_rfl
theorem es_parts : ∃ i, Tryd.prog.info? 54 = some i ∧ i.zero = some (.agg #[.string (ByteArray.mk #[]), .int .i64 0, .int .i64 0, .int .i64 0, .slice none 0 0]) ∧ i.size = 5 ∧ i.bytes = 64 := by
  have h := es_info
  cases e : Tryd.prog.info? 54 with
  | none => rw [e] at h; cases h
  | some i =>
    rw [e] at h
    simp only [Option.map_some, Option.some.injEq, Prod.mk.injEq] at h
    exact ⟨i, rfl, h.1, h.2.1, h.2.2⟩
theorem reads_es (w : World) (g : Nat) (hg : w.heap.size = g) (x : Ef) (t : TypeId) : Words.Reads (w.alloc (.cells #[.string x.name, .int .i64 x.dev, .int .i64 x.place, .int .i64 x.safe, x.v] t)) (g + 1) 5 (some ⟨g, 0, none⟩) 1 x.cells := by
  subst hg
  exact LawFrame.reads_block (xs := x.cells) (t := t) (heap_alloc_new w _) (by omega) rfl
theorem one_es (x : Ef) (A : Option Addr) (n c : Nat) (hv : x.v = .slice A n c) : ∀ u ∈ x.cells, u.oneCell' = true := by
  intro u hu
  simp only [Ef.cells, List.mem_cons, List.not_mem_nil, or_false] at hu
  rcases hu with rfl | rfl | rfl | rfl | rfl <;> first | rfl | (rw [hv]; rfl)
theorem RV.app_ds {c : RC} {ls : List ByteArray} {wr un : Bool} {vl : Value} {w : World} (h : RV c ls wr un vl w) {x : Dev} {v' : Value} {ob : Obj} {w2 : World} (ho : w2.ownsRow c.W.heap.size 47 3 v' (c.m.devs.length + 1) (c.m.devs.flatMap Dev.cells ++ x.cells)) (hg : (w.alloc ob).grownBy w2 c.vd.ownBlock) :
    Words.Blk w2 c.g 66 (rdrCells c.m c.mb c.wt c.lk vl wr un c.vd c.vp c.vc c.ve) ∧ RV { c with m := { c.m with devs := c.m.devs ++ [x] }, vd := v' } ls wr un vl (w2.setCell ⟨c.g, 5, none⟩ v') := by
  obtain ⟨h1, h2⟩ := h.at_.app_ds ho hg
  exact ⟨h1, h2, h.left, ((h.old.alloc h.old.size ob).grown hg (by have := h.old.size; simp; omega) (fun k hk => (h.at_.ds.lt k hk).1)).setCell (p := ⟨c.g, 5, none⟩) h.at_.low v', ((h.fm.below ((Below.refl _ _).alloc (Nat.le_refl _) ob)).grown hg (map_row_ne h.fm.mv h.at_.ds) (fun g cs hl e => Words.own_blk_ne h.at_.ds (h.fm.ln g cs hl) (by decide) e.symm)).set h1 (by decide)⟩
theorem RV.app_ps {c : RC} {ls : List ByteArray} {wr un : Bool} {vl : Value} {w : World} (h : RV c ls wr un vl w) {x : Pt} {v' : Value} {ob : Obj} {w2 : World} (ho : w2.ownsRow c.W.heap.size 45 6 v' (c.m.pts.length + 1) (c.m.pts.flatMap Pt.cells ++ x.cells)) (hg : (w.alloc ob).grownBy w2 c.vp.ownBlock) :
    Words.Blk w2 c.g 66 (rdrCells c.m c.mb c.wt c.lk vl wr un c.vd c.vp c.vc c.ve) ∧ RV { c with m := { c.m with pts := c.m.pts ++ [x] }, vp := v' } ls wr un vl (w2.setCell ⟨c.g, 6, none⟩ v') := by
  obtain ⟨h1, h2⟩ := h.at_.app_ps ho hg
  exact ⟨h1, h2, h.left, ((h.old.alloc h.old.size ob).grown hg (by have := h.old.size; simp; omega) (fun k hk => (h.at_.ps.lt k hk).1)).setCell (p := ⟨c.g, 6, none⟩) h.at_.low v', ((h.fm.below ((Below.refl _ _).alloc (Nat.le_refl _) ob)).grown hg (map_row_ne h.fm.mv h.at_.ps) (fun g cs hl e => Words.own_blk_ne h.at_.ps (h.fm.ln g cs hl) (by decide) e.symm)).set h1 (by decide)⟩
theorem RV.app_cs {c : RC} {ls : List ByteArray} {wr un : Bool} {vl : Value} {w : World} (h : RV c ls wr un vl w) {x : Cs} (hx : ∃ B', w.ownsRow B' 3 1 x.v x.pts.length (x.pts.flatMap nC)) {v' : Value} {ob : Obj} {w2 : World} (ho : w2.ownsRow c.W.heap.size 43 5 v' (c.m.css.length + 1) (c.m.css.flatMap Cs.cells ++ x.cells)) (hg : (w.alloc ob).grownBy w2 c.vc.ownBlock) :
    Words.Blk w2 c.g 66 (rdrCells c.m c.mb c.wt c.lk vl wr un c.vd c.vp c.vc c.ve) ∧ RV { c with m := { c.m with css := c.m.css ++ [x] }, vc := v' } ls wr un vl (w2.setCell ⟨c.g, 7, none⟩ v') := by
  obtain ⟨h1, h2⟩ := h.at_.app_cs hx ho hg
  exact ⟨h1, h2, h.left, ((h.old.alloc h.old.size ob).grown hg (by have := h.old.size; simp; omega) (fun k hk => (h.at_.cs.lt k hk).1)).setCell (p := ⟨c.g, 7, none⟩) h.at_.low v', ((h.fm.below ((Below.refl _ _).alloc (Nat.le_refl _) ob)).grown hg (map_row_ne h.fm.mv h.at_.cs) (fun g cs hl e => Words.own_blk_ne h.at_.cs (h.fm.ln g cs hl) (by decide) e.symm)).set h1 (by decide)⟩
theorem RV.app_es {c : RC} {ls : List ByteArray} {wr un : Bool} {vl : Value} {w : World} (h : RV c ls wr un vl w) {x : Ef} (hx : ∃ B', w.ownsRow B' 3 1 x.v x.cs.length (x.cs.flatMap nC)) {v' : Value} {ob : Obj} {w2 : World} (ho : w2.ownsRow c.W.heap.size 54 5 v' (c.m.efs.length + 1) (c.m.efs.flatMap Ef.cells ++ x.cells)) (hg : (w.alloc ob).grownBy w2 c.ve.ownBlock) :
    Words.Blk w2 c.g 66 (rdrCells c.m c.mb c.wt c.lk vl wr un c.vd c.vp c.vc c.ve) ∧ RV { c with m := { c.m with efs := c.m.efs ++ [x] }, ve := v' } ls wr un vl (w2.setCell ⟨c.g, 8, none⟩ v') := by
  obtain ⟨h1, h2⟩ := h.at_.app_es hx ho hg
  exact ⟨h1, h2, h.left, ((h.old.alloc h.old.size ob).grown hg (by have := h.old.size; simp; omega) (fun k hk => (h.at_.es.lt k hk).1)).setCell (p := ⟨c.g, 8, none⟩) h.at_.low v', ((h.fm.below ((Below.refl _ _).alloc (Nat.le_refl _) ob)).grown hg (map_row_ne h.fm.mv h.at_.es) (fun g cs hl e => Words.own_blk_ne h.at_.es (h.fm.ln g cs hl) (by decide) e.symm)).set h1 (by decide)⟩
end Go.Proofs.YtckbdnkonccmiaaDoor
