/-
  The document's parser: thing, walked where nothing is wrong.
-/
import Derived.Test.YtbpenoelmangkaaParPrs
namespace Go.Proofs.Ytbpenoelmangkaa
open Go.RowKit
/-- the parser's state behind a call -/
def PEnds (W : World) (g : Nat) (m : Mat) (bw bk : Bool) (e : Ending) (w' : World) : Prop := ∃ vd vp vc ve, e = .returned (.tuple #[]) ∧ PS W g m bw bk vd vp vc ve w'
theorem PS.drew {W : World} {g : Nat} {m : Mat} {bw bk : Bool} {vd vp vc ve : Value} {w : World} (h : PS W g m bw bk vd vp vc ve w) : PS W g m bw bk vd vp vc ve w.drew :=
  ⟨⟨h.1.blk, h.1.low, h.1.ds.drew, h.1.ps.drew, h.1.cs.drew, h.1.es.drew, fun c hc => by obtain ⟨B', hB⟩ := h.1.ci c hc; exact ⟨B', hB.drew⟩, fun c hc => by obtain ⟨B', hB⟩ := h.1.ei c hc; exact ⟨B', hB.drew⟩⟩, h.2.drew⟩
theorem word_at {W w : World} {l : List ByteArray} {b off n c : Nat} (h : StrsAt W l (.slice (some ⟨b, off, none⟩) n c)) (hb : Below W.heap.size W w) {k : Nat} {x : ByteArray} (hx : l[k]? = some x) : w.cell? ⟨b, off + k, none⟩ = some (.string x) := by
  obtain ⟨b', off', c', hv, -, hcell⟩ := (LawFrame.RowsAt.below h hb).at_ hx
  injection hv with hA
  injection hA with hA
  injection hA with hA1 hA2 _
  subst hA1 hA2
  have := hcell 0 _ rfl
  simpa using this
theorem PS.app_ds {W : World} {g : Nat} {m : Mat} {bw bk : Bool} {vd vp vc ve : Value} {w : World} (h : PS W g m bw bk vd vp vc ve w) {x : Dev} {v' : Value} {ob : Obj} {w2 : World} (ho : w2.ownsRow W.heap.size 54 3 v' (m.devs.length + 1) (m.devs.flatMap Dev.cells ++ x.cells)) (hg : (w.alloc ob).grownBy w2 vd.ownBlock) :
    Words.Blk w2 g 76 (prsCells m bw bk vd vp vc ve) ∧ PS W g { m with devs := m.devs ++ [x] } bw bk v' vp vc ve (w2.setCell ⟨g, 5, none⟩ v') := by
  obtain ⟨h1, h2⟩ := h.1.app_ds ho hg
  exact ⟨h1, h2, ((h.2.alloc h.2.size ob).grown hg (by have := h.2.size; simp; omega) (fun k hk => (h.1.ds.lt k hk).1)).setCell h.1.low _⟩
theorem PS.app_ps {W : World} {g : Nat} {m : Mat} {bw bk : Bool} {vd vp vc ve : Value} {w : World} (h : PS W g m bw bk vd vp vc ve w) {x : Pt} {v' : Value} {ob : Obj} {w2 : World} (ho : w2.ownsRow W.heap.size 35 6 v' (m.pts.length + 1) (m.pts.flatMap Pt.cells ++ x.cells)) (hg : (w.alloc ob).grownBy w2 vp.ownBlock) :
    Words.Blk w2 g 76 (prsCells m bw bk vd vp vc ve) ∧ PS W g { m with pts := m.pts ++ [x] } bw bk vd v' vc ve (w2.setCell ⟨g, 6, none⟩ v') := by
  obtain ⟨h1, h2⟩ := h.1.app_ps ho hg
  exact ⟨h1, h2, ((h.2.alloc h.2.size ob).grown hg (by have := h.2.size; simp; omega) (fun k hk => (h.1.ps.lt k hk).1)).setCell h.1.low _⟩
theorem PS.app_cs {W : World} {g : Nat} {m : Mat} {bw bk : Bool} {vd vp vc ve : Value} {w : World} (h : PS W g m bw bk vd vp vc ve w) {x : Cs} (hx : ∃ B', w.ownsRow B' 3 1 x.v x.pts.length (x.pts.flatMap nC)) {v' : Value} {ob : Obj} {w2 : World} (ho : w2.ownsRow W.heap.size 42 5 v' (m.css.length + 1) (m.css.flatMap Cs.cells ++ x.cells)) (hg : (w.alloc ob).grownBy w2 vc.ownBlock) :
    Words.Blk w2 g 76 (prsCells m bw bk vd vp vc ve) ∧ PS W g { m with css := m.css ++ [x] } bw bk vd vp v' ve (w2.setCell ⟨g, 7, none⟩ v') := by
  obtain ⟨h1, h2⟩ := h.1.app_cs hx ho hg
  exact ⟨h1, h2, ((h.2.alloc h.2.size ob).grown hg (by have := h.2.size; simp; omega) (fun k hk => (h.1.cs.lt k hk).1)).setCell h.1.low _⟩
theorem PS.app_es {W : World} {g : Nat} {m : Mat} {bw bk : Bool} {vd vp vc ve : Value} {w : World} (h : PS W g m bw bk vd vp vc ve w) {x : Ef} (hx : ∃ B', w.ownsRow B' 3 1 x.v x.cs.length (x.cs.flatMap nC)) {v' : Value} {ob : Obj} {w2 : World} (ho : w2.ownsRow W.heap.size 39 5 v' (m.efs.length + 1) (m.efs.flatMap Ef.cells ++ x.cells)) (hg : (w.alloc ob).grownBy w2 ve.ownBlock) :
    Words.Blk w2 g 76 (prsCells m bw bk vd vp vc ve) ∧ PS W g { m with efs := m.efs ++ [x] } bw bk vd vp vc v' (w2.setCell ⟨g, 8, none⟩ v') := by
  obtain ⟨h1, h2⟩ := h.1.app_es hx ho hg
  exact ⟨h1, h2, ((h.2.alloc h.2.size ob).grown hg (by have := h.2.size; simp; omega) (fun k hk => (h.1.es.lt k hk).1)).setCell h.1.low _⟩
theorem ds_info : (Try.prog.info? 54).map (fun i => (i.zero, i.size, i.bytes)) = some (some (.agg #[.string (ByteArray.mk #[]), .int .i64 0, .int .i64 0]), 3, 32) := by kernel_rfl
theorem ds_parts : ∃ i, Try.prog.info? 54 = some i ∧ i.zero = some (.agg #[.string (ByteArray.mk #[]), .int .i64 0, .int .i64 0]) ∧ i.size = 3 ∧ i.bytes = 32 := by
  have h := ds_info
  cases e : Try.prog.info? 54 with
  | none => rw [e] at h; cases h
  | some i =>
    rw [e] at h
    simp only [Option.map_some, Option.some.injEq, Prod.mk.injEq] at h
    exact ⟨i, rfl, h.1, h.2.1, h.2.2⟩
theorem reads_ds (w : World) (g : Nat) (hg : w.heap.size = g) (x : Dev) (t : TypeId) : Words.Reads (w.alloc (.cells #[.string x.name, .int .i64 x.line, .int .i64 x.unit] t)) (g + 1) 3 (some ⟨g, 0, none⟩) 1 x.cells := by
  subst hg
  exact LawFrame.reads_block (xs := x.cells) (t := t) (heap_alloc_new w _) (by omega) rfl
theorem one_ds (x : Dev) : ∀ u ∈ x.cells, u.oneCell' = true := by
  intro u hu
  simp only [Dev.cells, List.mem_cons, List.not_mem_nil, or_false] at hu
  rcases hu with rfl | rfl | rfl <;> rfl
theorem ps_info : (Try.prog.info? 35).map (fun i => (i.zero, i.size, i.bytes)) = some (some (.agg #[.string (ByteArray.mk #[]), .int .i64 0, .int .i64 0, .int .i64 0, .int .i64 0, .int .i64 0]), 6, 56) := by kernel_rfl
theorem ps_parts : ∃ i, Try.prog.info? 35 = some i ∧ i.zero = some (.agg #[.string (ByteArray.mk #[]), .int .i64 0, .int .i64 0, .int .i64 0, .int .i64 0, .int .i64 0]) ∧ i.size = 6 ∧ i.bytes = 56 := by
  have h := ps_info
  cases e : Try.prog.info? 35 with
  | none => rw [e] at h; cases h
  | some i =>
    rw [e] at h
    simp only [Option.map_some, Option.some.injEq, Prod.mk.injEq] at h
    exact ⟨i, rfl, h.1, h.2.1, h.2.2⟩
theorem reads_ps (w : World) (g : Nat) (hg : w.heap.size = g) (x : Pt) (t : TypeId) : Words.Reads (w.alloc (.cells #[.string x.name, .int .i64 x.dev, .int .i64 x.place, .int .i64 x.trip, .int .i64 x.on, .int .i64 x.off] t)) (g + 1) 6 (some ⟨g, 0, none⟩) 1 x.cells := by
  subst hg
  exact LawFrame.reads_block (xs := x.cells) (t := t) (heap_alloc_new w _) (by omega) rfl
theorem one_ps (x : Pt) : ∀ u ∈ x.cells, u.oneCell' = true := by
  intro u hu
  simp only [Pt.cells, List.mem_cons, List.not_mem_nil, or_false] at hu
  rcases hu with rfl | rfl | rfl | rfl | rfl | rfl <;> rfl
theorem cs_info : (Try.prog.info? 42).map (fun i => (i.zero, i.size, i.bytes)) = some (some (.agg #[.string (ByteArray.mk #[]), .int .i64 0, .int .i64 0, .int .i64 0, .slice none 0 0]), 5, 64) := by kernel_rfl
theorem cs_parts : ∃ i, Try.prog.info? 42 = some i ∧ i.zero = some (.agg #[.string (ByteArray.mk #[]), .int .i64 0, .int .i64 0, .int .i64 0, .slice none 0 0]) ∧ i.size = 5 ∧ i.bytes = 64 := by
  have h := cs_info
  cases e : Try.prog.info? 42 with
  | none => rw [e] at h; cases h
  | some i =>
    rw [e] at h
    simp only [Option.map_some, Option.some.injEq, Prod.mk.injEq] at h
    exact ⟨i, rfl, h.1, h.2.1, h.2.2⟩
theorem reads_cs (w : World) (g : Nat) (hg : w.heap.size = g) (x : Cs) (t : TypeId) : Words.Reads (w.alloc (.cells #[.string x.name, .int .i64 x.votes, .int .i64 x.lamp, .int .i64 x.limit, x.v] t)) (g + 1) 5 (some ⟨g, 0, none⟩) 1 x.cells := by
  subst hg
  exact LawFrame.reads_block (xs := x.cells) (t := t) (heap_alloc_new w _) (by omega) rfl
theorem one_cs (x : Cs) (A : Option Addr) (n c : Nat) (hv : x.v = .slice A n c) : ∀ u ∈ x.cells, u.oneCell' = true := by
  intro u hu
  simp only [Cs.cells, List.mem_cons, List.not_mem_nil, or_false] at hu
  rcases hu with rfl | rfl | rfl | rfl | rfl <;> first | rfl | (rw [hv]; rfl)
theorem es_info : (Try.prog.info? 39).map (fun i => (i.zero, i.size, i.bytes)) = some (some (.agg #[.string (ByteArray.mk #[]), .int .i64 0, .int .i64 0, .int .i64 0, .slice none 0 0]), 5, 64) := by kernel_rfl
theorem es_parts : ∃ i, Try.prog.info? 39 = some i ∧ i.zero = some (.agg #[.string (ByteArray.mk #[]), .int .i64 0, .int .i64 0, .int .i64 0, .slice none 0 0]) ∧ i.size = 5 ∧ i.bytes = 64 := by
  have h := es_info
  cases e : Try.prog.info? 39 with
  | none => rw [e] at h; cases h
  | some i =>
    rw [e] at h
    simp only [Option.map_some, Option.some.injEq, Prod.mk.injEq] at h
    exact ⟨i, rfl, h.1, h.2.1, h.2.2⟩
theorem reads_es (w : World) (g : Nat) (hg : w.heap.size = g) (x : Ef) (t : TypeId) : Words.Reads (w.alloc (.cells #[.string x.name, .int .i64 x.dev, .int .i64 x.place, .int .i64 x.safe, x.v] t)) (g + 1) 5 (some ⟨g, 0, none⟩) 1 x.cells := by
  subst hg
  exact LawFrame.reads_block (xs := x.cells) (t := t) (heap_alloc_new w _) (by omega) rfl
theorem one_es (x : Ef) (A : Option Addr) (n c : Nat) (hv : x.v = .slice A n c) : ∀ u ∈ x.cells, u.oneCell' = true := by
  intro u hu
  simp only [Ef.cells, List.mem_cons, List.not_mem_nil, or_false] at hu
  rcases hu with rfl | rfl | rfl | rfl | rfl <;> first | rfl | (rw [hv]; rfl)
set_option maxHeartbeats 4000000 in
set_option maxRecDepth 100000 in
theorem thing_device (W : World) (g : Nat) (m : Mat) (bw bq : Bool) (vd vp vc ve : Value) (w : World) (h : PS W g m bw bq vd vp vc ve w) (hm : m.devs.length + m.pts.length + m.css.length + m.efs.length ≤ 100)
    (vw : Value) (s0 : ByteArray) (hs0 : s0 = ⟨#[100, 101, 118, 105, 99, 101]⟩) (nm a b : ByteArray) (hw : StrsAt W [s0, nm, a, b] vw) (ha : NumP a) (hb : NumP b) (hn : ¬ nm ∈ m.names)
    (m' : Mat) (hmm : m' = { m with devs := m.devs ++ [⟨nm, numF a, numF b⟩] }) :
    Calls Try.prog 57 #[.pointer (some ⟨g, 0, none⟩), vw] w (PEnds W g m' bw bq) := by
  obtain ⟨r, wt, bk, cy, key, ds, ps, cs, es⟩ := m
  obtain ⟨Ad, cd, e⟩ := own_form h.1.ds
  simp only at e
  subst e
  obtain ⟨Ap, cp, e⟩ := own_form h.1.ps
  simp only at e
  subst e
  obtain ⟨Ac, cc, e⟩ := own_form h.1.cs
  simp only at e
  subst e
  obtain ⟨Ae, ce, e⟩ := own_form h.1.es
  simp only at e
  subst e
  have HMM := Lib.hid hmm
  have HP := Lib.hid h
  have HWD := Lib.hid hw
  obtain ⟨A, c, e, hc, -⟩ := id hw
  subst e
  simp only [List.length_cons, List.length_nil] at hc
  rw [show [s0, nm, a, b].length = 4 from rfl] at *
  have e0 : (s0.toList == [100, 101, 118, 105, 99, 101]) = true := by rw [hs0, ByteArray.toList_eq]; decide
  clear h hw hmm hs0
  obtain ⟨b0, off0, hA, hcell⟩ := one_at (LawFrame.RowsAt.below HWD.out HP.out.2) (k := 0) (x := s0) rfl
  subst hA
  have y0 := hcell _ rfl
  clear hcell
  obtain ⟨b1, off1, hA, hcell⟩ := one_at (LawFrame.RowsAt.below HWD.out HP.out.2) (k := 1) (x := nm) rfl
  injection hA with hA
  injection hA with hA1 hA2 _
  subst hA1 hA2
  have y1 := hcell _ rfl
  clear hcell
  obtain ⟨b2, off2, hA, hcell⟩ := one_at (LawFrame.RowsAt.below HWD.out HP.out.2) (k := 2) (x := a) rfl
  injection hA with hA
  injection hA with hA1 hA2 _
  subst hA1 hA2
  have y2 := hcell _ rfl
  clear hcell
  obtain ⟨b3, off3, hA, hcell⟩ := one_at (LawFrame.RowsAt.below HWD.out HP.out.2) (k := 3) (x := b) rfl
  injection hA with hA
  injection hA with hA1 hA2 _
  subst hA1 hA2
  have y3 := hcell _ rfl
  clear hcell
  simp only [Nat.add_zero] at y0
  simp only at hm
  have HA := Lib.hid ha
  have HB := Lib.hid hb
  have HN := Lib.hid hn
  clear ha hb hn
  obtain ⟨i0, hi0, hz0, hz1, hz2⟩ := ds_parts
  obtain ⟨na, hna⟩ : ∃ n, n = numF a := ⟨_, rfl⟩
  obtain ⟨nb, hnb⟩ : ∃ n, n = numF b := ⟨_, rfl⟩
  have HNA := Lib.hid hna
  have HNB := Lib.hid hnb
  clear hna hnb
  go_enter Try.func57, Try.ntmps57
  go_wp2_with fail
  refine (num_any _ _ a HA.out na HNA.out).mono ?_
  rintro e w1 ⟨rfl, rfl⟩
  go_wp2_with fail
  refine (num_any _ _ b HB.out nb HNB.out).mono ?_
  rintro e w1 ⟨rfl, rfl⟩
  go_wp2_with fail
  refine (fresh_any W g ⟨r, wt, bk, cy, key, ds, ps, cs, es⟩ bw bq _ _ _ _ w HP.out (by simp only; omega) nm HN.out).mono ?_
  rintro e w1 ⟨rfl, hb⟩
  have HP := Lib.hid (HP.out.below hb)
  have y1 : w1.cell? ⟨b0, off0 + 1, none⟩ = some (.string nm) := word_at HWD.out HP.out.2 rfl
  have z5 : w1.cell? ⟨g, 5, none⟩ = some (.slice Ad ds.length cd) := HP.out.cell 5
  have za : (w1.alloc (.cells #[.string nm, .int .i64 na, .int .i64 nb] 54)).cell? ⟨g, 5, none⟩ = some (.slice Ad ds.length cd) := (HP.out.1.blk.alloc _).cell 5
  have HO := Lib.hid (one_ds ⟨nm, na, nb⟩)
  have hwl : W.heap.size ≤ w1.heap.size := HP.out.2.size
  clear hb
  go_upto_region 5 with fail
  go_region_law (first
    | (refine Words.step_append_any (w1.alloc (.cells #[.string nm, .int .i64 na, .int .i64 nb] 54)).drew (by rfl) (.tmp 44) (.tmp 51) 22 (by rfl) W.heap.size 54 i0 _ 3 32 Try.underlying22 hi0 hz0 hz1 hz2 rfl (by omega) (.slice Ad ds.length cd) ds.length (ds.flatMap Dev.cells) (by rfl) ((HP.out.drew.1.ds).alloc _) (w1.heap.size + 1) (some ⟨w1.heap.size, 0, none⟩) 1 1 (Dev.cells ⟨nm, na, nb⟩) (by rfl) (reads_ds w1.drew _ rfl ⟨nm, na, nb⟩ _) HO.out (by simp only [maxLen]; omega) (by omega) (by show W.heap.size ≤ (w1.alloc _).heap.size; simp; omega) ?_; intro v' w2 ho hg _; obtain ⟨Av, cv, rfl⟩ := own_form ho; have HX := Lib.hid (HP.out.drew.app_ds (x := ⟨nm, na, nb⟩) ho hg); have f5 := HX.out.1.frozen 5; have c5 : w2.cell? ⟨g, 5, none⟩ = some (.slice Ad ds.length cd) := HX.out.1.cell 5; clear ho hg))
  all_goals go_wp2_with fail
  all_goals go_end0
  all_goals exact ⟨_, _, _, _, rfl, by rw [HMM.out, ← HNA.out, ← HNB.out]; exact HX.out.2⟩
set_option maxHeartbeats 4000000 in
set_option maxRecDepth 100000 in
theorem thing_point (W : World) (g : Nat) (m : Mat) (bw bq : Bool) (vd vp vc ve : Value) (w : World) (h : PS W g m bw bq vd vp vc ve w) (hm : m.devs.length + m.pts.length + m.css.length + m.efs.length ≤ 100)
    (vw : Value) (s0 : ByteArray) (hs0 : s0 = ⟨#[112, 111, 105, 110, 116]⟩) (nm dv a b c d : ByteArray) (kd : Nat) (hw : StrsAt W [s0, nm, dv, a, b, c, d] vw) (ha : NumP a) (hb : NumP b) (hc : NumP c) (hd : NumP d) (hn : ¬ nm ∈ m.names) (hkd : (m.devs.map (·.name))[kd]? = some dv) (hku : Upto (fun _ x => ¬ x = dv) (m.devs.map (·.name)) kd)
    (m' : Mat) (hmm : m' = { m with pts := m.pts ++ [⟨nm, (kd : Int), numF a, numF b, numF c, numF d⟩] }) :
    Calls Try.prog 57 #[.pointer (some ⟨g, 0, none⟩), vw] w (PEnds W g m' bw bq) := by
  obtain ⟨r, wt, bk, cy, key, ds, ps, cs, es⟩ := m
  obtain ⟨Ad, cd, e⟩ := own_form h.1.ds
  simp only at e
  subst e
  obtain ⟨Ap, cp, e⟩ := own_form h.1.ps
  simp only at e
  subst e
  obtain ⟨Ac, cc, e⟩ := own_form h.1.cs
  simp only at e
  subst e
  obtain ⟨Ae, ce, e⟩ := own_form h.1.es
  simp only at e
  subst e
  have HMM := Lib.hid hmm
  have HP := Lib.hid h
  have HWD := Lib.hid hw
  obtain ⟨A, cw, e, hcw, -⟩ := id hw
  subst e
  simp only [List.length_cons, List.length_nil] at hcw
  rw [show [s0, nm, dv, a, b, c, d].length = 7 from rfl] at *
  have e0 : (s0.toList == [100, 101, 118, 105, 99, 101]) = false := by rw [hs0, ByteArray.toList_eq]; decide
  have e1 : (s0.toList == [112, 111, 105, 110, 116]) = true := by rw [hs0, ByteArray.toList_eq]; decide
  clear h hw hmm hs0
  obtain ⟨b0, off0, hA, hcell⟩ := one_at (LawFrame.RowsAt.below HWD.out HP.out.2) (k := 0) (x := s0) rfl
  subst hA
  have y0 := hcell _ rfl
  clear hcell
  obtain ⟨b1, off1, hA, hcell⟩ := one_at (LawFrame.RowsAt.below HWD.out HP.out.2) (k := 1) (x := nm) rfl
  injection hA with hA
  injection hA with hA1 hA2 _
  subst hA1 hA2
  have y1 := hcell _ rfl
  clear hcell
  obtain ⟨b2, off2, hA, hcell⟩ := one_at (LawFrame.RowsAt.below HWD.out HP.out.2) (k := 2) (x := dv) rfl
  injection hA with hA
  injection hA with hA1 hA2 _
  subst hA1 hA2
  have y2 := hcell _ rfl
  clear hcell
  obtain ⟨b3, off3, hA, hcell⟩ := one_at (LawFrame.RowsAt.below HWD.out HP.out.2) (k := 3) (x := a) rfl
  injection hA with hA
  injection hA with hA1 hA2 _
  subst hA1 hA2
  have y3 := hcell _ rfl
  clear hcell
  obtain ⟨b4, off4, hA, hcell⟩ := one_at (LawFrame.RowsAt.below HWD.out HP.out.2) (k := 4) (x := b) rfl
  injection hA with hA
  injection hA with hA1 hA2 _
  subst hA1 hA2
  have y4 := hcell _ rfl
  clear hcell
  obtain ⟨b5, off5, hA, hcell⟩ := one_at (LawFrame.RowsAt.below HWD.out HP.out.2) (k := 5) (x := c) rfl
  injection hA with hA
  injection hA with hA1 hA2 _
  subst hA1 hA2
  have y5 := hcell _ rfl
  clear hcell
  obtain ⟨b6, off6, hA, hcell⟩ := one_at (LawFrame.RowsAt.below HWD.out HP.out.2) (k := 6) (x := d) rfl
  injection hA with hA
  injection hA with hA1 hA2 _
  subst hA1 hA2
  have y6 := hcell _ rfl
  clear hcell
  simp only [Nat.add_zero] at y0
  simp only at hm
  have HN := Lib.hid hn
  have HKD := Lib.hid hkd
  have HKU := Lib.hid hku
  clear hn hkd hku
  obtain ⟨i0, hi0, hz0, hz1, hz2⟩ := ps_parts
  have Ha := Lib.hid ha
  obtain ⟨na, hna⟩ : ∃ n, n = numF a := ⟨_, rfl⟩
  have HNa := Lib.hid hna
  clear ha hna
  have Hb := Lib.hid hb
  obtain ⟨nb, hnb⟩ : ∃ n, n = numF b := ⟨_, rfl⟩
  have HNb := Lib.hid hnb
  clear hb hnb
  have Hc := Lib.hid hc
  obtain ⟨nc, hnc⟩ : ∃ n, n = numF c := ⟨_, rfl⟩
  have HNc := Lib.hid hnc
  clear hc hnc
  have Hd := Lib.hid hd
  obtain ⟨nd, hnd⟩ : ∃ n, n = numF d := ⟨_, rfl⟩
  have HNd := Lib.hid hnd
  clear hd hnd
  have HMM : Hid (m' = ⟨r, wt, bk, cy, key, ds, ps ++ [⟨nm, (kd : Int), na, nb, nc, nd⟩], cs, es⟩) := Lib.hid (by rw [HMM.out, HNa.out, HNb.out, HNc.out, HNd.out])
  go_enter Try.func57, Try.ntmps57
  go_wp2_with fail
  refine (num_any _ _ a Ha.out na HNa.out).mono ?_
  rintro e w1 ⟨rfl, rfl⟩
  go_wp2_with fail
  refine (num_any _ _ b Hb.out nb HNb.out).mono ?_
  rintro e w1 ⟨rfl, rfl⟩
  go_wp2_with fail
  refine (num_any _ _ c Hc.out nc HNc.out).mono ?_
  rintro e w1 ⟨rfl, rfl⟩
  go_wp2_with fail
  refine (num_any _ _ d Hd.out nd HNd.out).mono ?_
  rintro e w1 ⟨rfl, rfl⟩
  go_wp2_with fail
  refine (fresh_any W g ⟨r, wt, bk, cy, key, ds, ps, cs, es⟩ bw bq _ _ _ _ w HP.out (by simp only; omega) nm HN.out).mono ?_
  rintro e w1 ⟨rfl, hb⟩
  have HP := Lib.hid (HP.out.below hb)
  clear hb
  have hdm : (ds.map (·.name)).length ≤ 1000 := by rw [List.length_map]; omega
  have HP := Lib.hid HP.out.drew
  have z0 : w1.cell? ⟨g, 0, none⟩ = some (.int .i64 r) := HP.out.cell 0
  have z1 : w1.cell? ⟨g, 1, none⟩ = some (.int .i64 wt) := HP.out.cell 1
  have z2 : w1.cell? ⟨g, 2, none⟩ = some (.int .i64 bk) := HP.out.cell 2
  have z3 : w1.cell? ⟨g, 3, none⟩ = some (.int .i64 cy) := HP.out.cell 3
  have z4 : w1.cell? ⟨g, 4, none⟩ = some (.string key) := HP.out.cell 4
  have z5 : w1.cell? ⟨g, 5, none⟩ = some (.slice Ad ds.length cd) := HP.out.cell 5
  have z6 : w1.cell? ⟨g, 6, none⟩ = some (.slice Ap ps.length cp) := HP.out.cell 6
  have z7 : w1.cell? ⟨g, 7, none⟩ = some (.slice Ac cs.length cc) := HP.out.cell 7
  have z8 : w1.cell? ⟨g, 8, none⟩ = some (.slice Ae es.length ce) := HP.out.cell 8
  have y2 : w1.cell? ⟨b0, off0 + 2, none⟩ = some (.string dv) := word_at HWD.out HP.out.2 rfl
  go_upto_region 12 with fail
  go_region_held3 (fun w' => w'.cell? ⟨g, 0, none⟩ = some (.int .i64 r) ∧ w'.cell? ⟨g, 1, none⟩ = some (.int .i64 wt) ∧ w'.cell? ⟨g, 2, none⟩ = some (.int .i64 bk) ∧ w'.cell? ⟨g, 3, none⟩ = some (.int .i64 cy) ∧ w'.cell? ⟨g, 4, none⟩ = some (.string key) ∧ w'.cell? ⟨g, 5, none⟩ = some (.slice Ad ds.length cd) ∧ w'.cell? ⟨g, 6, none⟩ = some (.slice Ap ps.length cp) ∧ w'.cell? ⟨g, 7, none⟩ = some (.slice Ac cs.length cc) ∧ w'.cell? ⟨g, 8, none⟩ = some (.slice Ae es.length ce) ∧ w'.cell? ⟨b0, off0 + 2, none⟩ = some (.string dv))
    (exact ⟨z0, z1, z2, z3, z4, z5, z6, z7, z8, y2⟩)
    (first
      | (go_at_call 73; refine (devNames_any _ ⟨r, wt, bk, cy, key, ds, ps, cs, es⟩ _ _ _ _ HP.out.1.mat ?_).mono ?_; exact (by simp only; omega); rintro e w6 ⟨v, rfl, hv, hb⟩; obtain ⟨Av, cv, e, hcv, -⟩ := id hv; simp only [List.length_map] at e; subst e; have HV := Lib.hid hv; have HP := Lib.hid (HP.out.below hb); have z0 : w6.cell? ⟨g, 0, none⟩ = some (.int .i64 r) := HP.out.cell 0; have z1 : w6.cell? ⟨g, 1, none⟩ = some (.int .i64 wt) := HP.out.cell 1; have z2 : w6.cell? ⟨g, 2, none⟩ = some (.int .i64 bk) := HP.out.cell 2; have z3 : w6.cell? ⟨g, 3, none⟩ = some (.int .i64 cy) := HP.out.cell 3; have z4 : w6.cell? ⟨g, 4, none⟩ = some (.string key) := HP.out.cell 4; have z5 : w6.cell? ⟨g, 5, none⟩ = some (.slice Ad ds.length cd) := HP.out.cell 5; have z6 : w6.cell? ⟨g, 6, none⟩ = some (.slice Ap ps.length cp) := HP.out.cell 6; have z7 : w6.cell? ⟨g, 7, none⟩ = some (.slice Ac cs.length cc) := HP.out.cell 7; have z8 : w6.cell? ⟨g, 8, none⟩ = some (.slice Ae es.length ce) := HP.out.cell 8; have y2 : w6.cell? ⟨b0, off0 + 2, none⟩ = some (.string dv) := word_at HWD.out HP.out.2 rfl; clear hv hb hcv)
      | (go_at_call 72; refine (pnamed_any _ _ _ _ HV.out hdm dv kd HKD.out HKU.out).mono ?_; rintro e w6 ⟨rfl, rfl⟩))
  clear z0 z1 z2 z3 z4 z5 z6 z7 z8 y2 HV
  have HO := Lib.hid (one_ps ⟨nm, (kd : Int), na, nb, nc, nd⟩)
  have y1 : w6.cell? ⟨b0, off0 + 1, none⟩ = some (.string nm) := word_at HWD.out HP.out.2 rfl
  have z6 : w6.cell? ⟨g, 6, none⟩ = some (.slice Ap ps.length cp) := HP.out.cell 6
  have za : (w6.alloc (.cells #[.string nm, .int .i64 (kd : Int), .int .i64 na, .int .i64 nb, .int .i64 nc, .int .i64 nd] 35)).cell? ⟨g, 6, none⟩ = some (.slice Ap ps.length cp) := (HP.out.1.blk.alloc _).cell 6
  have hwl : W.heap.size ≤ w6.heap.size := HP.out.2.size
  go_upto_region 13 with fail
  go_region_law (first
    | (refine Words.step_append_any (w6.alloc (.cells #[.string nm, .int .i64 (kd : Int), .int .i64 na, .int .i64 nb, .int .i64 nc, .int .i64 nd] 35)).drew (by rfl) (.tmp 98) (.tmp 108) 23 (by rfl) W.heap.size 35 i0 _ 6 56 Try.underlying23 hi0 hz0 hz1 hz2 rfl (by omega) (.slice Ap ps.length cp) ps.length (ps.flatMap Pt.cells) (by rfl) ((HP.out.drew.1.ps).alloc _) (w6.heap.size + 1) (some ⟨w6.heap.size, 0, none⟩) 1 1 (Pt.cells ⟨nm, (kd : Int), na, nb, nc, nd⟩) (by rfl) (reads_ps w6.drew _ rfl ⟨nm, (kd : Int), na, nb, nc, nd⟩ _) HO.out (by simp only [maxLen]; omega) (by omega) (by show W.heap.size ≤ (w6.alloc _).heap.size; simp; omega) ?_; intro v' w2 ho hg _; obtain ⟨Av, cv, rfl⟩ := own_form ho; have HX := Lib.hid (HP.out.drew.app_ps (x := ⟨nm, (kd : Int), na, nb, nc, nd⟩) ho hg); have f5 := HX.out.1.frozen 6; have c5 : w2.cell? ⟨g, 6, none⟩ = some (.slice Ap ps.length cp) := HX.out.1.cell 6; clear ho hg))
  all_goals go_wp2_with fail
  all_goals go_end0
  all_goals exact ⟨_, _, _, _, rfl, by rw [HMM.out]; exact HX.out.2⟩
end Go.Proofs.Ytbpenoelmangkaa
