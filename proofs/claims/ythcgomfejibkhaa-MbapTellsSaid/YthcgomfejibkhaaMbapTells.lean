/-
  MbapTells: any frame's bytes, the first frame of any bytes, and all of them, are the document's. For every frame and row of bytes.
-/
import Derived.Test.YthcgomfejibkhaaMbapRCut
import Derived.Test.YthcgomfejibkhaaMbapRPut
import Derived.Deep.RegionHeldLaw
import Derived.Deep.DrawnRows
import Derived.Lib.SmallJoins
namespace Go.Proofs.Ythcgomfejibkhaa
open Go.RowKit Go.ChangeShapes Go.WideShapes Mbap
attribute [local go_sem ↓] Go.wp_at_zero Go.wp_at_succ

/-- the first frame, or the empty one -/
def fr (l : List UInt8) : Adu := (first l).1.getD ⟨0, 0, []⟩
/-- what a First hands back, whole -/
def FullIs (l : List UInt8) (e : Ending) (w' : World) : Prop := ∃ A c, e = .returned (.tuple #[aduV (fr l) (.slice A (fr l).pdu.length c), .int .i64 ((first l).2.1 : Int), .int .i64 ((first l).2.2 : Int)]) ∧ BytesAt w' (fr l).pdu (.slice A (fr l).pdu.length c)
theorem full_of {l : List UInt8} {B : Nat} {e : Ending} {w' : World} (h : FirstIs B (first l) e w') : FullIs l e w' := by
  obtain ⟨f', v', rfl, h2, h3, h4, h5⟩ := h
  have hf : f' = fr l := by
    unfold fr
    rcases hh : (first l).1 with _ | f0
    · exact (h4 hh).1
    · exact (h5 f0 hh).symm ▸ rfl
  subst hf
  have h2' := h2
  obtain ⟨A, c, rfl, -, -⟩ := h2'
  exact ⟨A, c, rfl, h2⟩
theorem First_full (l : List UInt8) (v : Value) (w : World) (h : BytesAt w l v) (hl : l.length ≤ 9223372036854775807) : Calls Try.prog 10 #[v] w fun e w' => FullIs l e w' ∧ Below w.heap.size w w' :=
  (First_any l v w h hl).mono fun _ _ hh => ⟨full_of hh.1, hh.2⟩
theorem RFirst_full (l : List UInt8) (v : Value) (w : World) (h : BytesAt w l v) (hl : l.length ≤ 9223372036854775807) : Calls Try.prog 12 #[v] w fun e w' => FullIs l e w' ∧ Below w.heap.size w w' :=
  (RFirst_any l v w h hl).mono fun _ _ hh => ⟨full_of hh.1, hh.2⟩
theorem tells_big (f : Adu) (fv : Value) (A : Option Addr) (n c : Nat) (w : World) (hf : BytesAt w f.pdu fv) (h : 20000 < n) :
    Calls Try.prog 4 #[aduV f fv, .slice A n c] w fun e w' => e = .returned (.bool true) ∧ Below w.heap.size w w' := by
  obtain ⟨Af, cf, rfl, -, -⟩ := hf
  unfold aduV
  go_enter Try.func4, Try.ntmps4
  go_wp2_with fail
  refine (head_any _).mono ?_
  rintro e w1 ⟨rfl, hb1⟩
  go_wp2_with fail
  go_ret
  exact ⟨rfl, ((Below.refl _ _).alloc (Nat.le_refl _) _).trans (hb1.mono (by simp))⟩
theorem one_frame {w : World} {f : Adu} {Af : Option Addr} {cf : Nat} (hf : BytesAt w f.pdu (.slice Af f.pdu.length cf)) (hid : f.id < 65536) (hl : f.pdu.length ≤ 9223372036854775807) {g : Nat} (hg : w.heap.size = g) :
    FramesAt (w.alloc (.cells #[.int .u16 f.id, .int .u8 (f.unit.toNat : Int), .slice Af f.pdu.length cf] 26)) [f] (.slice (some ⟨g, 0, none⟩) 1 1) := by
  subst hg
  have h := heap_alloc_new w (.cells #[.int .u16 f.id, .int .u8 (f.unit.toNat : Int), .slice Af f.pdu.length cf] 26)
  refine ⟨[(f, .slice Af f.pdu.length cf)], rfl, ⟨_, 1, rfl, Nat.le_refl _, fun _ => ⟨_, 0, rfl, by simp, fun i x hi d u hu => ?_⟩⟩, fun p hp => ?_⟩
  · rcases i with _ | i
    · simp only [List.getElem?_cons_zero, Option.some.injEq] at hi
      subst hi
      have : (⟨w.heap.size, 0 + 0 * 3 + d, none⟩ : Addr) = ⟨w.heap.size, d, none⟩ := by simp
      rw [this, cell_of_row _ _ _ _ _ _ h]
      simpa using hu
    · simp at hi
  · simp only [List.mem_singleton] at hp
    subst hp
    exact ⟨hf.alloc _, hid, hl⟩
/-- what stands of what came -/
def TInv (f : Adu) (fv : Value) (l : List UInt8) (v : Value) (w W : World) : Prop := Below w.heap.size w W ∧ W.heap[w.heap.size]? = some (.cells #[.int .u16 f.id, .int .u8 (f.unit.toNat : Int), fv] 26 (0, 0)) ∧ BytesAt W f.pdu fv ∧ BytesAt W l v
theorem TInv.below {f : Adu} {fv : Value} {l : List UInt8} {v : Value} {w W W' : World} (h : TInv f fv l v w W) (hb : Below W.heap.size W W') : TInv f fv l v w W' :=
  ⟨h.1.trans (hb.mono h.1.size), (hb.block _ (Array.getElem?_eq_some_iff.1 h.2.1).1).trans h.2.1, LawFrame.RowsAt.below h.2.2.1 hb, LawFrame.RowsAt.below h.2.2.2 hb⟩
theorem TInv.alloc {f : Adu} {fv : Value} {l : List UInt8} {v : Value} {w W : World} (h : TInv f fv l v w W) (o : Obj) : TInv f fv l v w (W.alloc o) := h.below ((Below.refl _ _).alloc (Nat.le_refl _) o)
/-- and of a box -/
def BoxIs (W : World) (g : Nat) (f : Adu) (fv : Value) : Prop := W.heap[g]? = some (.cells #[.int .u16 f.id, .int .u8 (f.unit.toNat : Int), fv] 26 (0, 0)) ∧ BytesAt W f.pdu fv
theorem BoxIs.below {W W' : World} {g : Nat} {f : Adu} {fv : Value} (h : BoxIs W g f fv) (hb : Below W.heap.size W W') : BoxIs W' g f fv := ⟨(hb.block _ (Array.getElem?_eq_some_iff.1 h.1).1).trans h.1, LawFrame.RowsAt.below h.2 hb⟩
theorem BoxIs.new {W : World} {f : Adu} {fv : Value} (h : BytesAt W f.pdu fv) : BoxIs (W.alloc (.cells #[.int .u16 f.id, .int .u8 (f.unit.toNat : Int), fv] 26)) W.heap.size f fv := ⟨heap_alloc_new _ _, BytesAt.alloc h _⟩
theorem tells_keep {W W' : World} {h3 h4 h0 : Nat} {a0 a1 a2 b0 b1 b2 c0 c1 c2 : Value} (l0 : h0 < W.heap.size) (l3 : h3 < W.heap.size) (l4 : h4 < W.heap.size) (hb : Below W.heap.size W W')
    (h : W.cell? ⟨h0, 0, none⟩ = some a0 ∧ W.cell? ⟨h0, 1, none⟩ = some a1 ∧ W.cell? ⟨h0, 2, none⟩ = some a2 ∧ W.cell? ⟨h3, 0, none⟩ = some b0 ∧ W.cell? ⟨h3, 1, none⟩ = some b1 ∧ W.cell? ⟨h3, 2, none⟩ = some b2 ∧ W.cell? ⟨h4, 0, none⟩ = some c0 ∧ W.cell? ⟨h4, 1, none⟩ = some c1 ∧ W.cell? ⟨h4, 2, none⟩ = some c2) :
    W'.cell? ⟨h0, 0, none⟩ = some a0 ∧ W'.cell? ⟨h0, 1, none⟩ = some a1 ∧ W'.cell? ⟨h0, 2, none⟩ = some a2 ∧ W'.cell? ⟨h3, 0, none⟩ = some b0 ∧ W'.cell? ⟨h3, 1, none⟩ = some b1 ∧ W'.cell? ⟨h3, 2, none⟩ = some b2 ∧ W'.cell? ⟨h4, 0, none⟩ = some c0 ∧ W'.cell? ⟨h4, 1, none⟩ = some c1 ∧ W'.cell? ⟨h4, 2, none⟩ = some c2 := by
  have e0 : ∀ o, W'.cell? ⟨h0, o, none⟩ = W.cell? ⟨h0, o, none⟩ := fun o => hb.cell (p := ⟨h0, o, none⟩) l0
  have e3 : ∀ o, W'.cell? ⟨h3, o, none⟩ = W.cell? ⟨h3, o, none⟩ := fun o => hb.cell (p := ⟨h3, o, none⟩) l3
  have e4 : ∀ o, W'.cell? ⟨h4, o, none⟩ = W.cell? ⟨h4, o, none⟩ := fun o => hb.cell (p := ⟨h4, o, none⟩) l4
  rw [e0, e0, e0, e3, e3, e3, e4, e4, e4]
  exact h
set_option maxRecDepth 100000 in
set_option maxHeartbeats 4000000 in
theorem tells_walk (f : Adu) (fv : Value) (l : List UInt8) (v : Value) (w : World) (hf : BytesAt w f.pdu fv) (hid : f.id < 65536) (hfl : f.pdu.length ≤ 9223372036854775807) (hl : BytesAt w l v) (hll : l.length ≤ 20000) :
    Calls Try.prog 4 #[aduV f fv, v] w fun e w' => e = .returned (.bool true) ∧ Below w.heap.size w w' := by
  have hd0 : decide ((20000 : Int) < (l.length : Int)) = false := decide_eq_false (by omega)
  obtain ⟨Af, cf, rfl, -, -⟩ := hf.reads
  obtain ⟨A, c, rfl, hc, -⟩ := hl.reads
  have HT0 := Lib.hid (show TInv f (.slice Af f.pdu.length cf) l (.slice A l.length c) w (w.alloc (.cells #[.int .u16 f.id, .int .u8 (f.unit.toNat : Int), .slice Af f.pdu.length cf] 26)) from ⟨(Below.refl _ _).alloc (Nat.le_refl _) _, heap_alloc_new _ _, BytesAt.alloc hf _, BytesAt.alloc hl _⟩)
  clear hf hl
  unfold aduV
  go_enter Try.func4, Try.ntmps4
  go_wp2_with fail
  refine (head_any _).mono ?_
  rintro e w1 ⟨rfl, hb1⟩
  have HT1 := Lib.hid (HT0.out.below hb1)
  have x0 : w1.cell? ⟨w.heap.size, 0, none⟩ = some (.int .u16 f.id) := cell_of_row _ _ _ _ _ _ HT1.out.2.1
  have x1 : w1.cell? ⟨w.heap.size, 1, none⟩ = some (.int .u8 (f.unit.toNat : Int)) := cell_of_row _ _ _ _ _ _ HT1.out.2.1
  have x2 : w1.cell? ⟨w.heap.size, 2, none⟩ = some (.slice Af f.pdu.length cf) := cell_of_row _ _ _ _ _ _ HT1.out.2.1
  clear HT0 hb1
  go_wp2_with fail
  refine (great_any [f] _ _ (one_frame HT1.out.2.2.1 hid hfl rfl) (by simp)).mono ?_
  rintro e w2 ⟨b, rfl, rfl, hb⟩
  rcases b with _ | _
  rotate_left
  · go_wp2_with fail
    go_ret
    exact ⟨rfl, (HT1.out.alloc _).1⟩
  clear hb x0 x1 x2
  have HT2 := Lib.hid (HT1.out.alloc (.cells #[.int .u16 f.id, .int .u8 (f.unit.toNat : Int), .slice Af f.pdu.length cf] 26))
  clear HT1
  go_wp2_with fail
  refine (First_full l _ _ HT2.out.2.2.2 (by omega)).mono ?_
  rintro e w3 ⟨⟨A3, c3, rfl, hx3⟩, hb3⟩
  have HT3 := Lib.hid ((HT2.out.below hb3).alloc (.cells #[.int .u16 (fr l).id, .int .u8 ((fr l).unit.toNat : Int), .slice A3 (fr l).pdu.length c3] 26))
  have HX3 := Lib.hid (BoxIs.new hx3)
  unfold aduV
  clear HT2 hx3 hb3
  go_wp2_with fail
  refine (RFirst_full l _ _ HT3.out.2.2.2 (by omega)).mono ?_
  rintro e w4 ⟨⟨A4, c4, rfl, hx4⟩, hb4⟩
  have HT4 := Lib.hid ((HT3.out.below hb4).alloc (.cells #[.int .u16 (fr l).id, .int .u8 ((fr l).unit.toNat : Int), .slice A4 (fr l).pdu.length c4] 26))
  have HX4 := Lib.hid ((HX3.out.below hb4).below ((Below.refl _ _).alloc (Nat.le_refl _) (.cells #[.int .u16 (fr l).id, .int .u8 ((fr l).unit.toNat : Int), .slice A4 (fr l).pdu.length c4] 26)))
  have HY4 := Lib.hid (BoxIs.new hx4)
  unfold aduV
  clear HT3 HX3 hx4 hb4
  go_wp2_with fail
  refine (Cut_any l _ _ HT4.out.2.2.2 (by omega)).mono ?_
  rintro e w5 ⟨⟨A5, c5, rfl, hF5, -⟩, hb5⟩
  have HT5 := Lib.hid (HT4.out.below hb5)
  have HX5 := Lib.hid (HX4.out.below hb5)
  have HY5 := Lib.hid (HY4.out.below hb5)
  have HF5 := Lib.hid hF5
  clear HT4 HX4 HY4 hb5 hF5
  go_wp2_with fail
  refine (RCut_any l _ _ HT5.out.2.2.2 (by omega)).mono ?_
  rintro e w6 ⟨⟨A6, c6, rfl, hG6⟩, hb6⟩
  have HT6 := Lib.hid (HT5.out.below hb6)
  have HX6 := Lib.hid (HX5.out.below hb6)
  have HY6 := Lib.hid (HY5.out.below hb6)
  have HF6 := Lib.hid (HF5.out.below hb6)
  have HG6 := Lib.hid hG6
  have hcl : (cut l).1.length ≤ 1000000 := by have := cut_count l; have := (cut_le l).1; omega
  clear HT5 HX5 HY5 HF5 hb6 hG6
  generalize (cut l).1 = fs at *
  generalize (cut l).2.1 = cn at *
  generalize (cut l).2.2 = ce at *
  generalize (first l).2.1 = fn at *
  generalize (first l).2.2 = fe at *
  generalize fr l = x at *
  go_upto_region 8 with fail
  have HS := Lib.hid (show w6.cell? ⟨w.heap.size, 0, none⟩ = some (.int .u16 f.id) ∧ w6.cell? ⟨w.heap.size, 1, none⟩ = some (.int .u8 (f.unit.toNat : Int)) ∧ w6.cell? ⟨w.heap.size, 2, none⟩ = some (.slice Af f.pdu.length cf) ∧ w6.cell? ⟨w3.heap.size, 0, none⟩ = some (.int .u16 x.id) ∧ w6.cell? ⟨w3.heap.size, 1, none⟩ = some (.int .u8 (x.unit.toNat : Int)) ∧ w6.cell? ⟨w3.heap.size, 2, none⟩ = some (.slice A3 x.pdu.length c3) ∧ w6.cell? ⟨w4.heap.size, 0, none⟩ = some (.int .u16 x.id) ∧ w6.cell? ⟨w4.heap.size, 1, none⟩ = some (.int .u8 (x.unit.toNat : Int)) ∧ w6.cell? ⟨w4.heap.size, 2, none⟩ = some (.slice A4 x.pdu.length c4) from ⟨cell_of_row _ _ _ _ _ _ HT6.out.2.1, cell_of_row _ _ _ _ _ _ HT6.out.2.1, cell_of_row _ _ _ _ _ _ HT6.out.2.1, cell_of_row _ _ _ _ _ _ HX6.out.1, cell_of_row _ _ _ _ _ _ HX6.out.1, cell_of_row _ _ _ _ _ _ HX6.out.1, cell_of_row _ _ _ _ _ _ HY6.out.1, cell_of_row _ _ _ _ _ _ HY6.out.1, cell_of_row _ _ _ _ _ _ HY6.out.1⟩)
  have HH0 := Lib.hid (Array.getElem?_eq_some_iff.1 HT6.out.2.1).1
  have HH3 := Lib.hid (Array.getElem?_eq_some_iff.1 HX6.out.1).1
  have HH4 := Lib.hid (Array.getElem?_eq_some_iff.1 HY6.out.1).1
  obtain ⟨z0, z1, z2, z3, z4, z5, z6, z7, z8⟩ := HS.out
  go_region_held_law (fun w' => w'.cell? ⟨w.heap.size, 0, none⟩ = some (.int .u16 f.id) ∧ w'.cell? ⟨w.heap.size, 1, none⟩ = some (.int .u8 (f.unit.toNat : Int)) ∧ w'.cell? ⟨w.heap.size, 2, none⟩ = some (.slice Af f.pdu.length cf) ∧ w'.cell? ⟨w3.heap.size, 0, none⟩ = some (.int .u16 x.id) ∧ w'.cell? ⟨w3.heap.size, 1, none⟩ = some (.int .u8 (x.unit.toNat : Int)) ∧ w'.cell? ⟨w3.heap.size, 2, none⟩ = some (.slice A3 x.pdu.length c3) ∧ w'.cell? ⟨w4.heap.size, 0, none⟩ = some (.int .u16 x.id) ∧ w'.cell? ⟨w4.heap.size, 1, none⟩ = some (.int .u8 (x.unit.toNat : Int)) ∧ w'.cell? ⟨w4.heap.size, 2, none⟩ = some (.slice A4 x.pdu.length c4)) (first | exact HS.out | exact tells_keep HH0.out HH3.out HH4.out HBD.out HS.out | exact tells_keep HH0.out HH3.out HH4.out HBC.out HS.out | exact tells_keep HH0.out HH3.out HH4.out HBB.out HS.out | exact tells_keep HH0.out HH3.out HH4.out HBA.out HS.out) (first
      | (go_at_call 15; refine (Put_any f (.slice Af f.pdu.length cf) _ (by exact HT6.out.2.2.1) hid hfl).mono ?_; rintro e wa ⟨⟨va, rfl, hva⟩, hba⟩; have HBA := Lib.hid (show Below w6.heap.size w6 wa from ⟨hba.os, hba.tape, hba.output, hba.size, hba.block⟩); have hsa := hva.string; have HVA := Lib.hid hva; obtain ⟨a0, a1, a2, a3, a4, a5, a6, a7, a8⟩ := tells_keep HH0.out HH3.out HH4.out HBA.out HS.out; clear hva hba)
      | (go_at_call 16; refine (RPut_own f (.slice Af f.pdu.length cf) _ (by exact LawFrame.RowsAt.below HT6.out.2.2.1 HBA.out) hid hfl).mono ?_; rintro e wb ⟨⟨vb, rfl, hvb, -⟩, hbb⟩; have HBB := Lib.hid (HBA.out.trans (hbb.mono HBA.out.size)); have hsb := hvb.string; have hsa2 := BytesAt.string (LawFrame.RowsAt.below HVA.out hbb); obtain ⟨b0, b1, b2, b3, b4, b5, b6, b7, b8⟩ := tells_keep HH0.out HH3.out HH4.out HBB.out HS.out; clear hvb hbb)
      | (go_at_call 17; refine (Same_true x (.slice A3 x.pdu.length c3) (.slice A4 x.pdu.length c4) _ (by exact LawFrame.RowsAt.below HX6.out.2 HBB.out) (by exact LawFrame.RowsAt.below HY6.out.2 HBB.out)).mono ?_; rintro e wc ⟨rfl, hbc⟩; have HBC := Lib.hid (HBB.out.trans (hbc.mono HBB.out.size)); clear hbc)
      | (go_at_call 18; refine (SameAll_true fs (.slice A5 fs.length c5) (.slice A6 fs.length c6) _ (by exact HF6.out.below HBC.out) (by exact HG6.out.below HBC.out) hcl).mono ?_; rintro e wd ⟨rfl, hbd⟩; have HBD := Lib.hid (HBC.out.trans (hbd.mono HBC.out.size)); clear hbd))
  all_goals
   go_wp2_with fail
   go_ret
   exact ⟨rfl, HT6.out.1.trans (HBD.out.mono HT6.out.1.size)⟩
set_option maxRecDepth 100000 in
theorem mbapTells_lifted (os : Os) (started : os.Started) (H : Type) (enc : TypeId × Value → H) :
    ReturnsInHanded {} Try.checked os 4 .any (Rows.mbapTellsSpec.pre6 enc Try.prog Try.f4 Rows.mbapTellsRow.domain false) (Rows.mbapTellsSpec.post enc Try.prog Try.f4 false true false false) := by
  refine LawFrame.handed (C := Try.checked) (tb := 4) (by kernel_rfl) (by kernel_rfl) (by kernel_rfl) Try.underlying4 rfl (fun ds hd => ?_) own started (by kernel_rfl) Try.func4
    (ChangeSpec.witness6 (enc := enc) (C := Try.checked) false ⟨#[], #[.agg #[.int .u16 0, .int .u8 0, .slice none 0 0], .slice none 0 0], []⟩ 8 (by kernel_rfl) (by kernel_rfl) (by kernel_rfl) (by kernel_rfl)) ?_
  · rw [Try.params4] at hd
    match ds, hd with
    | [d1, d2], _ => rfl
  · intro W args ds before base hval hA hlt hsz
    rw [Try.params4] at hval hA
    obtain ⟨v0, vs0, d0, ds0, p0, q0, hargs, rfl, rfl, h0, r0⟩ := trodAll_cons hA
    obtain ⟨v1, vs1, d1, ds1, p1, q1, rfl, rfl, rfl, h1, r1⟩ := trodAll_cons r0
    obtain ⟨rfl, rfl, rfl⟩ := trodAll_nil r1
    obtain rfl : args = #[v0, v1] := by cases args; simp_all
    obtain ⟨l, hl, _⟩ := LawFrame.open_bytes Try.underlying22 Try.underlying5 (by kernel_rfl) (hval 1 22 v1 rfl rfl) h1
    obtain ⟨a0, a1, a2, y0, y1, y2, n, rfl, -, -, t0, t1, t2⟩ := Joins.open_agg3 Try.underlying26 (by kernel_rfl) (by kernel_rfl) (hval 0 26 v0 rfl rfl) h0
    obtain ⟨b0, hb0, _, hw0⟩ := DataW.trod_int Try.underlying24 t0
    obtain ⟨b1, hb1, _, hw1⟩ := DataW.trod_int Try.underlying5 t1
    obtain ⟨m, hm, hmm⟩ := LawFrame.open_bytes_at Try.underlying22 Try.underlying5 (by kernel_rfl) t2
    simp only [List.cons.injEq, and_true] at hb0 hb1
    obtain ⟨h00, h01⟩ := bounds_u16 hw0
    obtain ⟨h10, h11⟩ := bounds_u8 hw1
    have e0 : ((b0.toNat : Nat) : Int) = b0 := by omega
    have e1 : (((UInt8.ofNat b1.toNat).toNat : Nat) : Int) = b1 := by rw [UInt8.toNat_ofNat']; omega
    rw [hb0, hb1, ← e0, ← e1]
    by_cases h5 : 20000 < l.length
    · obtain ⟨A, c, rfl, hc, -⟩ := hl
      exact tells_big ⟨b0.toNat, UInt8.ofNat b1.toNat, m⟩ a2 A _ c W hm h5
    · exact tells_walk ⟨b0.toNat, UInt8.ofNat b1.toNat, m⟩ a2 l v1 W hm (by dsimp only; omega) hmm hl (by omega)
theorem mbapTells_holds : Rows.MbapTellsSaid :=
  OpenClaim.holds_of_wide 4 Try.f4 rfl rfl rfl rfl rfl rfl rfl ⟨rfl, rfl, rfl, rfl, rfl⟩ rfl rfl rfl rfl rfl (by kernel_rfl) Try.func4 (by kernel_rfl)
    (of_decide_eq_true (by kernel_rfl)) (by unfold Func.isWrapper; first | (rw [if_pos (by decide +kernel)]; kernel_rfl) | (rw [if_neg (by decide +kernel)]; exact ⟨rfl, rfl⟩))
    (fun os started H enc _ => mbapTells_lifted os started H enc)
#print axioms mbapTells_holds

end Go.Proofs.Ythcgomfejibkhaa
