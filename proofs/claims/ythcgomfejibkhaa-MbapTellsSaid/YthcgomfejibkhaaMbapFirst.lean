/-
  THE WALK of mbap.First.
-/
import Derived.Test.YthcgomfejibkhaaRows
import Derived.Test.YthcgomfejibkhaaMbapPlain
import Derived.Test.YthcgomfejibkhaaArgs
import Derived.Handy
import Derived.WalkLawsBesides
import Derived.WalkSpells
import Derived.Lib.Hide
import Derived.Deep.QuietTactic
import Derived.BigQuiet
import Derived.Laws.CopyOwn
import Derived.Deep.DeepCutAuto
import Derived.Deep.RegionHeld3
namespace Go.Proofs.Ythcgomfejibkhaa
open Go.RowKit Mbap

abbrev byteV (x : UInt8) : List Value := [.int .u8 (x.toNat : Int)]
abbrev BytesAt (w : World) (l : List UInt8) (v : Value) : Prop := LawFrame.RowsAt w 1 byteV l v
theorem BytesAt.byte {w : World} {l : List UInt8} {v : Value} (h : BytesAt w l v) {i : Nat} (hi : i < l.length) : ∃ g off c, v = .slice (some ⟨g, off, none⟩) l.length c ∧ g < w.heap.size ∧ ∀ i, i < l.length → w.cell? ⟨g, off + i, none⟩ = some (.int .u8 (at_ l i : Int)) := by
  obtain ⟨A, c, hv, hc, hm⟩ := h
  obtain ⟨g, off, rfl, hg, hcell⟩ := hm (by intro e; subst e; simp at hi)
  refine ⟨g, off, c, hv, hg, fun i hi => ?_⟩
  have := hcell i l[i] (List.getElem?_eq_getElem hi) 0 _ rfl
  simpa [at_, List.getD_eq_getElem?_getD, hi] using this
/-- the frame's value -/
def aduV (f : Adu) (v : Value) : Value := .agg #[.int .u16 f.id, .int .u8 (f.unit.toNat : Int), v]
/-- a slice's block lies from B on, and holds elements of type e -/
def Kind (B : Nat) (e : TypeId) (w : World) (v : Value) : Prop := ∀ g, v.ownBlock = some g → B ≤ g ∧ ∃ cs, w.heap[g]? = some (.cells cs e (0, 0))
theorem Kind.nil (B : Nat) (e : TypeId) (w : World) : Kind B e w (.slice none 0 0) := fun g h => by simp [Value.ownBlock] at h
/-- what First hands back -/
def FirstIs (B : Nat) (r : Option Adu × Nat × Nat) (e : Ending) (w' : World) : Prop :=
  ∃ f v, e = .returned (.tuple #[aduV f v, .int .i64 (r.2.1 : Int), .int .i64 (r.2.2 : Int)]) ∧ BytesAt w' f.pdu v ∧ Kind B 5 w' v ∧ (r.1 = none → f = ⟨0, 0, []⟩ ∧ v = .slice none 0 0) ∧ (∀ f', r.1 = some f' → f = f')

/-- the block of a frame -/
def Blk (w : World) (g : Nat) (cs : Array Value) : Prop := w.heap[g]? = some (.cells cs 26 (0, 0))
theorem Blk.set {w : World} {g : Nat} {cs : Array Value} (h : Blk w g cs) (j : Nat) (u : Value) : Blk (w.setCell ⟨g, j, none⟩ u) g (cs.setIfInBounds j u) := heap_setCell_same _ _ _ _ _ _ h
theorem Blk.cell {w : World} {g : Nat} {cs : Array Value} (h : Blk w g cs) (j : Nat) : w.cell? ⟨g, j, none⟩ = cs[j]? := cell_of_row _ _ _ _ _ _ h
/-- what stands of the result's own block -/
def FInv (w wx : World) : Prop := Blk wx w.heap.size #[.int .u16 0, .int .u8 0, .slice none 0 0] ∧ Below w.heap.size w wx
theorem FInv.drewN {w wx : World} (h : FInv w wx) (n : Nat) : FInv w (wx.drewN n) := ⟨h.1, ⟨h.2.os, h.2.tape, h.2.output, h.2.size, h.2.block⟩⟩
theorem val_int {k : IntKind} {a b : Int} (h : a = b) : Value.int k a = Value.int k b := by rw [h]
theorem or_bytes {a b : Nat} (ha : a < 256) (hb : b < 256) : bits BinOp.or .i64 ((a : Int) * 256) (b : Int) = ((a * 256 + b : Nat) : Int) := by
  have e : ((a : Int) * 256) = ((a * 256 : Nat) : Int) := by omega
  have h1 : (BitVec.ofInt 64 ((a * 256 : Nat) : Int)).toNat = a * 256 := by rw [BitVec.ofInt_natCast, BitVec.toNat_ofNat]; exact Nat.mod_eq_of_lt (by omega)
  have h2 : (BitVec.ofInt 64 ((b : Nat) : Int)).toNat = b := by rw [BitVec.ofInt_natCast, BitVec.toNat_ofNat]; exact Nat.mod_eq_of_lt (by omega)
  have h3 : a * 256 ||| b = a * 256 + b := by rw [Nat.mul_comm]; exact (Nat.two_pow_add_eq_or_of_lt (i := 8) hb a).symm
  rw [e]
  show IntKind.i64.wrap ((BitVec.ofInt 64 ((a * 256 : Nat) : Int) ||| BitVec.ofInt 64 ((b : Nat) : Int)).toNat : Int) = _
  rw [BitVec.toNat_or, h1, h2, h3, IntKind.wrap_i64]
  omega
theorem or_bytes16 {a b : Nat} (ha : a < 256) (hb : b < 256) : bits BinOp.or .u16 (IntKind.u16.wrap (IntKind.u16.wrap (a : Int) * 256)) (IntKind.u16.wrap (b : Int)) = ((a * 256 + b : Nat) : Int) := by
  have e1 : IntKind.u16.wrap (a : Int) = (a : Int) := by rw [IntKind.wrap_u16]; omega
  have e2 : IntKind.u16.wrap ((a : Int) * 256) = ((a * 256 : Nat) : Int) := by rw [IntKind.wrap_u16]; omega
  have e3 : IntKind.u16.wrap (b : Int) = (b : Int) := by rw [IntKind.wrap_u16]; omega
  rw [e1, e2, e3]
  have h1 : (BitVec.ofInt 16 ((a * 256 : Nat) : Int)).toNat = a * 256 := by rw [BitVec.ofInt_natCast, BitVec.toNat_ofNat]; exact Nat.mod_eq_of_lt (by omega)
  have h2 : (BitVec.ofInt 16 ((b : Nat) : Int)).toNat = b := by rw [BitVec.ofInt_natCast, BitVec.toNat_ofNat]; exact Nat.mod_eq_of_lt (by omega)
  have h3 : a * 256 ||| b = a * 256 + b := by rw [Nat.mul_comm]; exact (Nat.two_pow_add_eq_or_of_lt (i := 8) hb a).symm
  show IntKind.u16.wrap ((BitVec.ofInt 16 ((a * 256 : Nat) : Int) ||| BitVec.ofInt 16 ((b : Nat) : Int)).toNat : Int) = _
  rw [BitVec.toNat_or, h1, h2, h3, IntKind.wrap_u16]
  omega
theorem First_short (l : List UInt8) (v : Value) (w : World) (h : BytesAt w l v) (hl : l.length ≤ 2) : Calls Try.prog 10 #[v] w fun e w' => FirstIs w.heap.size (none, 0, 0) e w' ∧ Below w.heap.size w w' := by
  obtain ⟨A, c, rfl, hc, -⟩ := h
  go_enter Try.func10, Try.ntmps10
  go_wp2_with fail
  go_returns
  exact ⟨⟨⟨0, 0, []⟩, .slice none 0 0, rfl, LawFrame.RowsAt.nil _ _ _, Kind.nil _ _ _, fun _ => ⟨rfl, rfl⟩, fun f' h => by cases h⟩, by go_grown⟩
theorem u8_info : (Try.prog.info? 5).map (fun i => (i.zero, i.size, i.bytes)) = some (some (.int .u8 0), 1, 1) := by kernel_rfl
/-- a row of bytes that was just made: its block, whole -/
theorem made_block {w : World} {g n : Nat} {z : Value} {base : Nat} (hz : z.cells = #[z]) (h : w.ownsRow base 5 1 (.slice (some ⟨g, 0, none⟩) n n) n (madeCells z.cells (n * 1)).toList) : w.heap[g]? = some (.cells (List.replicate n z).toArray 5 (0, 0)) := by
  rcases h.2 with ⟨e, _⟩ | ⟨g', cap, cur, e, _, hg, _, _, hs, ht⟩
  · cases e
  · injection e with e1 e2 e3
    injection e1 with e1
    injection e1 with e1 _ _
    subst e1 e3
    rw [List.take_of_length_le (by simpa using Nat.le_of_eq hs), hz, Nat.mul_one, toList_madeCells_one] at ht
    rw [hg, ← ht]
/-- the bytes of a frame, out of what came -/
theorem pdu_cells {w : World} {l : List UInt8} {g off n : Nat} (h : ∀ i, i < l.length → w.cell? ⟨g, off + i, none⟩ = some (.int .u8 (at_ l i : Int))) :
    ∀ j v, (((l.drop 7).take n).map fun x => Value.int .u8 (x.toNat : Int))[j]? = some v → w.cell? ((⟨g, off + 7, none⟩ : Addr).add j) = some v := by
  intro j v hv
  rw [List.getElem?_map, Option.map_eq_some_iff] at hv
  obtain ⟨x, hx, rfl⟩ := hv
  rw [List.getElem?_take] at hx
  split at hx
  · rw [List.getElem?_drop] at hx
    obtain ⟨hlt, hxe⟩ := List.getElem?_eq_some_iff.1 hx
    have := h (7 + j) hlt
    rw [Go.WideShapes.add_plain]
    rw [Nat.add_assoc, this]
    simp [at_, List.getD_eq_getElem?_getD, hx]
  · cases hx
theorem below_drew {B : Nat} {a w : World} (h : Below B a w) : Below B a w.drew := ⟨h.os, h.tape, h.output, h.size, h.block⟩
theorem splice_all {n : Nat} {z : Value} {cs : List Value} (h : cs.length = n) : splice (List.replicate n z) 0 cs = cs := by
  subst h; simp [splice]
/-- the end, where the frame is there -/
theorem first_fits {l : List UInt8} {B g : Nat} {w' : World} (hB : B ≤ g) (n1 : ¬ many l < 2) (n2 : ¬ 254 < many l) (n3 : ¬ l.length < 6 + many l) (hbar : barred l = false)
    (hM : w'.heap[g]? = some (.cells (splice (List.replicate (many l - 1) (.int .u8 0)) 0 (((l.drop 7).take (many l - 1)).map fun x => Value.int .u8 (x.toNat : Int))).toArray 5 (0, 0))) :
    FirstIs B (first l) (.returned (.tuple #[.agg #[.int .u16 ((at_ l 0 : Int) * 256 + (at_ l 1 : Int)), .int .u8 (at_ l 6 : Int), .slice (some ⟨g, 0, none⟩) (many l - 1) (many l - 1)], .int .i64 (6 + (many l : Int)), .int .i64 0])) w'.drew := by
  have hlen : ((l.drop 7).take (many l - 1)).length = many l - 1 := by simp; omega
  have hR : first l = (some ⟨at_ l 0 * 256 + at_ l 1, l.getD 6 0, (l.drop 7).take (many l - 1)⟩, 6 + many l, 0) := by
    simp only [first, hbar, Bool.false_eq_true, if_false, n3]
    rw [if_neg (by omega), if_neg (by omega)]
  rw [hR]
  rw [splice_all (by rw [List.length_map, hlen])] at hM
  refine ⟨⟨at_ l 0 * 256 + at_ l 1, l.getD 6 0, (l.drop 7).take (many l - 1)⟩, .slice (some ⟨g, 0, none⟩) (many l - 1) (many l - 1), ?_, ?_, fun k hk => by (simp only [Value.ownBlock, Option.some.injEq] at hk; subst hk; exact ⟨hB, _, hM⟩), fun h => by (cases h), fun f' h => by (cases h; rfl)⟩
  · simp only [aduV, at_, Int.natCast_add, Int.natCast_mul]; rfl
  · refine ⟨some ⟨g, 0, none⟩, many l - 1, by rw [hlen], by rw [hlen]; exact Nat.le_refl _, fun hne => ⟨g, 0, rfl, (Array.getElem?_eq_some_iff.1 hM).1, fun i x hx d u hu => ?_⟩⟩
    rcases d with _ | d
    · simp only [byteV, List.getElem?_cons_zero, Option.some.injEq] at hu
      subst hu
      have hc := cell_of_row w' g i _ _ _ hM
      have : (⟨g, 0 + i * 1 + 0, none⟩ : Addr) = ⟨g, i, none⟩ := by simp
      rw [this]
      show w'.cell? _ = _
      rw [hc, List.getElem?_toArray, List.getElem?_map, hx]
      rfl
    · simp [byteV] at hu
set_option maxHeartbeats 1000000 in
theorem First_six (l : List UInt8) (g off c : Nat) (w : World) (h : ∀ i, i < l.length → w.cell? ⟨g, off + i, none⟩ = some (.int .u8 (at_ l i : Int))) (hg : g < w.heap.size) (hl : 6 ≤ l.length) (hl2 : l.length ≤ 9223372036854775807) (hc : l.length ≤ c) (h2 : at_ l 2 = 0) (h3 : at_ l 3 = 0) :
    Calls Try.prog 10 #[.slice (some ⟨g, off, none⟩) l.length c] w fun e w' => FirstIs w.heap.size (first l) e w' ∧ Below w.heap.size w w' := by
  have c2 := h 2 (by omega)
  have c3 := h 3 (by omega)
  have c4 := h 4 (by omega)
  have c5 := h 5 (by omega)
  rw [h2] at c2
  rw [h3] at c3
  have l4 := at_lt l 4
  have l5 := at_lt l 5
  have H := Lib.hid h
  have HH2 := Lib.hid h2
  have HH3 := Lib.hid h3
  clear h h2 h3
  go_enter Try.func10, Try.ntmps10
  go_upto_region 5 with fail
  have hb0 : Below w.heap.size w (w.alloc (.cells #[.int .u16 0, .int .u8 0, .slice none 0 0] 26)) := by go_grown
  have hz0 : Blk (w.alloc (.cells #[.int .u16 0, .int .u8 0, .slice none 0 0] 26)) w.heap.size #[.int .u16 0, .int .u8 0, .slice none 0 0] := heap_alloc_new w _
  generalize w.alloc (.cells #[.int .u16 0, .int .u8 0, .slice none 0 0] 26) = w0 at *
  have d4 := (hb0.cell (p := ⟨g, off + 4, none⟩) hg).trans c4
  have d5 := (hb0.cell (p := ⟨g, off + 5, none⟩) hg).trans c5
  have hf0 : FInv w w0 := ⟨hz0, hb0⟩
  have HF := Lib.hid hf0
  clear hz0 hb0 hf0 c2 c3 c4 c5
  go_cut [5] (fun s5 wx => s5 = .int .i64 (many l : Int) ∧ FInv w wx)
  case first =>
    go_quiet (fail)
    go_wp2_with fail
    go_meet
    exact ⟨val_int (or_bytes l4 l5), HF.out.drewN _⟩
  case rest =>
    obtain ⟨rfl, hF⟩ := hcut
    have HF1 := Lib.hid hF
    clear hF HF d4 d5
    have hn : many l ≤ 65535 := by unfold many; omega
    have z0 : wc.cell? ⟨w.heap.size, 0, none⟩ = some (.int .u16 0) := cell_of_row _ _ _ _ _ _ HF1.out.1
    have z1 : wc.cell? ⟨w.heap.size, 1, none⟩ = some (.int .u8 0) := cell_of_row _ _ _ _ _ _ HF1.out.1
    have z2 : wc.cell? ⟨w.heap.size, 2, none⟩ = some (.slice none 0 0) := cell_of_row _ _ _ _ _ _ HF1.out.1
    have y0 : wc.frozen? ⟨w.heap.size, 0, none⟩ = false := frozen_of_row _ _ _ _ _ HF1.out.1
    have y1 : wc.frozen? ⟨w.heap.size, 1, none⟩ = false := frozen_of_row _ _ _ _ _ HF1.out.1
    have y2 : wc.frozen? ⟨w.heap.size, 2, none⟩ = false := frozen_of_row _ _ _ _ _ HF1.out.1
    have hbar : barred l = false := by simp [barred, HH2.out, HH3.out]
    have HBAR := Lib.hid hbar
    clear hbar
    by_cases n1 : many l < 2
    · have HR := Lib.hid (show first l = (none, 0, 31) by simp [first, HBAR.out, n1]; omega)
      go_wp2_with fail
      have hB := ((HF1.out.1.set 0 (.int .u16 0)).set 1 (.int .u8 0)).set 2 (.slice none 0 0)
      have hb := ((HF1.out.2.setCell (p := ⟨w.heap.size, 0, none⟩) (Nat.le_refl _) (.int .u16 0)).setCell (p := ⟨w.heap.size, 1, none⟩) (Nat.le_refl _) (.int .u8 0)).setCell (p := ⟨w.heap.size, 2, none⟩) (Nat.le_refl _) (.slice none 0 0)
      clear z0 z1 z2 y0 y1 y2 HF1
      generalize ((wc.setCell ⟨w.heap.size, 0, none⟩ (.int .u16 0)).setCell ⟨w.heap.size, 1, none⟩ (.int .u8 0)).setCell ⟨w.heap.size, 2, none⟩ (.slice none 0 0) = wd at *
      have z0 : wd.cell? ⟨w.heap.size, 0, none⟩ = some (.int .u16 0) := hB.cell 0
      have z1 : wd.cell? ⟨w.heap.size, 1, none⟩ = some (.int .u8 0) := hB.cell 1
      have z2 : wd.cell? ⟨w.heap.size, 2, none⟩ = some (.slice none 0 0) := hB.cell 2
      refine bodyPost_ret (v := .tuple #[.agg #[.int .u16 0, .int .u8 0, .slice none 0 0], .int .i64 0, .int .i64 31]) (by simp [results, Try.results10, go_sem, z0, z1, z2]) rfl ⟨⟨⟨0, 0, []⟩, .slice none 0 0, by rw [HR.out]; rfl, LawFrame.RowsAt.nil _ _ _, Kind.nil _ _ _, fun _ => ⟨rfl, rfl⟩, by rw [HR.out]; intro f' h; cases h⟩, hb⟩
    · by_cases n2 : 254 < many l
      · have HR := Lib.hid (show first l = (none, 0, 31) by simp [first, HBAR.out, n2]; omega)
        go_wp2_with fail
        have hB := ((HF1.out.1.set 0 (.int .u16 0)).set 1 (.int .u8 0)).set 2 (.slice none 0 0)
        have hb := ((HF1.out.2.setCell (p := ⟨w.heap.size, 0, none⟩) (Nat.le_refl _) (.int .u16 0)).setCell (p := ⟨w.heap.size, 1, none⟩) (Nat.le_refl _) (.int .u8 0)).setCell (p := ⟨w.heap.size, 2, none⟩) (Nat.le_refl _) (.slice none 0 0)
        clear z0 z1 z2 y0 y1 y2 HF1
        generalize ((wc.setCell ⟨w.heap.size, 0, none⟩ (.int .u16 0)).setCell ⟨w.heap.size, 1, none⟩ (.int .u8 0)).setCell ⟨w.heap.size, 2, none⟩ (.slice none 0 0) = wd at *
        have z0 : wd.cell? ⟨w.heap.size, 0, none⟩ = some (.int .u16 0) := hB.cell 0
        have z1 : wd.cell? ⟨w.heap.size, 1, none⟩ = some (.int .u8 0) := hB.cell 1
        have z2 : wd.cell? ⟨w.heap.size, 2, none⟩ = some (.slice none 0 0) := hB.cell 2
        refine bodyPost_ret (v := .tuple #[.agg #[.int .u16 0, .int .u8 0, .slice none 0 0], .int .i64 0, .int .i64 31]) (by simp [results, Try.results10, go_sem, z0, z1, z2]) rfl ⟨⟨⟨0, 0, []⟩, .slice none 0 0, by rw [HR.out]; rfl, LawFrame.RowsAt.nil _ _ _, Kind.nil _ _ _, fun _ => ⟨rfl, rfl⟩, by rw [HR.out]; intro f' h; cases h⟩, hb⟩
      · by_cases n3 : l.length < 6 + many l
        · have HR := Lib.hid (show first l = (none, 0, 0) by simp [first, HBAR.out, n1, n2, n3])
          go_wp2_with fail
          have hB := ((HF1.out.1.set 0 (.int .u16 0)).set 1 (.int .u8 0)).set 2 (.slice none 0 0)
          have hb := ((HF1.out.2.setCell (p := ⟨w.heap.size, 0, none⟩) (Nat.le_refl _) (.int .u16 0)).setCell (p := ⟨w.heap.size, 1, none⟩) (Nat.le_refl _) (.int .u8 0)).setCell (p := ⟨w.heap.size, 2, none⟩) (Nat.le_refl _) (.slice none 0 0)
          clear z0 z1 z2 y0 y1 y2 HF1
          generalize ((wc.setCell ⟨w.heap.size, 0, none⟩ (.int .u16 0)).setCell ⟨w.heap.size, 1, none⟩ (.int .u8 0)).setCell ⟨w.heap.size, 2, none⟩ (.slice none 0 0) = wd at *
          have z0 : wd.cell? ⟨w.heap.size, 0, none⟩ = some (.int .u16 0) := hB.cell 0
          have z1 : wd.cell? ⟨w.heap.size, 1, none⟩ = some (.int .u8 0) := hB.cell 1
          have z2 : wd.cell? ⟨w.heap.size, 2, none⟩ = some (.slice none 0 0) := hB.cell 2
          refine bodyPost_ret (v := .tuple #[.agg #[.int .u16 0, .int .u8 0, .slice none 0 0], .int .i64 0, .int .i64 0]) (by simp [results, Try.results10, go_sem, z0, z1, z2]) rfl ⟨⟨⟨0, 0, []⟩, .slice none 0 0, by rw [HR.out]; rfl, LawFrame.RowsAt.nil _ _ _, Kind.nil _ _ _, fun _ => ⟨rfl, rfl⟩, by rw [HR.out]; intro f' h; cases h⟩, hb⟩
        · obtain ⟨i0, hi0, hz0, hz1, hz2⟩ := info_parts u8_info
          have hc7 : ¬ c = 7 := by omega
          have hm : ((many l : Int) - 1) = ((many l - 1 : Nat) : Int) := by omega
          have HM := Lib.hid hm
          clear hm
          have hpl : ((l.drop 7).take (many l - 1)).length = many l - 1 := by simp; omega
          have HPL := Lib.hid (show (((l.drop 7).take (many l - 1)).map fun x => Value.int .u8 (x.toNat : Int)).length = Nat.min (l.length - 7) (many l - 1) by rw [List.length_map, hpl]; exact (Nat.min_eq_right (by omega)).symm)
          have HFT := Lib.hid (show 0 + (((l.drop 7).take (many l - 1)).map fun x => Value.int .u8 (x.toNat : Int)).length ≤ (List.replicate (many l - 1) (Value.int .u8 0)).length by rw [List.length_map, hpl, List.length_replicate]; omega)
          have HONE := Lib.hid (show ∀ v ∈ (((l.drop 7).take (many l - 1)).map fun x => Value.int .u8 (x.toNat : Int)), v.oneCell' = true by intro v hv; obtain ⟨x, -, rfl⟩ := List.mem_map.1 hv; rfl)
          clear hpl
          go_wp2_with (first | (at_make; refine wpList_make_full _ rfl (.tmp 57) (.tmp 57) 22 rfl wc.heap.size 5 i0 _ 1 Try.underlying22 hi0 hz0 hz1 .i64 .i64 _ _ (many l - 1) rfl rfl HM.out HM.out (by rw [hz2]; omega) (by simp only [maxLen]; omega) (Nat.le_refl _) ?_; intro w4 hO4 hg4; have hM4 := Lib.hid (made_block rfl hO4); have hb4 : Below wc.heap.size wc w4 := Below.grown (Below.refl _ _) hg4 (Nat.le_refl _) (fun k hk => by cases hk); clear hO4 hg4; have HS := Lib.hid (pdu_cells (n := many l - 1) (fun i hi => (hb4.cell (p := ⟨g, off + i, none⟩) (Nat.lt_of_lt_of_le hg HF1.out.2.size)).trans ((HF1.out.2.cell (p := ⟨g, off + i, none⟩) hg).trans (H.out i hi))))) | ((with_reducible show wpList _ _ _ (⟨_, .call ⟨.builtin .copy, _, _⟩, _, _, _, _⟩ :: _) _ _); go_loud (refine wpList_copy_splice rfl (.tmp 59) (.tmp 61) 22 22 rfl 5 Try.underlying22 (by kernel_rfl) (some ⟨wc.heap.size, 0, none⟩) (some ⟨g, off + 7, none⟩) (many l - 1) (many l - 1) (l.length - 7) (c - 7) rfl rfl wc.heap.size 0 (List.replicate (many l - 1) (.int .u8 0)) 5 hM4.out (((l.drop 7).take (many l - 1)).map fun x => Value.int .u8 (x.toNat : Int)) HPL.out (fun _ => ⟨rfl, _, rfl, HS.out⟩) HFT.out HONE.out wc.heap.size wc hb4 (Nat.le_refl _) ?_); intro w5 hM5 hb5; clear hM4 hb4 HS))
          have e0 : w5.cell? ⟨g, off, none⟩ = some (.int .u8 (at_ l 0 : Int)) := (hb5.cell (p := ⟨g, off, none⟩) (Nat.lt_of_lt_of_le hg HF1.out.2.size)).trans ((HF1.out.2.cell (p := ⟨g, off, none⟩) hg).trans (H.out 0 (by omega)))
          have e1 : w5.cell? ⟨g, off + 1, none⟩ = some (.int .u8 (at_ l 1 : Int)) := (hb5.cell (p := ⟨g, off + 1, none⟩) (Nat.lt_of_lt_of_le hg HF1.out.2.size)).trans ((HF1.out.2.cell (p := ⟨g, off + 1, none⟩) hg).trans (H.out 1 (by omega)))
          have e6 : w5.cell? ⟨g, off + 6, none⟩ = some (.int .u8 (at_ l 6 : Int)) := (hb5.cell (p := ⟨g, off + 6, none⟩) (Nat.lt_of_lt_of_le hg HF1.out.2.size)).trans ((HF1.out.2.cell (p := ⟨g, off + 6, none⟩) hg).trans (H.out 6 (by omega)))
          have i0' : (0 : Int) < (l.length : Int) := by omega
          have i00 : 0 < l.length := by omega
          have inil : ¬ l = [] := by intro e; subst e; simp at i00
          have i1' : (1 : Int) < (l.length : Int) := by omega
          have i6' : (6 : Int) < (l.length : Int) := by omega
          have b0 := at_lt l 0
          have b1 := at_lt l 1
          have b6 := at_lt l 6
          go_region_held3 (fun w' => w'.cell? ⟨g, off, none⟩ = some (.int .u8 (at_ l 0 : Int)) ∧ w'.cell? ⟨g, off + 1, none⟩ = some (.int .u8 (at_ l 1 : Int)) ∧ w'.cell? ⟨g, off + 6, none⟩ = some (.int .u8 (at_ l 6 : Int))) (go_keep) (fail)
          rw [or_bytes16 b0 b1]
          have hz0 := hb5.size
          have hX := heap_alloc_new w5 (.cells #[.int .u16 ((at_ l 0 * 256 + at_ l 1 : Nat) : Int), .int .u8 (at_ l 6 : Int), .slice (some ⟨wc.heap.size, 0, none⟩) (many l - 1) (many l - 1)] 26)
          have hbx : Below wc.heap.size wc (w5.alloc (.cells #[.int .u16 ((at_ l 0 * 256 + at_ l 1 : Nat) : Int), .int .u8 (at_ l 6 : Int), .slice (some ⟨wc.heap.size, 0, none⟩) (many l - 1) (many l - 1)] 26)) := hb5.alloc hb5.size _
          have hMx : (w5.alloc (.cells #[.int .u16 ((at_ l 0 * 256 + at_ l 1 : Nat) : Int), .int .u8 (at_ l 6 : Int), .slice (some ⟨wc.heap.size, 0, none⟩) (many l - 1) (many l - 1)] 26)).heap[wc.heap.size]? = some (.cells (splice (List.replicate (many l - 1) (.int .u8 0)) 0 (((l.drop 7).take (many l - 1)).map fun x => Value.int .u8 (x.toNat : Int))).toArray 5 (0, 0)) := by
            rw [Below.heap_alloc _ _ _ (Array.getElem?_eq_some_iff.1 hM5.out).1]; exact hM5.out
          clear e0 e1 e6 HPL HFT HONE z0 z1 z2 y0 y1 y2
          generalize (w5.alloc (.cells #[.int .u16 ((at_ l 0 * 256 + at_ l 1 : Nat) : Int), .int .u8 (at_ l 6 : Int), .slice (some ⟨wc.heap.size, 0, none⟩) (many l - 1) (many l - 1)] 26)) = w6 at *
          have x0 : w6.cell? ⟨w5.heap.size, 0, none⟩ = some (.int .u16 ((at_ l 0 * 256 + at_ l 1 : Nat) : Int)) := cell_of_row _ _ _ _ _ _ hX
          have x1 : w6.cell? ⟨w5.heap.size, 1, none⟩ = some (.int .u8 (at_ l 6 : Int)) := cell_of_row _ _ _ _ _ _ hX
          have x2 : w6.cell? ⟨w5.heap.size, 2, none⟩ = some (.slice (some ⟨wc.heap.size, 0, none⟩) (many l - 1) (many l - 1)) := cell_of_row _ _ _ _ _ _ hX
          have hlt : w.heap.size < wc.heap.size := (Array.getElem?_eq_some_iff.1 HF1.out.1).1
          have hA : Blk w6 w.heap.size #[.int .u16 0, .int .u8 0, .slice none 0 0] := (hbx.block _ hlt).trans HF1.out.1
          have z0 : w6.cell? ⟨w.heap.size, 0, none⟩ = some (.int .u16 0) := hA.cell 0
          have z1 : w6.cell? ⟨w.heap.size, 1, none⟩ = some (.int .u8 0) := hA.cell 1
          have z2 : w6.cell? ⟨w.heap.size, 2, none⟩ = some (.slice none 0 0) := hA.cell 2
          have y0 : w6.frozen? ⟨w.heap.size, 0, none⟩ = false := frozen_of_row _ _ _ _ _ hA
          have y1 : w6.frozen? ⟨w.heap.size, 1, none⟩ = false := frozen_of_row _ _ _ _ _ hA
          have y2 : w6.frozen? ⟨w.heap.size, 2, none⟩ = false := frozen_of_row _ _ _ _ _ hA
          have HA := Lib.hid hA
          have HX := Lib.hid hX
          have HMx := Lib.hid hMx
          have hby := HF1.out.2.trans (hbx.mono HF1.out.2.size)
          clear hA hX hMx hM5 hb5 hbx
          go_wp2_with fail
          have hB := ((HA.out.set 0 (.int .u16 ((at_ l 0 : Int) * 256 + (at_ l 1 : Int)))).set 1 (.int .u8 (at_ l 6 : Int))).set 2 (.slice (some ⟨wc.heap.size, 0, none⟩) (many l - 1) (many l - 1))
          have hb := ((hby.setCell (p := ⟨w.heap.size, 0, none⟩) (Nat.le_refl _) (.int .u16 ((at_ l 0 : Int) * 256 + (at_ l 1 : Int)))).setCell (p := ⟨w.heap.size, 1, none⟩) (Nat.le_refl _) (.int .u8 (at_ l 6 : Int))).setCell (p := ⟨w.heap.size, 2, none⟩) (Nat.le_refl _) (.slice (some ⟨wc.heap.size, 0, none⟩) (many l - 1) (many l - 1))
          have hne : wc.heap.size ≠ w.heap.size := (Nat.ne_of_lt hlt).symm
          have hM7 := (heap_setCell_other (w6.setCell ⟨w.heap.size, 0, none⟩ (.int .u16 ((at_ l 0 : Int) * 256 + (at_ l 1 : Int))) |>.setCell ⟨w.heap.size, 1, none⟩ (.int .u8 (at_ l 6 : Int))) ⟨w.heap.size, 2, none⟩ wc.heap.size (.slice (some ⟨wc.heap.size, 0, none⟩) (many l - 1) (many l - 1)) hne).trans ((heap_setCell_other (w6.setCell ⟨w.heap.size, 0, none⟩ (.int .u16 ((at_ l 0 : Int) * 256 + (at_ l 1 : Int)))) ⟨w.heap.size, 1, none⟩ wc.heap.size (.int .u8 (at_ l 6 : Int)) hne).trans ((heap_setCell_other w6 ⟨w.heap.size, 0, none⟩ wc.heap.size (.int .u16 ((at_ l 0 : Int) * 256 + (at_ l 1 : Int))) hne).trans HMx.out))
          clear z0 z1 z2 y0 y1 y2 x0 x1 x2 HA HX HMx HF1 hby
          generalize ((w6.setCell ⟨w.heap.size, 0, none⟩ (.int .u16 ((at_ l 0 : Int) * 256 + (at_ l 1 : Int)))).setCell ⟨w.heap.size, 1, none⟩ (.int .u8 (at_ l 6 : Int))).setCell ⟨w.heap.size, 2, none⟩ (.slice (some ⟨wc.heap.size, 0, none⟩) (many l - 1) (many l - 1)) = wd at *
          have z0 : wd.cell? ⟨w.heap.size, 0, none⟩ = some (.int .u16 ((at_ l 0 : Int) * 256 + (at_ l 1 : Int))) := hB.cell 0
          have z1 : wd.cell? ⟨w.heap.size, 1, none⟩ = some (.int .u8 (at_ l 6 : Int)) := hB.cell 1
          have z2 : wd.cell? ⟨w.heap.size, 2, none⟩ = some (.slice (some ⟨wc.heap.size, 0, none⟩) (many l - 1) (many l - 1)) := hB.cell 2
          exact bodyPost_ret (v := .tuple #[.agg #[.int .u16 ((at_ l 0 : Int) * 256 + (at_ l 1 : Int)), .int .u8 (at_ l 6 : Int), .slice (some ⟨wc.heap.size, 0, none⟩) (many l - 1) (many l - 1)], .int .i64 (6 + (many l : Int)), .int .i64 0]) (by simp [results, Try.results10, go_sem, z0, z1, z2]) rfl ⟨first_fits (Nat.le_of_lt hlt) n1 n2 n3 HBAR.out hM7, below_drew hb⟩
theorem none_is {l : List UInt8} {B n : Nat} (h : first l = (none, 0, n)) (w' : World) : FirstIs B (first l) (.returned (.tuple #[.agg #[.int .u16 0, .int .u8 0, .slice none 0 0], .int .i64 0, .int .i64 (n : Int)])) w' := by
  rw [h]
  exact ⟨⟨0, 0, []⟩, .slice none 0 0, rfl, LawFrame.RowsAt.nil _ _ _, Kind.nil _ _ _, fun _ => ⟨rfl, rfl⟩, fun f' h => by cases h⟩
theorem First_bar2 (l : List UInt8) (g off c : Nat) (w : World) (h : ∀ i, i < l.length → w.cell? ⟨g, off + i, none⟩ = some (.int .u8 (at_ l i : Int))) (hg : g < w.heap.size) (hl : 2 < l.length) (h2 : at_ l 2 ≠ 0) :
    Calls Try.prog 10 #[.slice (some ⟨g, off, none⟩) l.length c] w fun e w' => FirstIs w.heap.size (first l) e w' ∧ Below w.heap.size w w' := by
  have c2 := h 2 hl
  have i2 : (2 : Int) < (l.length : Int) := by omega
  have t2 : ((at_ l 2 : Int) != 0) = true := by rw [bne_iff_ne]; omega
  have HR := Lib.hid (show first l = (none, 0, 31) by simp [first, barred, hl, h2])
  clear h h2
  go_enter Try.func10, Try.ntmps10
  go_wp2_with fail
  go_returns
  exact ⟨none_is HR.out _, by go_grown⟩
theorem First_bar3 (l : List UInt8) (g off c : Nat) (w : World) (h : ∀ i, i < l.length → w.cell? ⟨g, off + i, none⟩ = some (.int .u8 (at_ l i : Int))) (hg : g < w.heap.size) (hl : 3 < l.length) (h2 : at_ l 2 = 0) (h3 : at_ l 3 ≠ 0) :
    Calls Try.prog 10 #[.slice (some ⟨g, off, none⟩) l.length c] w fun e w' => FirstIs w.heap.size (first l) e w' ∧ Below w.heap.size w w' := by
  have c2 := h 2 (by omega)
  have c3 := h 3 hl
  have i2 : (2 : Int) < (l.length : Int) := by omega
  have i3 : (3 : Int) < (l.length : Int) := by omega
  have t3 : ((at_ l 3 : Int) != 0) = true := by rw [bne_iff_ne]; omega
  have HR := Lib.hid (show first l = (none, 0, 31) by simp [first, barred, hl, h3])
  rw [h2] at c2
  clear h h2 h3
  go_enter Try.func10, Try.ntmps10
  go_wp2_with fail
  go_returns
  exact ⟨none_is HR.out _, by go_grown⟩
theorem First_few (l : List UInt8) (g off c : Nat) (w : World) (h : ∀ i, i < l.length → w.cell? ⟨g, off + i, none⟩ = some (.int .u8 (at_ l i : Int))) (hg : g < w.heap.size) (hl : 2 < l.length) (hl6 : l.length < 6) (h2 : at_ l 2 = 0) (h3 : 3 < l.length → at_ l 3 = 0) :
    Calls Try.prog 10 #[.slice (some ⟨g, off, none⟩) l.length c] w fun e w' => FirstIs w.heap.size (first l) e w' ∧ Below w.heap.size w w' := by
  have c2 := h 2 (by omega)
  have i2 : (2 : Int) < (l.length : Int) := by omega
  have HR := Lib.hid (show first l = (none, 0, 0) by
    have : barred l = false := by
      simp only [barred, h2]
      by_cases h4 : 3 < l.length
      · simp [h3 h4]
      · simp [h4]
    simp [first, this, hl6])
  rw [h2] at c2
  by_cases h4 : 3 < l.length
  · have c3 := h 3 h4
    rw [h3 h4] at c3
    have i3 : (3 : Int) < (l.length : Int) := by omega
    clear h h2 h3
    go_enter Try.func10, Try.ntmps10
    go_wp2_with fail
    go_returns
    exact ⟨none_is HR.out _, by go_grown⟩
  · have i3 : ¬ (3 : Int) < (l.length : Int) := by omega
    clear h h2 h3
    go_enter Try.func10, Try.ntmps10
    go_wp2_with fail
    go_returns
    exact ⟨none_is HR.out _, by go_grown⟩
/-- ANY BYTES. -/
theorem First_any (l : List UInt8) (v : Value) (w : World) (h : BytesAt w l v) (hl2 : l.length ≤ 9223372036854775807) : Calls Try.prog 10 #[v] w fun e w' => FirstIs w.heap.size (first l) e w' ∧ Below w.heap.size w w' := by
  by_cases hs : l.length ≤ 2
  · have e : first l = (none, 0, 0) := by
      have : barred l = false := by simp [barred]; omega
      simp [first, this]; omega
    rw [e]
    exact First_short l v w h hs
  obtain ⟨g, off, c, rfl, hg, hcell⟩ := h.byte (i := 0) (by omega)
  have hc : l.length ≤ c := by
    obtain ⟨A, c', hv, hc, -⟩ := h
    injection hv with _ _ e3
    omega
  by_cases h2 : at_ l 2 = 0
  · by_cases h3 : 3 < l.length ∧ at_ l 3 ≠ 0
    · exact First_bar3 l g off c w hcell hg h3.1 h2 h3.2
    · by_cases h6 : l.length < 6
      · exact First_few l g off c w hcell hg (by omega) h6 h2 (fun h4 => Classical.byContradiction fun hn => h3 ⟨h4, hn⟩)
      · exact First_six l g off c w hcell hg (by omega) hl2 hc h2 (Classical.byContradiction fun hn => h3 ⟨by omega, hn⟩)
  · exact First_bar2 l g off c w hcell hg (by omega) h2
end Go.Proofs.Ythcgomfejibkhaa
