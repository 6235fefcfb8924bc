/-
  THE WALK of the document's First.
-/
import Derived.Test.YthcgomfejibkhaaMbapFirst
import Derived.Test.YthcgomfejibkhaaOwn
import Derived.Test.YthcgomfejibkhaaMbapPut
import Derived.Deep.DrawnRows
namespace Go.Proofs.Ythcgomfejibkhaa
open Go.RowKit Mbap
attribute [local go_sem ↓] Go.wp_at_zero Go.wp_at_succ

theorem lit_nil' (w : World) (g : Nat) (hg : w.heap.size = g) : (w.alloc (.cells #[] 5)).ownsRow g 5 1 (.slice (some ⟨g, 0, none⟩) 0 0) 0 [] := by
  subst hg; exact World.ownsRow_lit w #[] 0 (Nat.le_refl _) (by simp [maxLen]) rfl
/-- the bytes of a frame, as the append's source -/
theorem rfirst_src {w : World} {l : List UInt8} {g off n : Nat} (h : ∀ i, i < l.length → w.cell? ⟨g, off + i, none⟩ = some (.int .u8 (at_ l i : Int))) (hg : g < w.heap.size) (hn : 7 + n ≤ l.length) :
    Words.Reads w w.heap.size 1 (some ⟨g, off + 7, none⟩) n (((l.drop 7).take n).map bV) := by
  refine ⟨by simp; omega, fun _ => ⟨_, rfl, hg, fun j u hu => ?_⟩⟩
  exact pdu_cells (n := n) h j u hu
/-- what the region's loads read stands -/
theorem rs_keep {W W' : World} {g off : Nat} {x0 x1 x6 : Value} (hs : W'.heap[g]? = W.heap[g]?)
    (hh : W.cell? ⟨g, off, none⟩ = some x0 ∧ W.cell? ⟨g, off + 1, none⟩ = some x1 ∧ W.cell? ⟨g, off + 6, none⟩ = some x6) : W'.cell? ⟨g, off, none⟩ = some x0 ∧ W'.cell? ⟨g, off + 1, none⟩ = some x1 ∧ W'.cell? ⟨g, off + 6, none⟩ = some x6 := by
  have c : ∀ o, W'.cell? ⟨g, o, none⟩ = W.cell? ⟨g, o, none⟩ := fun o => World.cell?_of_block (w := W) (a := ⟨g, o, none⟩) hs
  rw [c, c, c]
  exact hh
theorem rs_alloc {W : World} {g : Nat} {o : Obj} (hg : g < W.heap.size) : (W.alloc o).drew.heap[g]? = W.heap[g]? := Below.heap_alloc W o _ hg
theorem rs_grown {W W' : World} {g b : Nat} {o : Obj} (hg : g < W.heap.size) (hgr : (W.alloc o).drew.grownBy W' (some b)) (hb : b = W.heap.size := by rfl) : W'.heap[g]? = W.heap[g]? := by
  subst hb
  refine (hgr.block g ?_ (fun e => ?_)).trans (rs_alloc hg)
  · show g < (W.alloc o).heap.size
    simp; omega
  · injection e with e; omega
theorem rs_set {W : World} {g h : Nat} {u0 u1 u2 : Value} (hne : g ≠ h) : (((W.setCell ⟨h, 0, none⟩ u0).setCell ⟨h, 1, none⟩ u1).setCell ⟨h, 2, none⟩ u2).heap[g]? = W.heap[g]? :=
  (heap_setCell_other _ ⟨h, 2, none⟩ g u2 hne).trans ((heap_setCell_other _ ⟨h, 1, none⟩ g u1 hne).trans (heap_setCell_other _ ⟨h, 0, none⟩ g u0 hne))
theorem rfirst_src2 {w : World} {l : List UInt8} {g off n m : Nat} {o : Obj} (hm : m = n) (h : ∀ i, i < l.length → w.cell? ⟨g, off + i, none⟩ = some (.int .u8 (at_ l i : Int))) (hg : g < w.heap.size) (hn : 7 + n ≤ l.length) :
    Words.Reads (w.alloc o).drew w.heap.size 1 (some ⟨g, off + 7, none⟩) m (((l.drop 7).take n).map bV) := by
  subst hm
  exact ((rfirst_src h hg hn).alloc (Nat.le_refl _) o).drew
theorem own_form' {W : World} {base size n : Nat} {e : TypeId} {v : Value} {xs : List Value} (h : W.ownsRow base e size v n xs) : ∃ A c, v = .slice A n c := by
  rcases h.2 with ⟨rfl, rfl⟩ | ⟨g, cap, cur, rfl, _⟩
  · exact ⟨none, 0, rfl⟩
  · exact ⟨_, _, rfl⟩
theorem grown_set (W : World) (h j : Nat) (u : Value) : W.grownBy (W.setCell ⟨h, j, none⟩ u) (some h) :=
  ⟨rfl, rfl, rfl, by simp [World.setCell], fun k _ hk => heap_setCell_other W ⟨h, j, none⟩ k u (fun e => hk (by rw [e]))⟩
theorem mul_bytes16 {a b : Nat} (ha : a < 256) (hb : b < 256) : IntKind.u16.wrap (IntKind.u16.wrap (256 * IntKind.u16.wrap (a : Int)) + IntKind.u16.wrap (b : Int)) = ((a * 256 + b : Nat) : Int) := by
  have e1 : IntKind.u16.wrap (a : Int) = (a : Int) := by rw [IntKind.wrap_u16]; omega
  have e2 : IntKind.u16.wrap (256 * (a : Int)) = 256 * (a : Int) := by rw [IntKind.wrap_u16]; omega
  have e3 : IntKind.u16.wrap (b : Int) = (b : Int) := by rw [IntKind.wrap_u16]; omega
  rw [e1, e2, e3, IntKind.wrap_u16]
  omega
theorem rfirst_row {W : World} {n base h c : Nat} {A : Option Addr} {pdu : List UInt8} {u0 u1 u2 : Value} (ho : W.ownsRow base 5 1 (.slice A (0 + n) c) (0 + n) ([] ++ pdu.map bV)) (hh : h < base) :
    (((W.setCell ⟨h, 0, none⟩ u0).setCell ⟨h, 1, none⟩ u1).setCell ⟨h, 2, none⟩ u2).ownsRow base 5 1 (.slice A n c) n (pdu.map bV) := by
  rw [Nat.zero_add, List.nil_append] at ho
  have hne : ∀ (W' : World), W'.ownsRow base 5 1 (.slice A n c) n (pdu.map bV) → (Value.slice A n c).ownBlock ≠ some h := fun W' h' e => by have := (h'.lt _ e).1; omega
  have k1 := ho.kept (grown_set W h 0 u0) (.inr (hne W ho))
  have k2 := k1.kept (grown_set _ h 1 u1) (.inr (hne _ k1))
  exact k2.kept (grown_set _ h 2 u2) (.inr (hne _ k2))
theorem rfirst_fits {l : List UInt8} {B base c : Nat} {A : Option Addr} {w' : World} (hB : B ≤ base) (n1 : ¬ many l < 2) (n2 : ¬ 254 < many l) (n3 : ¬ l.length < 6 + many l) (hbar : barred l = false)
    (ho : w'.ownsRow base 5 1 (.slice A (many l - 1) c) (many l - 1) (((l.drop 7).take (many l - 1)).map bV)) :
    FirstIs B (first l) (.returned (.tuple #[.agg #[.int .u16 ((at_ l 0 * 256 + at_ l 1 : Nat) : Int), .int .u8 (at_ l 6 : Int), .slice A (many l - 1) c], .int .i64 (6 + (many l : Int)), .int .i64 0])) w' := by
  have hR : first l = (some ⟨at_ l 0 * 256 + at_ l 1, l.getD 6 0, (l.drop 7).take (many l - 1)⟩, 6 + many l, 0) := by
    simp only [first, hbar, Bool.false_eq_true, if_false, n3]
    rw [if_neg (by omega), if_neg (by omega)]
  rw [hR]
  exact ⟨⟨at_ l 0 * 256 + at_ l 1, l.getD 6 0, (l.drop 7).take (many l - 1)⟩, .slice A (many l - 1) c, rfl, BytesAt.of_own ho, own_kind ho hB, fun h => by (cases h), fun f' h => by (cases h; rfl)⟩
theorem mul_bytes (l : List UInt8) : 256 * (at_ l 4 : Int) + (at_ l 5 : Int) = (many l : Int) := by unfold many; omega
theorem RFirst_short (l : List UInt8) (v : Value) (w : World) (h : BytesAt w l v) (hl : l.length ≤ 2) : Calls Try.prog 12 #[v] w fun e w' => FirstIs w.heap.size (none, 0, 0) e w' ∧ Below w.heap.size w w' := by
  obtain ⟨A, c, rfl, hc, -⟩ := h
  go_enter Try.func12, Try.ntmps12
  go_wp2_with fail
  go_returns
  exact ⟨⟨⟨0, 0, []⟩, .slice none 0 0, rfl, LawFrame.RowsAt.nil _ _ _, Kind.nil _ _ _, fun _ => ⟨rfl, rfl⟩, fun f' h => by cases h⟩, by go_grown⟩
set_option maxHeartbeats 1000000 in
theorem RFirst_six (l : List UInt8) (g off c : Nat) (w : World) (h : ∀ i, i < l.length → w.cell? ⟨g, off + i, none⟩ = some (.int .u8 (at_ l i : Int))) (hg : g < w.heap.size) (hl : 6 ≤ l.length) (hl2 : l.length ≤ 9223372036854775807) (hc : l.length ≤ c) (h2 : at_ l 2 = 0) (h3 : at_ l 3 = 0) :
    Calls Try.prog 12 #[.slice (some ⟨g, off, none⟩) l.length c] w fun e w' => FirstIs w.heap.size (first l) e w' ∧ Below w.heap.size w w' := by
  have c2 := h 2 (by omega)
  have c3 := h 3 (by omega)
  have c4 := h 4 (by omega)
  have c5 := h 5 (by omega)
  rw [h2] at c2
  rw [h3] at c3
  have l4 := at_lt l 4
  have l5 := at_lt l 5
  have H := Lib.hid h
  have HH2 := Lib.hid h2
  have HH3 := Lib.hid h3
  clear h h2 h3
  go_enter Try.func12, Try.ntmps12
  go_upto_region 5 with fail
  have hb0 : Below w.heap.size w (w.alloc (.cells #[.int .u16 0, .int .u8 0, .slice none 0 0] 26)) := by go_grown
  have hz0 : Blk (w.alloc (.cells #[.int .u16 0, .int .u8 0, .slice none 0 0] 26)) w.heap.size #[.int .u16 0, .int .u8 0, .slice none 0 0] := heap_alloc_new w _
  generalize w.alloc (.cells #[.int .u16 0, .int .u8 0, .slice none 0 0] 26) = w0 at *
  have d4 := (hb0.cell (p := ⟨g, off + 4, none⟩) hg).trans c4
  have d5 := (hb0.cell (p := ⟨g, off + 5, none⟩) hg).trans c5
  have hf0 : FInv w w0 := ⟨hz0, hb0⟩
  have HF := Lib.hid hf0
  clear hz0 hb0 hf0 c2 c3 c4 c5
  go_cut [5] (fun s5 wx => s5 = .int .i64 (many l : Int) ∧ FInv w wx)
  case first =>
    go_quiet (fail)
    go_wp2_with fail
    go_meet
    exact ⟨val_int (mul_bytes l), HF.out.drewN _⟩
  case rest =>
    obtain ⟨rfl, hF⟩ := hcut
    have HF1 := Lib.hid hF
    clear hF HF d4 d5
    have hn : many l ≤ 65535 := by unfold many; omega
    have z0 : wc.cell? ⟨w.heap.size, 0, none⟩ = some (.int .u16 0) := cell_of_row _ _ _ _ _ _ HF1.out.1
    have z1 : wc.cell? ⟨w.heap.size, 1, none⟩ = some (.int .u8 0) := cell_of_row _ _ _ _ _ _ HF1.out.1
    have z2 : wc.cell? ⟨w.heap.size, 2, none⟩ = some (.slice none 0 0) := cell_of_row _ _ _ _ _ _ HF1.out.1
    have y0 : wc.frozen? ⟨w.heap.size, 0, none⟩ = false := frozen_of_row _ _ _ _ _ HF1.out.1
    have y1 : wc.frozen? ⟨w.heap.size, 1, none⟩ = false := frozen_of_row _ _ _ _ _ HF1.out.1
    have y2 : wc.frozen? ⟨w.heap.size, 2, none⟩ = false := frozen_of_row _ _ _ _ _ HF1.out.1
    have hbar : barred l = false := by simp [barred, HH2.out, HH3.out]
    have HBAR := Lib.hid hbar
    clear hbar
    by_cases n1 : many l < 2
    · have HR := Lib.hid (show first l = (none, 0, 31) by simp [first, HBAR.out, n1]; omega)
      go_wp2_with fail
      have hB := ((HF1.out.1.set 0 (.int .u16 0)).set 1 (.int .u8 0)).set 2 (.slice none 0 0)
      have hb := ((HF1.out.2.setCell (p := ⟨w.heap.size, 0, none⟩) (Nat.le_refl _) (.int .u16 0)).setCell (p := ⟨w.heap.size, 1, none⟩) (Nat.le_refl _) (.int .u8 0)).setCell (p := ⟨w.heap.size, 2, none⟩) (Nat.le_refl _) (.slice none 0 0)
      clear z0 z1 z2 y0 y1 y2 HF1
      generalize ((wc.setCell ⟨w.heap.size, 0, none⟩ (.int .u16 0)).setCell ⟨w.heap.size, 1, none⟩ (.int .u8 0)).setCell ⟨w.heap.size, 2, none⟩ (.slice none 0 0) = wd at *
      have z0 : wd.cell? ⟨w.heap.size, 0, none⟩ = some (.int .u16 0) := hB.cell 0
      have z1 : wd.cell? ⟨w.heap.size, 1, none⟩ = some (.int .u8 0) := hB.cell 1
      have z2 : wd.cell? ⟨w.heap.size, 2, none⟩ = some (.slice none 0 0) := hB.cell 2
      refine bodyPost_ret (v := .tuple #[.agg #[.int .u16 0, .int .u8 0, .slice none 0 0], .int .i64 0, .int .i64 31]) (by simp [results, Try.results12, go_sem, z0, z1, z2]) rfl ⟨⟨⟨0, 0, []⟩, .slice none 0 0, by rw [HR.out]; rfl, LawFrame.RowsAt.nil _ _ _, Kind.nil _ _ _, fun _ => ⟨rfl, rfl⟩, by rw [HR.out]; intro f' h; cases h⟩, hb⟩
    · by_cases n2 : 254 < many l
      · have HR := Lib.hid (show first l = (none, 0, 31) by simp [first, HBAR.out, n2]; omega)
        go_wp2_with fail
        have hB := ((HF1.out.1.set 0 (.int .u16 0)).set 1 (.int .u8 0)).set 2 (.slice none 0 0)
        have hb := ((HF1.out.2.setCell (p := ⟨w.heap.size, 0, none⟩) (Nat.le_refl _) (.int .u16 0)).setCell (p := ⟨w.heap.size, 1, none⟩) (Nat.le_refl _) (.int .u8 0)).setCell (p := ⟨w.heap.size, 2, none⟩) (Nat.le_refl _) (.slice none 0 0)
        clear z0 z1 z2 y0 y1 y2 HF1
        generalize ((wc.setCell ⟨w.heap.size, 0, none⟩ (.int .u16 0)).setCell ⟨w.heap.size, 1, none⟩ (.int .u8 0)).setCell ⟨w.heap.size, 2, none⟩ (.slice none 0 0) = wd at *
        have z0 : wd.cell? ⟨w.heap.size, 0, none⟩ = some (.int .u16 0) := hB.cell 0
        have z1 : wd.cell? ⟨w.heap.size, 1, none⟩ = some (.int .u8 0) := hB.cell 1
        have z2 : wd.cell? ⟨w.heap.size, 2, none⟩ = some (.slice none 0 0) := hB.cell 2
        refine bodyPost_ret (v := .tuple #[.agg #[.int .u16 0, .int .u8 0, .slice none 0 0], .int .i64 0, .int .i64 31]) (by simp [results, Try.results12, go_sem, z0, z1, z2]) rfl ⟨⟨⟨0, 0, []⟩, .slice none 0 0, by rw [HR.out]; rfl, LawFrame.RowsAt.nil _ _ _, Kind.nil _ _ _, fun _ => ⟨rfl, rfl⟩, by rw [HR.out]; intro f' h; cases h⟩, hb⟩
      · by_cases n3 : l.length < 6 + many l
        · have HR := Lib.hid (show first l = (none, 0, 0) by simp [first, HBAR.out, n1, n2, n3])
          go_wp2_with fail
          have hB := ((HF1.out.1.set 0 (.int .u16 0)).set 1 (.int .u8 0)).set 2 (.slice none 0 0)
          have hb := ((HF1.out.2.setCell (p := ⟨w.heap.size, 0, none⟩) (Nat.le_refl _) (.int .u16 0)).setCell (p := ⟨w.heap.size, 1, none⟩) (Nat.le_refl _) (.int .u8 0)).setCell (p := ⟨w.heap.size, 2, none⟩) (Nat.le_refl _) (.slice none 0 0)
          clear z0 z1 z2 y0 y1 y2 HF1
          generalize ((wc.setCell ⟨w.heap.size, 0, none⟩ (.int .u16 0)).setCell ⟨w.heap.size, 1, none⟩ (.int .u8 0)).setCell ⟨w.heap.size, 2, none⟩ (.slice none 0 0) = wd at *
          have z0 : wd.cell? ⟨w.heap.size, 0, none⟩ = some (.int .u16 0) := hB.cell 0
          have z1 : wd.cell? ⟨w.heap.size, 1, none⟩ = some (.int .u8 0) := hB.cell 1
          have z2 : wd.cell? ⟨w.heap.size, 2, none⟩ = some (.slice none 0 0) := hB.cell 2
          refine bodyPost_ret (v := .tuple #[.agg #[.int .u16 0, .int .u8 0, .slice none 0 0], .int .i64 0, .int .i64 0]) (by simp [results, Try.results12, go_sem, z0, z1, z2]) rfl ⟨⟨⟨0, 0, []⟩, .slice none 0 0, by rw [HR.out]; rfl, LawFrame.RowsAt.nil _ _ _, Kind.nil _ _ _, fun _ => ⟨rfl, rfl⟩, by rw [HR.out]; intro f' h; cases h⟩, hb⟩
        · obtain ⟨i0, hi0, hz0, hz1, hz2⟩ := info_parts u8_info
          have hc7 : ¬ c = 7 := by omega
          have e0 : wc.cell? ⟨g, off, none⟩ = some (.int .u8 (at_ l 0 : Int)) := (HF1.out.2.cell (p := ⟨g, off, none⟩) hg).trans (H.out 0 (by omega))
          have e1 : wc.cell? ⟨g, off + 1, none⟩ = some (.int .u8 (at_ l 1 : Int)) := (HF1.out.2.cell (p := ⟨g, off + 1, none⟩) hg).trans (H.out 1 (by omega))
          have e6 : wc.cell? ⟨g, off + 6, none⟩ = some (.int .u8 (at_ l 6 : Int)) := (HF1.out.2.cell (p := ⟨g, off + 6, none⟩) hg).trans (H.out 6 (by omega))
          have i0' : (0 : Int) < (l.length : Int) := by omega
          have i00 : 0 < l.length := by omega
          have inil : ¬ l = [] := by intro e; subst e; simp at i00
          have i1' : (1 : Int) < (l.length : Int) := by omega
          have i6' : (6 : Int) < (l.length : Int) := by omega
          have b0 := at_lt l 0
          have b1 := at_lt l 1
          have b6 := at_lt l 6
          have s7 : (7 : Int) ≤ 6 + (many l : Int) := by omega
          have s8 : 6 + (many l : Int) ≤ (c : Int) := by omega
          have hcl : l.length ≤ c := by omega
          go_wp2_with fail
          have hlt0 : w.heap.size < wc.heap.size := (Array.getElem?_eq_some_iff.1 HF1.out.1).1
          have hme : (6 + (many l : Int)).toNat - 7 = many l - 1 := by omega
          have HSRC := Lib.hid (rfirst_src2 (o := .cells #[] 5) hme (fun i hi => (HF1.out.2.cell (p := ⟨g, off + i, none⟩) hg).trans (H.out i hi)) (Nat.lt_of_lt_of_le hg HF1.out.2.size) (by omega))
          have HME := Lib.hid hme
          clear hme
          have HONE := Lib.hid (one_bytes ((l.drop 7).take (many l - 1)))
          have HS0 := Lib.hid (And.intro e0 (And.intro e1 e6))
          have hgne : g ≠ w.heap.size := Nat.ne_of_lt hg
          have hg2 : g < wc.heap.size := Nat.lt_of_lt_of_le hg HF1.out.2.size
          have hsum : IntKind.i64.wrap (6 + (many l : Int)) = 6 + (many l : Int) := IntWalk.i64_in _ (by omega)
          go_region_held3 (fun w' => w'.cell? ⟨g, off, none⟩ = some (.int .u8 (at_ l 0 : Int)) ∧ w'.cell? ⟨g, off + 1, none⟩ = some (.int .u8 (at_ l 1 : Int)) ∧ w'.cell? ⟨g, off + 6, none⟩ = some (.int .u8 (at_ l 6 : Int))) (first | exact HS0.out | exact rs_keep (rs_alloc hg2) HS0.out | exact rs_keep (rs_grown hg2 HG5.out) HS0.out | exact rs_keep ((rs_set hgne).trans (rs_grown hg2 HG5.out)) HS0.out)
            ((refine Words.step_append_any (wc.alloc (.cells #[] 5)).drew (by rfl) (.tmp 67) (.tmp 71) 22 (by rfl) wc.heap.size 5 i0 (.int .u8 0) 1 1 Try.underlying22 hi0 hz0 hz1 hz2 rfl (by omega) (.slice (some ⟨wc.heap.size, 0, none⟩) 0 0) 0 [] (by rfl) (lit_nil' wc wc.heap.size rfl) wc.heap.size (some ⟨g, off + 7, none⟩) ((6 + (many l : Int)).toNat - 7) (c - 7) (((l.drop 7).take (many l - 1)).map bV) (by rfl) HSRC.out HONE.out (by simp only [maxLen]; omega) (by omega) (by simp) ?_; intro v' w5 ho hg5 _; obtain ⟨A5, c5, rfl⟩ := own_form' ho; have HO5 := Lib.hid ho; have HG5 := Lib.hid hg5; have hA5 : Blk w5 w.heap.size #[.int .u16 0, .int .u8 0, .slice none 0 0] := (rs_grown hlt0 hg5).trans HF1.out.1; clear z0 z1 z2 y0 y1 y2; have z0 : w5.cell? ⟨w.heap.size, 0, none⟩ = some (.int .u16 0) := hA5.cell 0; have z1 : w5.cell? ⟨w.heap.size, 1, none⟩ = some (.int .u8 0) := hA5.cell 1; have z2 : w5.cell? ⟨w.heap.size, 2, none⟩ = some (.slice none 0 0) := hA5.cell 2; have y0 : w5.frozen? ⟨w.heap.size, 0, none⟩ = false := frozen_of_row _ _ _ _ _ hA5; have y1 : w5.frozen? ⟨w.heap.size, 1, none⟩ = false := frozen_of_row _ _ _ _ _ hA5; have y2 : w5.frozen? ⟨w.heap.size, 2, none⟩ = false := frozen_of_row _ _ _ _ _ hA5; have HA5 := Lib.hid hA5; clear ho hg5 hA5))
          rw [mul_bytes16 b0 b1, HME.out]
          rw [HME.out] at HO5
          have hrow := rfirst_row (u0 := .int .u16 ((at_ l 0 * 256 + at_ l 1 : Nat) : Int)) (u1 := .int .u8 (at_ l 6 : Int)) (u2 := .slice A5 (many l - 1) c5) HO5.out hlt0
          have hB := ((HA5.out.set 0 (.int .u16 ((at_ l 0 * 256 + at_ l 1 : Nat) : Int))).set 1 (.int .u8 (at_ l 6 : Int))).set 2 (.slice A5 (many l - 1) c5)
          have hb5 : Below wc.heap.size wc w5 := (below_drew ((Below.refl wc.heap.size wc).alloc (Nat.le_refl _) (.cells #[] 5))).grown HG5.out (by show wc.heap.size ≤ (wc.alloc (.cells #[] 5)).heap.size; simp) (fun k hk => by cases hk; exact Nat.le_refl _)
          have hb := (((HF1.out.2.trans (hb5.mono HF1.out.2.size)).setCell (p := ⟨w.heap.size, 0, none⟩) (Nat.le_refl _) (.int .u16 ((at_ l 0 * 256 + at_ l 1 : Nat) : Int))).setCell (p := ⟨w.heap.size, 1, none⟩) (Nat.le_refl _) (.int .u8 (at_ l 6 : Int))).setCell (p := ⟨w.heap.size, 2, none⟩) (Nat.le_refl _) (.slice A5 (many l - 1) c5)
          clear z0 z1 z2 y0 y1 y2 HA5 HG5 HO5 hb5 HF1 HS0 HSRC
          generalize ((w5.setCell ⟨w.heap.size, 0, none⟩ (.int .u16 ((at_ l 0 * 256 + at_ l 1 : Nat) : Int))).setCell ⟨w.heap.size, 1, none⟩ (.int .u8 (at_ l 6 : Int))).setCell ⟨w.heap.size, 2, none⟩ (.slice A5 (many l - 1) c5) = wd at *
          have HFIN := Lib.hid (rfirst_fits (Nat.le_of_lt hlt0) n1 n2 n3 HBAR.out hrow)
          have HBB := Lib.hid hb
          clear hrow hb
          generalize at_ l 0 * 256 + at_ l 1 = id at *
          have z0 : wd.cell? ⟨w.heap.size, 0, none⟩ = some (.int .u16 (id : Int)) := hB.cell 0
          have z1 : wd.cell? ⟨w.heap.size, 1, none⟩ = some (.int .u8 (at_ l 6 : Int)) := hB.cell 1
          have z2 : wd.cell? ⟨w.heap.size, 2, none⟩ = some (.slice A5 (many l - 1) c5) := hB.cell 2
          clear hB
          go_wp2_with fail
          exact bodyPost_ret (v := .tuple #[.agg #[.int .u16 (id : Int), .int .u8 (at_ l 6 : Int), .slice A5 (many l - 1) c5], .int .i64 (6 + (many l : Int)), .int .i64 0]) (by simp [results, Try.results12, go_sem, z0, z1, z2]) rfl ⟨HFIN.out, HBB.out⟩
theorem RFirst_bar2 (l : List UInt8) (g off c : Nat) (w : World) (h : ∀ i, i < l.length → w.cell? ⟨g, off + i, none⟩ = some (.int .u8 (at_ l i : Int))) (hg : g < w.heap.size) (hl : 2 < l.length) (h2 : at_ l 2 ≠ 0) :
    Calls Try.prog 12 #[.slice (some ⟨g, off, none⟩) l.length c] w fun e w' => FirstIs w.heap.size (first l) e w' ∧ Below w.heap.size w w' := by
  have c2 := h 2 hl
  have i2 : (2 : Int) < (l.length : Int) := by omega
  have t2 : ((at_ l 2 : Int) != 0) = true := by rw [bne_iff_ne]; omega
  have HR := Lib.hid (show first l = (none, 0, 31) by simp [first, barred, hl, h2])
  clear h h2
  go_enter Try.func12, Try.ntmps12
  go_wp2_with fail
  go_returns
  exact ⟨none_is HR.out _, by go_grown⟩
theorem RFirst_bar3 (l : List UInt8) (g off c : Nat) (w : World) (h : ∀ i, i < l.length → w.cell? ⟨g, off + i, none⟩ = some (.int .u8 (at_ l i : Int))) (hg : g < w.heap.size) (hl : 3 < l.length) (h2 : at_ l 2 = 0) (h3 : at_ l 3 ≠ 0) :
    Calls Try.prog 12 #[.slice (some ⟨g, off, none⟩) l.length c] w fun e w' => FirstIs w.heap.size (first l) e w' ∧ Below w.heap.size w w' := by
  have c2 := h 2 (by omega)
  have c3 := h 3 hl
  have i2 : (2 : Int) < (l.length : Int) := by omega
  have i3 : (3 : Int) < (l.length : Int) := by omega
  have t3 : ((at_ l 3 : Int) != 0) = true := by rw [bne_iff_ne]; omega
  have HR := Lib.hid (show first l = (none, 0, 31) by simp [first, barred, hl, h3])
  rw [h2] at c2
  clear h h2 h3
  go_enter Try.func12, Try.ntmps12
  go_wp2_with fail
  go_returns
  exact ⟨none_is HR.out _, by go_grown⟩
theorem RFirst_few (l : List UInt8) (g off c : Nat) (w : World) (h : ∀ i, i < l.length → w.cell? ⟨g, off + i, none⟩ = some (.int .u8 (at_ l i : Int))) (hg : g < w.heap.size) (hl : 2 < l.length) (hl6 : l.length < 6) (h2 : at_ l 2 = 0) (h3 : 3 < l.length → at_ l 3 = 0) :
    Calls Try.prog 12 #[.slice (some ⟨g, off, none⟩) l.length c] w fun e w' => FirstIs w.heap.size (first l) e w' ∧ Below w.heap.size w w' := by
  have c2 := h 2 (by omega)
  have i2 : (2 : Int) < (l.length : Int) := by omega
  have HR := Lib.hid (show first l = (none, 0, 0) by
    have : barred l = false := by
      simp only [barred, h2]
      by_cases h4 : 3 < l.length
      · simp [h3 h4]
      · simp [h4]
    simp [first, this, hl6])
  rw [h2] at c2
  by_cases h4 : 3 < l.length
  · have c3 := h 3 h4
    rw [h3 h4] at c3
    have i3 : (3 : Int) < (l.length : Int) := by omega
    clear h h2 h3
    go_enter Try.func12, Try.ntmps12
    go_wp2_with fail
    go_returns
    exact ⟨none_is HR.out _, by go_grown⟩
  · have i3 : ¬ (3 : Int) < (l.length : Int) := by omega
    clear h h2 h3
    go_enter Try.func12, Try.ntmps12
    go_wp2_with fail
    go_returns
    exact ⟨none_is HR.out _, by go_grown⟩
/-- ANY BYTES. -/
theorem RFirst_any (l : List UInt8) (v : Value) (w : World) (h : BytesAt w l v) (hl2 : l.length ≤ 9223372036854775807) : Calls Try.prog 12 #[v] w fun e w' => FirstIs w.heap.size (first l) e w' ∧ Below w.heap.size w w' := by
  by_cases hs : l.length ≤ 2
  · have e : first l = (none, 0, 0) := by
      have : barred l = false := by simp [barred]; omega
      simp [first, this]; omega
    rw [e]
    exact RFirst_short l v w h hs
  obtain ⟨g, off, c, rfl, hg, hcell⟩ := h.byte (i := 0) (by omega)
  have hc : l.length ≤ c := by
    obtain ⟨A, c', hv, hc, -⟩ := h
    injection hv with _ _ e3
    omega
  by_cases h2 : at_ l 2 = 0
  · by_cases h3 : 3 < l.length ∧ at_ l 3 ≠ 0
    · exact RFirst_bar3 l g off c w hcell hg h3.1 h2 h3.2
    · by_cases h6 : l.length < 6
      · exact RFirst_few l g off c w hcell hg (by omega) h6 h2 (fun h4 => Classical.byContradiction fun hn => h3 ⟨h4, hn⟩)
      · exact RFirst_six l g off c w hcell hg (by omega) hl2 hc h2 (Classical.byContradiction fun hn => h3 ⟨by omega, hn⟩)
  · exact RFirst_bar2 l g off c w hcell hg (by omega) h2
end Go.Proofs.Ythcgomfejibkhaa
