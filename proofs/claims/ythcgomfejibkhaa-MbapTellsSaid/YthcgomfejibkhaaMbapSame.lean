/-
  THE WALKS of the document's Same, SameAll, where the two are alike.
-/
import Derived.Test.YthcgomfejibkhaaMbapHeadFn
import Derived.Test.YthcgomfejibkhaaMbapGreat
import Derived.StillTailTactics
namespace Go.Proofs.Ythcgomfejibkhaa
open Go.RowKit Mbap

theorem BytesAt.alloc' {w : World} {l : List UInt8} {v : Value} (h : BytesAt w l v) (o : Obj) : BytesAt (w.alloc o) l v := LawFrame.RowsAt.below h ((Below.refl _ _).alloc (Nat.le_refl _) o)
theorem Same_true (f : Adu) (v1 v2 : Value) (w : World) (h1 : BytesAt w f.pdu v1) (h2 : BytesAt w f.pdu v2) :
    Calls Try.prog 17 #[aduV f v1, aduV f v2] w fun e w' => e = .returned (.bool true) ∧ Below w.heap.size w w' := by
  have s1 := fun o1 o2 => ((h1.alloc' o1).alloc' o2).string
  have s2 := fun o1 o2 => ((h2.alloc' o1).alloc' o2).string
  obtain ⟨A1, c1, rfl, -, -⟩ := h1
  obtain ⟨A2, c2, rfl, -, -⟩ := h2
  unfold aduV
  go_enter Try.func17, Try.ntmps17
  go_wp2_with fail
  go_ret
  exact ⟨rfl, by go_grown⟩
/-- a frame of a slice -/
theorem frame_at {w : World} {l : List Adu} {v : Value} (h : FramesAt w l v) {k : Nat} (hk : k < l.length) : ∃ (g off c : Nat) (A : Option Addr) (c1 : Nat), v = .slice (some ⟨g, off, none⟩) l.length c ∧ l.length ≤ c ∧ g < w.heap.size ∧ w.cell? ⟨g, off + k * 3, none⟩ = some (.int .u16 l[k].id) ∧ w.cell? ⟨g, off + k * 3 + 1, none⟩ = some (.int .u8 (l[k].unit.toNat : Int)) ∧
    w.cell? ⟨g, off + k * 3 + 2, none⟩ = some (.slice A l[k].pdu.length c1) ∧ BytesAt w l[k].pdu (.slice A l[k].pdu.length c1) ∧ l[k].id < 65536 ∧ l[k].pdu.length ≤ 9223372036854775807 := by
  obtain ⟨ps, rfl, ⟨A, c, rfl, hc, hm⟩, hp⟩ := h
  have hk' : k < ps.length := by simpa using hk
  obtain ⟨b, off, rfl, hb, hx⟩ := hm (by intro e; subst e; simp at hk)
  obtain ⟨h1, h2, h3⟩ := hp ps[k] (List.getElem_mem _)
  have g0 := hx k ps[k] (List.getElem?_eq_getElem hk') 0 _ rfl
  have g1 := hx k ps[k] (List.getElem?_eq_getElem hk') 1 _ rfl
  have g2 := hx k ps[k] (List.getElem?_eq_getElem hk') 2 _ rfl
  have h1' := h1
  obtain ⟨A1, c1, e, -, -⟩ := h1'
  simp only [List.getElem_map, List.length_map]
  rw [e] at g2 h1
  exact ⟨b, off, c, A1, c1, rfl, hc, hb, g0, g1, g2, h1, h2, h3⟩
theorem FramesAt.below {w w' : World} {l : List Adu} {v : Value} (h : FramesAt w l v) (hb : Below w.heap.size w w') : FramesAt w' l v := by
  obtain ⟨ps, e, h1, h2⟩ := h
  exact ⟨ps, e, h1.below hb, fun p hp => ⟨LawFrame.RowsAt.below (h2 p hp).1 hb, (h2 p hp).2⟩⟩
theorem FramesAt.form {w : World} {l : List Adu} {v : Value} (h : FramesAt w l v) : ∃ A c, v = .slice A l.length c := by
  obtain ⟨ps, rfl, ⟨A, c, rfl, -, -⟩, -⟩ := h
  exact ⟨A, c, by simp⟩
set_option maxRecDepth 100000 in
set_option maxHeartbeats 1000000 in
theorem SameAll_true (l : List Adu) (v1 v2 : Value) (w : World) (h1 : FramesAt w l v1) (h2 : FramesAt w l v2) (hl : l.length ≤ 1000000) :
    Calls Try.prog 18 #[v1, v2] w fun e w' => e = .returned (.bool true) ∧ Below w.heap.size w w' := by
  obtain ⟨A1, c1, rfl⟩ := h1.form
  obtain ⟨A2, c2, rfl⟩ := h2.form
  have H1 := Lib.hid h1
  have H2 := Lib.hid h2
  clear h1 h2
  go_enter Try.func18, Try.ntmps18
  go_wp2
  go_loopw [5] (fun i wr => ∃ k : Nat, k ≤ l.length ∧ i = .int .i64 k ∧ Hid (Below w.heap.size w wr)) (fun i _ => l.length - (intOf i).toNat)
  case atStart => exact ⟨0, Nat.zero_le _, rfl, Below.refl _ _⟩
  case round =>
    obtain ⟨k, hk, rfl, HB⟩ := hrel
    by_cases hlt : k < l.length
    · obtain ⟨g1, o1, d1, B1, e1, hv1, hc1, hg1, x0, x1, x2, xb, -, -⟩ := frame_at (H1.out.below HB.out) hlt
      obtain ⟨g2, o2, d2, B2, e2, hv2, hc2, hg2, y0, y1, y2, yb, -, -⟩ := frame_at (H2.out.below HB.out) hlt
      injection hv1 with hA1 _ hd1
      injection hv2 with hA2 _ hd2
      subst hA1
      subst hA2
      have HS := Lib.hid (Same_true l[k] _ _ wr.drew xb yb)
      clear xb yb hd1 hd2
      have hk0 : (0 : Int) ≤ (k : Int) := by omega
      have hk1 : (k : Int) < (l.length : Int) := by omega
      unfold aduV at HS
      generalize l[k].id = id at *
      generalize l[k].unit.toNat = u at *
      generalize l[k].pdu.length = pl at *
      go_wp2_with fail
      go_still_tail 8, (by kernel_rfl)
      change wpList _ _ _ _ _ wr.drew
      go_wp2_with fail
      refine HS.out.mono ?_
      rintro e w3 ⟨rfl, hb3⟩
      have HB3 := Lib.hid (show Below w.heap.size w w3 from HB.out.trans (Below.mono (w := wr) (w' := w3) ⟨hb3.os, hb3.tape, hb3.output, hb3.size, hb3.block⟩ HB.out.size))
      clear hb3
      go_wp2_with fail
      go_roundw
      case rel => exact ⟨k + 1, by omega, by go_num, HB3.out⟩
      case measure => simp [intOf]; omega
    · go_wp2
      go_ret
      exact ⟨rfl, HB.out⟩
end Go.Proofs.Ythcgomfejibkhaa
