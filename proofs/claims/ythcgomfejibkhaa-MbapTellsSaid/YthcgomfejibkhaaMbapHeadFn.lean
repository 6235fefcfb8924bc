/-
  THE WALK of the laws' own head: a live question.
-/
import Derived.Test.YthcgomfejibkhaaMbapPut
import Derived.Lib.BufferRead
namespace Go.Proofs.Ythcgomfejibkhaa
open Go.RowKit Mbap

/-- the bytes as a string -/
theorem BytesAt.string {w : World} {l : List UInt8} {v : Value} (h : BytesAt w l v) : (convert 22 9 v).run Try.prog w = .ok (.string ⟨l.toArray⟩) w := by
  obtain ⟨A, c, rfl, hc, hm⟩ := h
  rcases A with _ | a
  · have : l = [] := by
      cases l with
      | nil => rfl
      | cons x l => obtain ⟨b, off, e, _⟩ := hm (by simp); cases e
    subst this
    exact Lib.run_convert_nil_bytes w 22 9 5 c Try.underlying22 Try.underlying5 Try.underlying9
  · refine run_convert_bytes_back w 22 9 5 a c l Try.underlying22 Try.underlying5 Try.underlying9 (fun j hj => ?_)
    obtain ⟨b, off, e, hb, hx⟩ := hm (by intro e; subst e; simp at hj)
    injection e with e
    subst e
    have := hx j l[j] (List.getElem?_eq_getElem hj) 0 _ rfl
    rw [Go.WideShapes.add_plain]
    simpa using this
/-- bytes that were just made -/
theorem bytes_new (w : World) (l : List UInt8) : BytesAt (w.alloc (.cells (l.map bV).toArray 5)) l (.slice (some ⟨w.heap.size, 0, none⟩) l.length l.length) := by
  refine ⟨_, _, rfl, Nat.le_refl _, fun _ => ⟨_, 0, rfl, by simp, fun i x hi d u hu => ?_⟩⟩
  rcases d with _ | d
  · simp only [byteV, List.getElem?_cons_zero, Option.some.injEq] at hu
    subst hu
    rw [cell_of_row _ _ _ _ _ _ (heap_alloc_new w _)]
    simp [hi]
  · simp [byteV] at hu
def SomeIs (B : Nat) (f : Adu) (n : Nat) (e : Ending) (w' : World) : Prop := ∃ A c, e = .returned (.tuple #[aduV f (.slice A f.pdu.length c), .int .i64 (n : Int), .int .i64 0]) ∧ BytesAt w' f.pdu (.slice A f.pdu.length c) ∧ Kind B 5 w' (.slice A f.pdu.length c)
theorem First_some {l : List UInt8} {f : Adu} {n e : Nat} (hf : first l = (some f, n, e)) (v : Value) (w : World) (h : BytesAt w l v) (hl2 : l.length ≤ 9223372036854775807) :
    Calls Try.prog 10 #[v] w fun e w' => SomeIs w.heap.size f n e w' ∧ Below w.heap.size w w' := by
  have he := (first_some hf).1
  subst he
  refine (First_any l v w h hl2).mono fun e w' ⟨h1, hb⟩ => ⟨?_, hb⟩
  obtain ⟨f', v', rfl, h2, h3, h4, h5⟩ := h1
  obtain rfl := h5 f (by rw [hf])
  have h2' := h2
  obtain ⟨A, c, rfl, -, -⟩ := h2'
  exact ⟨A, c, by rw [hf]; rfl, h2, h3⟩
theorem First_none {l : List UInt8} {k : Nat} (hf : first l = (none, 0, k)) (v : Value) (w : World) (h : BytesAt w l v) (hl2 : l.length ≤ 9223372036854775807) :
    Calls Try.prog 10 #[v] w fun e w' => e = .returned (.tuple #[.agg #[.int .u16 0, .int .u8 0, .slice none 0 0], .int .i64 0, .int .i64 (k : Int)]) ∧ Below w.heap.size w w' := by
  refine (First_any l v w h hl2).mono fun e w' ⟨h1, hb⟩ => ⟨?_, hb⟩
  obtain ⟨f', v', rfl, h2, h3, h4, h5⟩ := h1
  obtain ⟨rfl, rfl⟩ := h4 (by rw [hf])
  rw [hf]
  rfl
/-- what head holds -/
def HInv (w wx : World) (vb : Value) : Prop := BytesAt wx [0, 7, 0, 0, 0, 2, 1, 3] vb ∧ Below w.heap.size w wx
theorem HInv.more {w wx wy : World} {vb : Value} (h : HInv w wx vb) (hb : Below wx.heap.size wx wy) : HInv w wy vb := ⟨LawFrame.RowsAt.below h.1 hb, h.2.trans (hb.mono h.2.size)⟩
theorem HInv.alloc {w wx : World} {vb : Value} (h : HInv w wx vb) (o : Obj) : HInv w (wx.alloc o) vb := h.more ((Below.refl _ _).alloc (Nat.le_refl _) o)
def HIn2 (w wx : World) (vb : Value) (g : Nat) (v : Value) : Prop := HInv w wx vb ∧ Blk wx g #[.int .u16 7, .int .u8 1, v] ∧ BytesAt wx [3] v
theorem HIn2.more {w wx wy : World} {vb : Value} {g : Nat} {v : Value} (h : HIn2 w wx vb g v) (hb : Below wx.heap.size wx wy) : HIn2 w wy vb g v :=
  ⟨h.1.more hb, (hb.block _ (Array.getElem?_eq_some_iff.1 h.2.1).1).trans h.2.1, LawFrame.RowsAt.below h.2.2 hb⟩
theorem HIn2.alloc {w wx : World} {vb : Value} {g : Nat} {v : Value} (h : HIn2 w wx vb g v) (o : Obj) : HIn2 w (wx.alloc o) vb g v := h.more ((Below.refl _ _).alloc (Nat.le_refl _) o)
theorem bytes_new_at (w : World) (l : List UInt8) (g : Nat) (hg : w.heap.size = g) : BytesAt (w.alloc (.cells (l.map bV).toArray 5)) l (.slice (some ⟨g, 0, none⟩) l.length l.length) := hg ▸ bytes_new w l
set_option maxRecDepth 100000 in
set_option maxHeartbeats 1000000 in
theorem head_any (w : World) : Calls Try.prog 9 #[] w fun e w' => e = .returned (.bool true) ∧ Below w.heap.size w w' := by
  have p1 := Lib.hid (show put ⟨7, 1, [3]⟩ = [0, 7, 0, 0, 0, 2, 1, 3] by rfl)
  go_enter Try.func9, Try.ntmps9
  go_wp2_with fail
  refine (Put_any ⟨7, 1, [3]⟩ (.slice (some ⟨w.heap.size, 0, none⟩) 1 1) _ (bytes_new w [3]) (by decide) (by decide)).mono ?_
  rintro e w1 ⟨⟨vb, rfl, hvb⟩, hb1⟩
  rw [p1.out] at hvb
  have HI := Lib.hid (show HInv w w1 vb from ⟨hvb, ((Below.refl _ _).alloc (Nat.le_refl _) _).trans (hb1.mono (by simp))⟩)
  clear hvb hb1 p1
  go_wp2_with fail
  have p2 := Lib.hid (show first [0, 7, 0, 0, 0, 2, 1, 3, 9] = (some ⟨7, 1, [3]⟩, 8, 0) by rfl)
  refine (First_some p2.out (.slice (some ⟨w1.heap.size, 0, none⟩) 9 9) _ (bytes_new w1 [0, 7, 0, 0, 0, 2, 1, 3, 9]) (by decide)).mono ?_
  rintro e w2 ⟨⟨A, c0, rfl, hv, -⟩, hb2⟩
  have HI2 := Lib.hid (show HInv w w2 vb from (HI.out.alloc _).more hb2)
  have HV2 := Lib.hid (show BytesAt w2 [3] (.slice A 1 c0) from hv)
  unfold aduV
  simp only [List.length_cons, List.length_nil, Nat.zero_add]
  clear hv hb2 HI p2
  go_wp2_with fail
  have HI3 := Lib.hid (show HIn2 w (w2.alloc (.cells #[.int .u16 7, .int .u8 1, .slice A 1 c0] 26)) vb w2.heap.size (.slice A 1 c0) from ⟨HI2.out.alloc _, heap_alloc_new _ _, LawFrame.RowsAt.below HV2.out ((Below.refl _ _).alloc (Nat.le_refl _) _)⟩)
  clear HI2 HV2
  have p3 := Lib.hid (show first [0, 7, 0, 0, 0, 2, 1] = (none, 0, 0) by rfl)
  refine (First_none p3.out (.slice (some ⟨w2.heap.size + 1, 0, none⟩) 7 7) _ (bytes_new_at _ [0, 7, 0, 0, 0, 2, 1] _ (World.size_alloc _ _)) (by decide)).mono ?_
  rintro e w3 ⟨rfl, hb3⟩
  have HI4 := Lib.hid (show HIn2 w w3 vb w2.heap.size (.slice A 1 c0) from (HI3.out.alloc _).more hb3)
  clear HI3 p3 hb3
  go_wp2_with fail
  have p4 := Lib.hid (show first [0, 7, 1] = (none, 0, 31) by rfl)
  refine (First_none p4.out (.slice (some ⟨w3.heap.size + 1, 0, none⟩) 3 3) _ (bytes_new_at _ [0, 7, 1] _ (World.size_alloc _ _)) (by decide)).mono ?_
  rintro e w4 ⟨rfl, hb4⟩
  have HI5 := Lib.hid (show HIn2 w w4 vb w2.heap.size (.slice A 1 c0) from ((HI4.out.alloc _).alloc _).more hb4)
  clear HI4 p4 hb4
  go_wp2_with fail
  have p5 := Lib.hid (show first [0, 7, 0, 0, 0, 1] = (none, 0, 31) by rfl)
  refine (First_none p5.out (.slice (some ⟨w4.heap.size + 1, 0, none⟩) 6 6) _ (bytes_new_at _ [0, 7, 0, 0, 0, 1] _ (World.size_alloc _ _)) (by decide)).mono ?_
  rintro e w5 ⟨rfl, hb5⟩
  have HI6 := Lib.hid (show HIn2 w w5 vb w2.heap.size (.slice A 1 c0) from ((HI5.out.alloc _).alloc _).more hb5)
  clear HI5 p5 hb5
  go_upto_region 6 with fail
  have hx : HIn2 w (w5.alloc (.cells #[.int .u16 0, .int .u8 0, .slice none 0 0] 26)) vb w2.heap.size (.slice A 1 c0) := HI6.out.alloc _
  clear HI6
  generalize w5.alloc (.cells #[.int .u16 0, .int .u8 0, .slice none 0 0] 26) = w6 at *
  obtain ⟨⟨hvb, hb⟩, hB, hv⟩ := hx
  obtain ⟨g, off, c, rfl, hg, hc⟩ := hvb.byte (i := 0) (by decide)
  have c1 : w6.cell? ⟨g, off + 1, none⟩ = some (.int .u8 7) := hc 1 (by decide)
  have c5 : w6.cell? ⟨g, off + 5, none⟩ = some (.int .u8 2) := hc 5 (by decide)
  have f0 : w6.cell? ⟨w2.heap.size, 0, none⟩ = some (.int .u16 7) := cell_of_row _ _ _ _ _ _ hB
  have f1 : w6.cell? ⟨w2.heap.size, 1, none⟩ = some (.int .u8 1) := cell_of_row _ _ _ _ _ _ hB
  have f2 : w6.cell? ⟨w2.heap.size, 2, none⟩ = some (.slice A 1 c0) := cell_of_row _ _ _ _ _ _ hB
  have hs := hv.string
  have HB := Lib.hid hb
  clear hc hg hvb hB hv hb
  simp only [List.length_cons, List.length_nil, Nat.reduceAdd]
  go_wp2_with fail
  go_ret
  exact ⟨rfl, HB.out⟩
end Go.Proofs.Ythcgomfejibkhaa
