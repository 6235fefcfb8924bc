/-
  THE WALK of mbap.frames: the iterator over the frames that bytes begin with.
-/
import Derived.Test.YthcgomfejibkhaaMbapHeadFn
import Derived.Test.YthcgomfejibkhaaRange
import Derived.Shelf.Abstract
import Derived.Shelf.RegionOpen
import Derived.OwnWalkIn
import Derived.TacticsInMore
import Derived.LoopNIn
import Derived.LoopIn
namespace Go.Proofs.Ythcgomfejibkhaa
open Go.RowKit Go.Shelf Mbap
attribute [local go_sem] Oper.semAt_some

/-- what comes of a round: a frame, its bytes' slice, how many bytes -/
abbrev Item := Adu × Value × Nat
abbrev Item.both (x : Item) : Adu × Nat := (x.1, x.2.2)
abbrev encItem (x : Item) : Array Value := #[aduV x.1 x.2.1, .int .i64 (x.2.2 : Int)]
/-- what is known of what comes -/
def OkItem (l : List UInt8) (B : Nat) (pre : List Item) (x : Item) (W : World) : Prop :=
  (∃ A c, x.2.1 = .slice A x.1.pdu.length c) ∧ BytesAt W x.1.pdu x.2.1 ∧ Kind B 5 W x.2.1 ∧ ∃ r, Came l ((pre ++ [x]).map Item.both) r
/-- what a round keeps -/
def Keeps (K : Nat → Prop) (W W' : World) : Prop := W.heap.size ≤ W'.heap.size ∧ ∀ k, K k → W'.heap[k]? = W.heap[k]?
/-- what is written last -/
def EndsAt (l : List UInt8) (Bend : Nat) (xs : List Item) (Wx W' : World) : Prop :=
  ∃ r e, Came l (xs.map Item.both) r ∧ first r = (none, 0, e) ∧ Wx.grownBy W' (some Bend) ∧ W'.heap[Bend]? = some (.cells #[.int .i64 (e : Int)] 27 (0, 0))
theorem frames_any (A : Option Addr) (n c b : Nat) (w : World) : Calls Try.prog 19 #[.slice A n c, .pointer (some ⟨b, 0, none⟩)] w fun e w' => e = .returned (.func (.func 20) #[] #[.pointer (some ⟨w.heap.size, 0, none⟩), .pointer (some ⟨w.heap.size + 1, 0, none⟩)]) ∧ (w.alloc (.cells #[.slice A n c] 22)).alloc (.cells #[.pointer (some ⟨b, 0, none⟩)] 45) = w' := by
  go_enter Try.func19, Try.ntmps19
  go_wp2_with fail
  go_ret
  exact ⟨rfl, rfl⟩
theorem BytesAt.of_reads {w : World} {B : Nat} {l : List UInt8} {A : Option Addr} {c : Nat} (h : Words.Reads w B 1 A l.length (l.map bV)) (hB : B ≤ w.heap.size) (hc : l.length ≤ c) : BytesAt w l (.slice A l.length c) := by
  refine ⟨A, c, rfl, hc, fun hne => ?_⟩
  obtain ⟨ad, rfl, hb, hx⟩ := h.2 (List.length_pos_iff.2 hne)
  have h0 : 0 < l.length := List.length_pos_iff.2 hne
  have h1 := hx 0 (bV l[0]) (by rw [List.getElem?_map, List.getElem?_eq_getElem h0]; rfl)
  obtain ⟨b, off, rfl⟩ := LawFrame.add_plain' h1
  refine ⟨b, off, rfl, by dsimp only at hb; omega, fun i x hi d u hu => ?_⟩
  rcases d with _ | d
  · simp only [byteV, List.getElem?_cons_zero, Option.some.injEq] at hu
    subst hu
    have := hx i (bV x) (by rw [List.getElem?_map, hi]; rfl)
    rw [Go.WideShapes.add_plain] at this
    simpa using this
  · simp [byteV] at hu
theorem grown_of_below {w w' : World} (h : Below w.heap.size w w') : w.grownBy w' none := ⟨h.os, h.tape, h.output, h.size, fun i hi _ => h.block i hi⟩
theorem below_of_grown {w w' : World} {B : Nat} (h : w.grownBy w' none) (hB : B ≤ w.heap.size) : Below B w w' := ⟨h.os, h.tape, h.output, h.size, fun i hi => h.block i (by omega) (by simp)⟩
/-- what stands of the blocks that the iterator reads -/
def ItAt (Be Bend : Nat) (w : World) (W : World) : Prop := w.heap.size ≤ W.heap.size ∧ W.heap[Be]? = some (.cells #[.pointer (some ⟨Bend, 0, none⟩)] 45 (0, 0)) ∧ W.heap[Bend]? = some (.cells #[.int .i64 0] 27 (0, 0))
theorem ItAt.grown {Be Bend : Nat} {w W W' : World} (h : ItAt Be Bend w W) (hg : W.grownBy W' none) : ItAt Be Bend w W' :=
  ⟨Nat.le_trans h.1 hg.size, (hg.block _ (Array.getElem?_eq_some_iff.1 h.2.1).1 (by simp)).trans h.2.1, (hg.block _ (Array.getElem?_eq_some_iff.1 h.2.2).1 (by simp)).trans h.2.2⟩
theorem ItAt.keeps {Be Bend : Nat} {K : Nat → Prop} {w W W' : World} (h : ItAt Be Bend w W) (hg : Keeps K W W') (hK : K Be ∧ K Bend) : ItAt Be Bend w W' :=
  ⟨Nat.le_trans h.1 hg.1, (hg.2 _ hK.1).trans h.2.1, (hg.2 _ hK.2).trans h.2.2⟩
theorem Kind.mono {B B' : Nat} {e : TypeId} {w : World} {v : Value} (h : Kind B e w v) (hB : B' ≤ B) : Kind B' e w v := fun g hg => ⟨Nat.le_trans hB (h g hg).1, (h g hg).2⟩
theorem Kind.keep {B : Nat} {e : TypeId} {w w' : World} {v : Value} (h : Kind B e w v) (hk : ∀ (g : Nat) (cs : Array Value), w.heap[g]? = some (Obj.cells cs e (0, 0)) → w'.heap[g]? = w.heap[g]?) : Kind B e w' v := fun g hg => by
  obtain ⟨h1, cs, h2⟩ := h g hg
  exact ⟨h1, cs, (hk g cs h2).trans h2⟩
theorem Kind.alloc {B : Nat} {e : TypeId} {w : World} {v : Value} (h : Kind B e w v) (o : Obj) : Kind B e (w.alloc o) v := Kind.keep h fun _ _ hg => Below.heap_alloc _ _ _ (Array.getElem?_eq_some_iff.1 hg).1
theorem Kind.below {B : Nat} {e : TypeId} {w w' : World} {v : Value} (h : Kind B e w v) (hb : Below w.heap.size w w') : Kind B e w' v := Kind.keep h fun _ _ hg => hb.block _ (Array.getElem?_eq_some_iff.1 hg).1
theorem BytesAt.alloc {w : World} {l : List UInt8} {v : Value} (h : BytesAt w l v) (o : Obj) : BytesAt (w.alloc o) l v := LawFrame.RowsAt.below h ((Below.refl _ _).alloc (Nat.le_refl _) o)
theorem ok_item {l r : List UInt8} {B : Nat} {pre : List Item} {f : Adu} {m e : Nat} {w1 : World} {A : Option Addr} {c : Nat} (hC : Came l (pre.map Item.both) r) (hf : first r = (some f, m, e)) (hv : BytesAt w1 f.pdu (.slice A f.pdu.length c)) (hk : Kind B 5 w1 (.slice A f.pdu.length c)) (o : Obj) :
    OkItem l B pre (f, .slice A f.pdu.length c, m) (w1.alloc o) :=
  ⟨⟨A, c, rfl⟩, hv.alloc o, hk.alloc o, r.drop m, by rw [List.map_append]; exact hC.more hf⟩
theorem ends_is {l r : List UInt8} {Bend : Nat} {pre : List Item} {e : Nat} {w1 : World} {u : Value} (hC : Came l (pre.map Item.both) r) (hf : first r = (none, 0, e)) (hb : w1.heap[Bend]? = some (.cells #[u] 27 (0, 0))) (o : Obj) :
    EndsAt l Bend pre w1 ((w1.setCell ⟨Bend, 0, none⟩ (.int .i64 (e : Int))).alloc o) := by
  refine ⟨r, e, hC, hf, ?_, ?_⟩
  · refine ⟨rfl, rfl, rfl, by simp [World.setCell], fun k hk hne => ?_⟩
    rw [Below.heap_alloc _ _ _ (by simpa [World.setCell] using hk)]
    exact heap_setCell_other w1 ⟨Bend, 0, none⟩ k _ (fun e => hne (by rw [e]))
  · have h1 := heap_setCell_same w1 Bend 0 _ 27 (.int .i64 (e : Int)) hb
    rw [Below.heap_alloc _ _ _ (Array.getElem?_eq_some_iff.1 h1).1]
    exact h1
set_option maxRecDepth 100000 in
set_option maxHeartbeats 2000000 in
/-- THE ITERATOR, for every loop that goes on. -/
theorem frames_iter (l : List UInt8) (v : Value) (B0 Bb Be Bend : Nat) (K : Nat → Prop) (w : World) (hl : BytesAt w l v) (hlen : l.length ≤ 9223372036854775807) (hB : 0 < l.length → ∀ g, v.ownBlock = some g → g < B0) (hB0 : B0 ≤ w.heap.size)
    (hb : w.heap[Bb]? = some (.cells #[v] 22 (0, 0))) (hI : ItAt Be Bend w w) (hK : (∀ k, k < B0 → K k) ∧ K Be ∧ K Bend) (n : Nat) :
    Ranged.Iter n Try.prog 20 #[.pointer (some ⟨Bb, 0, none⟩), .pointer (some ⟨Be, 0, none⟩)] encItem (Keeps K) (fun pre x W => OkItem l w.heap.size pre x W) (EndsAt l Bend) w := by
  intro lp J W hgW hJ hY h0
  obtain ⟨A, c, rfl, hc, hR⟩ := hl.reads
  have hR0 : Words.Reads W B0 1 A l.length (l.map bV) := ⟨hR.1, fun hn => by
    obtain ⟨ad, rfl, hlt, hx⟩ := hR.2 hn
    have hb' : ad.block < B0 := hB hn _ rfl
    exact ⟨ad, rfl, hb', fun j u hu => (World.cell?_of_block (hgW.block _ (by rw [Words.block_of_add]; omega) (by simp))).trans (hx j u hu)⟩⟩
  have hIW := hI.grown hgW
  have HY := Lib.hid hY
  have HJ := Lib.hid hJ
  have HI := Lib.hid hIW
  have HR0 := Lib.hid hR0
  have HK := Lib.hid hK
  have hb1 : W.cell? ⟨Bb, 0, none⟩ = some (.slice A l.length c) := cell_of_row _ _ _ _ _ _ ((hgW.block _ (Array.getElem?_eq_some_iff.1 hb).1 (by simp)).trans hb)
  clear hY hJ hR hR0 hI hIW hb hl hgW hK hB
  refine callsIn_of_wp Try.func20 rfl trivial ?_ rfl
  simp only [Try.ntmps20, List.size_toArray, List.length_cons, List.length_nil, Nat.reduceAdd, Nat.reduceSub, Array.replicate_succ, Array.replicate_zero, List.push_toArray, List.append_toArray, List.nil_append, List.cons_append]
  gi_wp2
  clear hb1
  gi_loopw [4] (fun p wr => ∃ (pre : List Item) (r : List UInt8) (A' : Option Addr) (c' : Nat), p = .slice A' r.length c' ∧ r.length ≤ c' ∧ Hid (Words.Reads wr B0 1 A' r.length (r.map bV)) ∧ Hid (Came l (pre.map Item.both) r) ∧ Hid (ItAt Be Bend w wr) ∧ Hid (J pre wr))
    (fun p _ => match p with | .slice _ k _ => k | _ => 0)
  case atStart => exact ⟨[], l, A, c, rfl, hc, HR0, Came.none l, HI, h0⟩
  case round =>
    obtain ⟨pre, r, A', c', rfl, hc', HR, HC, HI', HJ'⟩ := hrel
    have hrl : r.length ≤ l.length := by have := HC.out.len.1; omega
    have hBr := BytesAt.of_reads HR.out (Nat.le_trans hB0 HI'.out.1) hc'
    have HB := Lib.hid hBr
    clear hBr
    rcases hf : first r with ⟨_ | f, m, e⟩
    · obtain rfl := (first_none hf).1
      have HF := Lib.hid hf
      clear hf
      rcases (first_none HF.out).2 with rfl | rfl
      all_goals
       gi_wp2_with (refine ⟨trivial, fun h => absurd h (by decide), ?_⟩; gi_at_call 10; refine (callsIn_wide.2 (First_none HF.out _ _ HB.out (by omega))).mono ?_; rintro e1 w1 ⟨rfl, hb1⟩; have hI1 := HI'.out.grown (grown_of_below hb1); have hJ1 := HJ.out _ _ _ HJ'.out (grown_of_below hb1); have z1 : w1.cell? ⟨Be, 0, none⟩ = some (.pointer (some ⟨Bend, 0, none⟩)) := cell_of_row _ _ _ _ _ _ hI1.2.1; have z2 : w1.cell? ⟨Bend, 0, none⟩ = some (.int .i64 0) := cell_of_row _ _ _ _ _ _ hI1.2.2; have z3 : w1.frozen? ⟨Bend, 0, none⟩ = false := frozen_of_row _ _ _ _ _ hI1.2.2; have y1 : Be < w1.heap.size := (Array.getElem?_eq_some_iff.1 hI1.2.1).1; have y2 : Bend < w1.heap.size := (Array.getElem?_eq_some_iff.1 hI1.2.2).1; have HJ1 := Lib.hid hJ1; have HI1 := Lib.hid hI1; clear hI1 hJ1 hb1)
       refine bodyPost_ret (results_none rfl _ _ _) rfl ?_
       exact ⟨⟨_, rfl⟩, pre, w1, HJ1.out, ends_is HC.out HF.out HI1.out.2.2 _⟩
    · obtain rfl := (first_some hf).1
      have hm1 : m ≤ r.length := (first_some hf).2.2.1
      have hm0 : 1 ≤ m := by have := (first_some hf).2.1; omega
      have HF := Lib.hid hf
      have hmz : ((m : Int) == 0) = false := by rw [beq_eq_false_iff_ne]; omega
      clear hf
      gi_wp2_with (refine ⟨trivial, fun h => absurd h (by decide), ?_⟩; gi_at_call 10; refine (callsIn_wide.2 (First_some HF.out _ _ HB.out (by omega))).mono ?_; rintro e1 w1 ⟨⟨A1, c1, rfl, hv1, hk1⟩, hb1⟩; have HI1 := Lib.hid ((HI'.out.grown (grown_of_below hb1)).grown (World.grownBy_alloc w1 (.cells #[.int .u16 f.id, .int .u8 (f.unit.toNat : Int), .slice A1 f.pdu.length c1] 26) none)); have hOk := ok_item (B := w.heap.size) HC.out HF.out hv1 (hk1.mono HI'.out.1) (.cells #[.int .u16 f.id, .int .u8 (f.unit.toNat : Int), .slice A1 f.pdu.length c1] 26); have HR1 := Lib.hid ((HR.out.keep (fun p hp => hb1.cell (by have := HI'.out.1; omega))).keep (fun p hp => World.cell?_alloc_lt w1 (.cells #[.int .u16 f.id, .int .u8 (f.unit.toNat : Int), .slice A1 f.pdu.length c1] 26) p (by have := HI'.out.1; have := hb1.size; omega))); obtain ⟨yf, yt, ya, yb, hy, hRd⟩ := HY.out pre (f, .slice A1 f.pdu.length c1, m) (w1.alloc (.cells #[.int .u16 f.id, .int .u8 (f.unit.toNat : Int), .slice A1 f.pdu.length c1] 26)) (HJ.out _ _ _ (HJ.out _ _ _ HJ'.out (grown_of_below hb1)) (World.grownBy_alloc _ _ none)) hOk; have HRd := Lib.hid hRd; dsimp only [encItem, aduV] at hy; unfold aduV; clear hv1 hk1 hb1 hOk hRd)
      refine ⟨fun h => absurd h (by decide), HRd.out.mono ?_⟩
      rintro e3 W3 ⟨rfl, hJ3, hk3⟩
      have HI3 := Lib.hid (HI1.out.keeps hk3 HK.out.2)
      have HJ3 := Lib.hid hJ3
      have HR3 := Lib.hid (HR1.out.keep (fun p hp => World.cell?_of_block (hk3.2 _ (HK.out.1 _ hp))))
      have HCm := Lib.hid (show Came l ((pre ++ [((f, .slice A1 f.pdu.length c1, m) : Item)]).map Item.both) (r.drop m) by rw [List.map_append]; exact HC.out.more HF.out)
      have HD := Lib.hid (HR3.out.cut (k := m) (cap := c') hm1 hc')
      obtain ⟨g, off, c2, hA, -, -⟩ := HB.out.byte (i := 0) (by omega)
      injection hA with hA _ hcc
      subst hA
      subst hcc
      clear hJ3 hk3 HRd hy HI1 HR1 HI' HJ' HR HB
      by_cases hcm : c' = m
      · have h1 : r.length = m := by omega
        have HD2 := Lib.hid (show Words.Reads W3 B0 1 (some ⟨g, off, none⟩) (r.drop m).length ((r.drop m).map bV) by
          have := HD.out; rw [if_pos hcm] at this; simpa using this)
        have hdl : (r.drop m).length = 0 := by simp; omega
        have HDL := Lib.hid hdl
        clear HD hdl
        have hcm' : m ≤ c' := by omega
        have HCM := Lib.hid hcm
        clear hcm
        gi_wp2
        go_roundw
        case rel => exact ⟨pre ++ [(f, .slice A1 f.pdu.length c1, m)], r.drop m, _, c' - m, by rw [if_pos HCM.out, HDL.out], by rw [List.length_drop]; omega, HD2, HCm, HI3, HJ3⟩
        case measure => simp; omega
      · have HD2 := Lib.hid (show Words.Reads W3 B0 1 (some ⟨g, off + m, none⟩) (r.drop m).length ((r.drop m).map bV) by
          have := HD.out; rw [if_neg hcm] at this; simpa [Go.WideShapes.add_plain] using this)
        clear HD
        gi_wp2
        go_roundw
        case rel => exact ⟨pre ++ [(f, .slice A1 f.pdu.length c1, m)], r.drop m, _, c' - m, by rw [List.length_drop], by rw [List.length_drop]; omega, HD2, HCm, HI3, HJ3⟩
        case measure => simp; omega
end Go.Proofs.Ythcgomfejibkhaa
