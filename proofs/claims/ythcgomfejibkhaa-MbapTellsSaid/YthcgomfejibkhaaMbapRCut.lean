/-
  THE WALK of the document's Cut.
-/
import Derived.Test.YthcgomfejibkhaaMbapRFirst
import Derived.Test.YthcgomfejibkhaaMbapPiecesPlain
import Derived.Test.YthcgomfejibkhaaMbapBackPlain
namespace Go.Proofs.Ythcgomfejibkhaa
open Go.RowKit Mbap

theorem RFirst_some {l : List UInt8} {f : Adu} {n e : Nat} (hf : first l = (some f, n, e)) (v : Value) (w : World) (h : BytesAt w l v) (hl2 : l.length ≤ 9223372036854775807) :
    Calls Try.prog 12 #[v] w fun e w' => SomeIs w.heap.size f n e w' ∧ Below w.heap.size w w' := by
  have he := (first_some hf).1
  subst he
  refine (RFirst_any l v w h hl2).mono fun e w' ⟨h1, hb⟩ => ⟨?_, hb⟩
  obtain ⟨f', v', rfl, h2, h3, h4, h5⟩ := h1
  obtain rfl := h5 f (by rw [hf])
  have h2' := h2
  obtain ⟨A, c, rfl, -, -⟩ := h2'
  exact ⟨A, c, by rw [hf]; rfl, h2, h3⟩
theorem RFirst_none {l : List UInt8} {k : Nat} (hf : first l = (none, 0, k)) (v : Value) (w : World) (h : BytesAt w l v) (hl2 : l.length ≤ 9223372036854775807) :
    Calls Try.prog 12 #[v] w fun e w' => e = .returned (.tuple #[.agg #[.int .u16 0, .int .u8 0, .slice none 0 0], .int .i64 0, .int .i64 (k : Int)]) ∧ Below w.heap.size w w' := by
  refine (RFirst_any l v w h hl2).mono fun e w' ⟨h1, hb⟩ => ⟨?_, hb⟩
  obtain ⟨f', v', rfl, h2, h3, h4, h5⟩ := h1
  obtain ⟨rfl, rfl⟩ := h4 (by rw [hf])
  rw [hf]
  rfl
/-- what stands between two rounds -/
def RInv (l : List UInt8) (w W : World) (at' : Nat) (v : Value) : Prop := ∃ xs : List Item, W.ownsRow w.heap.size 26 3 v xs.length (xs.flatMap itemCells) ∧ (∀ x ∈ xs, Rest w.heap.size W x) ∧ Below w.heap.size w W ∧ Came l (xs.map Item.both) (l.drop at') ∧ at' = (xs.map (·.2.2)).sum
theorem RInv.more {l : List UInt8} {w W W1 W' : World} {at' n e : Nat} {xs : List Item} {f : Adu} {v v' : Value} {A : Option Addr} {c : Nat} {o : Obj} (h1 : W.ownsRow w.heap.size 26 3 v xs.length (xs.flatMap itemCells)) (h2 : ∀ x ∈ xs, Rest w.heap.size W x) (h3 : Below w.heap.size w W) (h4 : Came l (xs.map Item.both) (l.drop at')) (h5 : at' = (xs.map (·.2.2)).sum)
    (hf : first (l.drop at') = (some f, n, e)) (hb : Below W.heap.size W W1) (hv : BytesAt W1 f.pdu (.slice A f.pdu.length c)) (hk : Kind w.heap.size 5 W1 (.slice A f.pdu.length c))
    (ho : W'.ownsRow w.heap.size 26 3 v' (xs.length + 1) (xs.flatMap itemCells ++ aduCells (f, .slice A f.pdu.length c))) (hg : ((W1.alloc o).alloc o).grownBy W' v.ownBlock) : RInv l w W' (at' + n) v' := by
  have hrow1 := ((h1.kept (row := none) (grown_of_below hb) (by rcases v.ownBlock with _ | g <;> simp)).alloc o).alloc o
  have hs : ∀ (g : Nat) (cs : Array Value), ((W1.alloc o).alloc o).heap[g]? = some (Obj.cells cs 5 (0, 0)) → W'.heap[g]? = ((W1.alloc o).alloc o).heap[g]? := by
    intro g cs hh
    refine hg.block g (Array.getElem?_eq_some_iff.1 hh).1 (fun e => ?_)
    rcases hrow1.2 with ⟨rfl, _⟩ | ⟨g', cap, cur, rfl, _, hgb, _⟩
    · simp [Value.ownBlock] at e
    · simp only [Value.ownBlock, Option.some.injEq] at e
      subst e
      rw [hgb] at hh
      cases hh
  have hba : Below W1.heap.size W1 ((W1.alloc o).alloc o) := ((Below.refl _ _).alloc (Nat.le_refl _) o).alloc (by simp) o
  have hrest : ∀ x : Item, Rest w.heap.size W1 x → Rest w.heap.size W' x := fun x hx =>
    (hx.kept hba.size (fun g cs hh => hba.block g (Array.getElem?_eq_some_iff.1 hh).1)).kept hg.size hs
  have hz : w.heap.size ≤ W1.heap.size := Nat.le_trans h3.size hb.size
  refine ⟨xs ++ [(f, .slice A f.pdu.length c, n)], by simpa using ho, fun x hx => ?_, ((h3.trans (hb.mono h3.size)).trans (hba.mono hz)).grown hg (by simp; omega) (fun k hk => (hrow1.lt k hk).1), ?_, by simp [h5]⟩
  · rcases List.mem_append.1 hx with hx | hx
    · exact hrest x ((h2 x hx).kept hb.size (fun g cs hh => hb.block g (Array.getElem?_eq_some_iff.1 hh).1))
    · simp only [List.mem_singleton] at hx
      subst hx
      exact hrest _ ⟨⟨A, c, rfl⟩, hv, hk⟩
  · rw [List.map_append, ← List.drop_drop]
    exact h4.more hf
/-- the end -/
theorem RInv.ends {l : List UInt8} {w W W1 : World} {at' e n c : Nat} {A : Option Addr} (h : RInv l w W at' (.slice A n c)) (hf : first (l.drop at') = (none, 0, e)) (hb : Below W.heap.size W W1) :
    (cut l).1.length = n ∧ (cut l).2.1 = at' ∧ (cut l).2.2 = e ∧ FramesAt W1 (cut l).1 (.slice A n c) ∧ Below w.heap.size w W1 := by
  obtain ⟨xs, h1, h2, h3, h4, h5⟩ := h
  have hcut := h4.end_ hf
  have e1 : (cut l).1 = xs.map (·.1) := by rw [hcut]; simp [List.map_map, Function.comp_def]
  have e2 : (cut l).2.1 = (xs.map (·.2.2)).sum := by rw [hcut]; simp [List.map_map, Function.comp_def]
  have hn : n = xs.length := by
    rcases h1.2 with ⟨k1, k2⟩ | ⟨g, cap, cur, k1, _⟩
    · injection k1 with _ k1 _; omega
    · injection k1
  refine ⟨by rw [e1, hn]; simp, by rw [e2, h5], by rw [hcut], ?_, h3.trans (hb.mono h3.size)⟩
  rw [e1]
  refine ⟨xs.map fun x => (x.1, x.2.1), by simp [List.map_map, Function.comp_def], ?_, fun p hp => ?_⟩
  · rw [flat_items] at h1
    exact LawFrame.RowsAt.below (LawFrame.RowsAt.of_own (f := aduCells) (fun _ => rfl) (by omega) h1) hb
  · obtain ⟨x, hx, rfl⟩ := List.mem_map.1 hp
    have := came_each h4 x.both (List.mem_map.2 ⟨x, hx, rfl⟩)
    exact ⟨LawFrame.RowsAt.below (h2 x hx).2.1 hb, this.1, by have := this.2.2.1; dsimp only at this ⊢; omega⟩
theorem rinv_form {l : List UInt8} {w W : World} {at' : Nat} {v : Value} (h : RInv l w W at' v) : ∃ A n c, v = .slice A n c := by
  obtain ⟨xs, h1, -⟩ := h
  obtain ⟨A, c, e⟩ := own_form h1
  exact ⟨A, _, c, e⟩
theorem rnone (v : Value) : v.ownBlock = none ∨ v.ownBlock ≠ none := by rcases v.ownBlock with _ | g <;> simp
theorem two_block (w : World) (xs : List Value) {o : Obj} (hx : xs.length = 1 * 3) : Words.Reads ((w.alloc o).alloc (.cells xs.toArray 26)) (w.heap.size + 1 + 1) 3 (some ⟨w.heap.size + 1, 0, none⟩) 1 xs := by
  have h := heap_alloc_new (w.alloc o) (.cells xs.toArray 26)
  rw [World.size_alloc] at h
  exact LawFrame.reads_block h (Nat.lt_succ_self _) hx
set_option maxRecDepth 100000 in
set_option maxHeartbeats 2000000 in
theorem RCut_any (l : List UInt8) (v : Value) (w : World) (hl : BytesAt w l v) (hlen : l.length ≤ 1000000) :
    Calls Try.prog 14 #[v] w fun e w' => (∃ (A : Option Addr) (c : Nat), e = .returned (.tuple #[.slice A (cut l).1.length c, .int .i64 ((cut l).2.1 : Int), .int .i64 ((cut l).2.2 : Int)]) ∧ FramesAt w' (cut l).1 (.slice A (cut l).1.length c)) ∧ Below w.heap.size w w' := by
  obtain ⟨i6, hi6, hz60, hz61, hz62⟩ := info_parts adu_info
  obtain ⟨A, c, rfl, hc, -⟩ := hl.reads
  have HL := Lib.hid hl
  clear hl
  go_enter Try.func14, Try.ntmps14
  go_wp2_with fail
  go_loopw [5, 6] (fun o a wr => ∃ at' : Nat, at' ≤ l.length ∧ a = .int .i64 at' ∧ Hid (RInv l w wr at' o)) (fun _ a _ => l.length - (intOf a).toNat)
  case atStart => exact ⟨0, Nat.zero_le _, rfl, [], World.ownsRow_nil _ _ _ _, by simp, Below.refl _ _, Came.none l, rfl⟩
  case round =>
    obtain ⟨at', hat, rfl, HI⟩ := hrel
    have HBY := Lib.hid (LawFrame.RowsAt.below HL.out HI.out.choose_spec.2.2.1)
    by_cases hca : c = at'
    · subst hca
      have HCB := Lib.hid (cut_bytes_eq HBY.out)
      have hd : l.drop c = [] := List.drop_eq_nil_of_le (by omega)
      have HF := Lib.hid (show first (l.drop c) = (none, 0, 0) by rw [hd]; rfl)
      obtain ⟨A5, n5, c5, h5⟩ := rinv_form HI.out
      subst h5
      go_wp2_with fail
      refine (RFirst_none HF.out _ _ HCB.out (by simp; omega)).mono ?_
      rintro e1 w1 ⟨rfl, hb1⟩
      obtain ⟨q1, q2, q3, q4, q5⟩ := HI.out.ends HF.out hb1
      have HQ1 := Lib.hid q1
      have HQ2 := Lib.hid q2
      have HQ3 := Lib.hid q3
      have HQ4 := Lib.hid q4
      have HQ5 := Lib.hid q5
      clear q1 q2 q3 q4 q5 hb1 HI HBY
      go_wp2_with fail
      go_ret3
      exact ⟨⟨A5, c5, by rw [HQ1.out, HQ2.out, HQ3.out]; rfl, by rw [HQ1.out]; exact HQ4.out.below ((Below.refl _ _).alloc (Nat.le_refl _) _)⟩, HQ5.out.alloc HQ5.out.size _⟩
    · have HCB := Lib.hid (cut_bytes HBY.out hat hca)
      rcases hf : first (l.drop at') with ⟨_ | f, m, e⟩
      · obtain ⟨rfl, he⟩ := first_none hf
        have HF := Lib.hid hf
        clear hf
        rcases he with rfl | rfl
        · obtain ⟨A5, n5, c5, h5⟩ := rinv_form HI.out
          subst h5
          go_wp2_with fail
          refine (RFirst_none HF.out _ _ HCB.out (by simp; omega)).mono ?_
          rintro e1 w1 ⟨rfl, hb1⟩
          obtain ⟨q1, q2, q3, q4, q5⟩ := HI.out.ends HF.out hb1
          have HQ1 := Lib.hid q1
          have HQ2 := Lib.hid q2
          have HQ3 := Lib.hid q3
          have HQ4 := Lib.hid q4
          have HQ5 := Lib.hid q5
          clear q1 q2 q3 q4 q5 hb1 HI HBY
          go_wp2_with fail
          go_ret3
          exact ⟨⟨A5, c5, by rw [HQ1.out, HQ2.out, HQ3.out]; rfl, by rw [HQ1.out]; exact HQ4.out.below ((Below.refl _ _).alloc (Nat.le_refl _) _)⟩, HQ5.out.alloc HQ5.out.size _⟩
        · obtain ⟨A5, n5, c5, h5⟩ := rinv_form HI.out
          subst h5
          go_wp2_with fail
          refine (RFirst_none HF.out _ _ HCB.out (by simp; omega)).mono ?_
          rintro e1 w1 ⟨rfl, hb1⟩
          obtain ⟨q1, q2, q3, q4, q5⟩ := HI.out.ends HF.out hb1
          have HQ1 := Lib.hid q1
          have HQ2 := Lib.hid q2
          have HQ3 := Lib.hid q3
          have HQ4 := Lib.hid q4
          have HQ5 := Lib.hid q5
          clear q1 q2 q3 q4 q5 hb1 HI HBY
          go_wp2_with fail
          go_ret3
          exact ⟨⟨A5, c5, by rw [HQ1.out, HQ2.out, HQ3.out]; rfl, by rw [HQ1.out]; exact HQ4.out.below ((Below.refl _ _).alloc (Nat.le_refl _) _)⟩, HQ5.out.alloc HQ5.out.size _⟩
      · obtain rfl := (first_some hf).1
        have hm1 : m ≤ l.length - at' := by have := (first_some hf).2.2.1; simpa using this
        have hm0 : 1 ≤ m := by have := (first_some hf).2.1; omega
        have hmz : ((m : Int) == 0) = false := by rw [beq_eq_false_iff_ne]; omega
        have HF := Lib.hid hf
        clear hf
        obtain ⟨xs, h1, h2, h3, h4, h5⟩ := HI.out
        have hxl : xs.length ≤ 1000000 := by have := came_len h4; simp [List.map_map, Function.comp_def] at this; omega
        have H1 := Lib.hid h1
        have H2 := Lib.hid h2
        have H3 := Lib.hid h3
        have H4 := Lib.hid h4
        have H5 := Lib.hid h5
        clear h1 h2 h3 h4 h5 HI HBY
        go_wp2_with fail
        refine (RFirst_some HF.out _ _ HCB.out (by simp; omega)).mono ?_
        rintro e1 w1 ⟨⟨A1, c1, rfl, hv1, hk1⟩, hb1⟩
        unfold aduV
        have HV1 := Lib.hid hv1
        have HK1 := Lib.hid (hk1.mono H3.out.size)
        have HB1 := Lib.hid hb1
        have hz1 : w.heap.size ≤ w1.heap.size := Nat.le_trans H3.out.size hb1.size
        have HROW := Lib.hid (H1.out.kept (row := none) (grown_of_below hb1) (rnone _))
        clear hv1 hk1 hb1
        go_wp2_with (at_builtin; refine Words.wpList_append_any _ rfl (.tmp 27) (.tmp 29) _ rfl w.heap.size 26 i6 _ 3 32 Try.underlying32 hi6 hz60 hz61 hz62 rfl (by omega) _ xs.length (xs.flatMap itemCells) rfl ((HROW.out.alloc _).alloc _) (w1.heap.size + 1 + 1) (some ⟨w1.heap.size + 1, 0, none⟩) 1 1 (itemCells (f, .slice A1 f.pdu.length c1, m)) rfl (two_block w1 (itemCells (f, .slice A1 f.pdu.length c1, m)) rfl) (item_one _ _ _ _) (by simp only [maxLen]; omega) (by omega) (by simp; omega) ?_; intro v4 w4 ho4 hg4 _; have HN := Lib.hid (RInv.more H1.out H2.out H3.out H4.out H5.out HF.out HB1.out HV1.out HK1.out ho4 hg4); clear ho4 hg4)
        go_roundw
        case rel => exact ⟨at' + m, by omega, by go_num, HN.out⟩
        case measure => simp [intOf]; omega
end Go.Proofs.Ythcgomfejibkhaa
