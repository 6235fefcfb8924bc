/-
  MbapBack: what is put, one behind the other, is cut to the same, with all bytes; what may not be has none. For every row of frames.
-/
import Derived.Test.YthcgomfejibkhaaMbapBackPlain
namespace Go.Proofs.Ythcgomfejibkhaa
open Go.RowKit Go.ChangeShapes Go.WideShapes Mbap

theorem back_big (l : List Adu) (v : Value) (w : World) (h : FramesAt w l v) (hl : l.length ≤ 9223372036854775807) (hg : ¬ l.length + bytes l < 20000) :
    Calls Try.prog 5 #[v] w fun e w' => e = .returned (.bool true) ∧ Below w.heap.size w w' := by
  obtain ⟨A, c, rfl⟩ := h.form
  have H := Lib.hid h
  clear h
  go_enter Try.func5, Try.ntmps5
  go_wp2_with fail
  refine (head_any _).mono ?_
  rintro e w1 ⟨rfl, hb1⟩
  have HG := Lib.hid (great_any l _ w1 (H.out.below hb1) hl)
  go_wp2_with fail
  refine HG.out.mono ?_
  rintro e w2 ⟨b, rfl, rfl, hb⟩
  have : b = true := by
    rcases b with _ | _
    · exact absurd (hb rfl) hg
    · rfl
  subst this
  go_wp2_with fail
  go_ret
  exact ⟨rfl, hb1⟩
/-- the frames that are wanted -/
def WantAt (W2 W : World) (ps : List (Adu × Value)) (v : Value) : Prop := W.ownsRow W2.heap.size 26 3 v ps.length (ps.flatMap aduCells) ∧ Below W2.heap.size W2 W
theorem WantAt.below {W2 W W' : World} {ps : List (Adu × Value)} {v : Value} (h : WantAt W2 W ps v) (hb : Below W.heap.size W W') : WantAt W2 W' ps v :=
  ⟨h.1.kept (row := none) (grown_of_below hb) (by rcases hv : v.ownBlock with _ | g <;> simp), h.2.trans (hb.mono h.2.size)⟩
theorem WantAt.more {W2 W W' : World} {ps : List (Adu × Value)} {p : Adu × Value} {v v' : Value} (h : WantAt W2 W ps v) (ho : W'.ownsRow W2.heap.size 26 3 v' (ps.length + 1) (ps.flatMap aduCells ++ aduCells p)) (hg : W.grownBy W' v.ownBlock) : WantAt W2 W' (ps ++ [p]) v' :=
  ⟨by rw [List.length_append, List.flatMap_append]; simpa using ho, h.2.grown hg h.2.size (fun k hk => (h.1.lt k hk).1)⟩
theorem Acc.other {W2 W W' : World} {xs : List UInt8} {ps : List (Adu × Value)} {v v2 : Value} (h : Acc W2 W xs v) (h2 : WantAt W2 W ps v2) (hg : W.grownBy W' v2.ownBlock) : Acc W2 W' xs v :=
  ⟨h.1.kept hg (own_ne h.1 h2.1 (by decide)), h.2.grown hg h.2.size (fun k hk => (h2.1.lt k hk).1)⟩
theorem WantAt.other {W2 W W' : World} {xs : List UInt8} {ps : List (Adu × Value)} {v v2 : Value} (h : WantAt W2 W ps v) (h2 : Acc W2 W xs v2) (hg : W.grownBy W' v2.ownBlock) : WantAt W2 W' ps v :=
  ⟨h.1.kept hg (own_ne h.1 h2.1 (by decide)), h.2.grown hg h.2.size (fun k hk => (h2.1.lt k hk).1)⟩
/-- what the loop holds -/
def BackI (W2 W : World) (ps : List (Adu × Value)) (k : Nat) (v4 v5 : Value) : Prop := WantAt W2 W ((ps.take k).filter fun p => fine p.1) v4 ∧ Acc W2 W (((ps.take k).map (·.1)).flatMap put) v5
theorem back_bad {W2 W : World} {ps : List (Adu × Value)} {k : Nat} {v4 v5 : Value} {f : Adu} {q : Value} (h : BackI W2 W ps k v4 v5) (ht : ps.take (k + 1) = ps.take k ++ [(f, q)]) (hf : fine f = false) : BackI W2 W ps (k + 1) v4 v5 := by
  unfold BackI at h ⊢
  rw [ht, List.filter_append, List.map_append, List.flatMap_append]
  simpa [hf, put_bad hf] using h
theorem back_good {W2 : World} {ps : List (Adu × Value)} {k : Nat} {f : Adu} {q : Value} (ht : ps.take (k + 1) = ps.take k ++ [(f, q)]) (hf : fine f = true) {W' : World} {v4' v5' : Value}
    (h1 : WantAt W2 W' ((ps.take k).filter (fun p => fine p.1) ++ [(f, q)]) v4') (h2 : Acc W2 W' (((ps.take k).map (·.1)).flatMap put ++ put f) v5') : BackI W2 W' ps (k + 1) v4' v5' := by
  unfold BackI
  rw [ht, List.filter_append, List.map_append, List.flatMap_append]
  simpa [hf] using And.intro h1 h2
theorem adu_one (f : Adu) (A : Option Addr) (n c : Nat) : ∀ u ∈ aduCells (f, .slice A n c), u.oneCell' = true := by
  intro u hu
  simp only [List.mem_cons, List.not_mem_nil, or_false] at hu
  rcases hu with rfl | rfl | rfl <;> rfl
/-- behind the first append -/
theorem back_want {W1 W3 W4 : World} {qs : List (Adu × Value)} {xs ys : List UInt8} {u4 u5 v4 v3 : Value} {o : Obj} {p : Adu × Value} {B : Nat} (h : WantAt W1 W3 qs u4 ∧ Acc W1 W3 xs u5) (hv : BytesAt W3 ys v3) (hk : Kind B 5 W3 v3)
    (ho : W4.ownsRow W1.heap.size 26 3 v4 (qs.length + 1) (qs.flatMap aduCells ++ aduCells p)) (hg : (W3.alloc o).grownBy W4 u4.ownBlock) :
    WantAt W1 W4 (qs ++ [p]) v4 ∧ Acc W1 W4 xs u5 ∧ BytesAt W4 ys v3 := by
  obtain ⟨h1, h2⟩ := h
  have ha : Below W3.heap.size W3 (W3.alloc o) := (Below.refl _ _).alloc (Nat.le_refl _) o
  refine ⟨(h1.below ha).more ho hg, (h2.below ha).other (h1.below ha) hg, (hv.alloc o).kept (hk.alloc o) hg.size (fun g cs hh => ?_)⟩
  refine hg.block g (Array.getElem?_eq_some_iff.1 hh).1 (fun e => ?_)
  rcases (h1.below ha).1.2 with ⟨rfl, _⟩ | ⟨g', cap, cur, rfl, _, hgb, _⟩
  · simp [Value.ownBlock] at e
  · simp only [Value.ownBlock, Option.some.injEq] at e
    subst e
    rw [hgb] at hh
    cases hh
theorem back_reads {W : World} {ys : List UInt8} {A : Option Addr} {n c : Nat} (h : BytesAt W ys (.slice A ys.length c)) (hn : ys.length = n) : Words.Reads W W.heap.size 1 A n (ys.map bV) := by
  subst hn; exact reads_of h
/-- behind the second -/
theorem back_all {W1 W4 W5 : World} {qs : List (Adu × Value)} {xs ys : List UInt8} {v4 u5 v5 v3 : Value} {n : Nat} (h : WantAt W1 W4 qs v4 ∧ Acc W1 W4 xs u5 ∧ BytesAt W4 ys v3) (hn : ys.length = n)
    (ho : W5.ownsRow W1.heap.size 5 1 v5 (xs.length + n) (xs.map bV ++ ys.map bV)) (hg : W4.grownBy W5 u5.ownBlock) : WantAt W1 W5 qs v4 ∧ Acc W1 W5 (xs ++ ys) v5 := by
  subst hn
  exact ⟨h.1.other h.2.1 hg, h.2.1.more ho hg⟩
theorem back_end {W2 W : World} {ps : List (Adu × Value)} {k : Nat} {v4 v5 : Value} (hk : k = ps.length) (h : BackI W2 W ps k v4 v5) : WantAt W2 W (ps.filter fun p => fine p.1) v4 ∧ Acc W2 W ((ps.map (·.1)).flatMap put) v5 := by
  subst hk
  unfold BackI at h
  rwa [List.take_length] at h
/-- what is wanted, and all bytes -/
theorem back_rest {w W2 W : World} {ps : List (Adu × Value)} {v4 v5 : Value} (hp : ∀ p ∈ ps, BytesAt w p.1.pdu p.2 ∧ p.1.id < 65536 ∧ p.1.pdu.length ≤ 9223372036854775807) (hb : Below w.heap.size w W2)
    (h : WantAt W2 W (ps.filter fun p => fine p.1) v4 ∧ Acc W2 W ((ps.map (·.1)).flatMap put) v5) :
    FramesAt W ((ps.map (·.1)).filter fine) v4 ∧ BytesAt W ((ps.map (·.1)).flatMap put) v5 ∧ Below w.heap.size w W := by
  have hB := hb.trans (h.1.2.mono hb.size)
  refine ⟨⟨ps.filter fun p => fine p.1, by rw [List.filter_map]; rfl, LawFrame.RowsAt.of_own (f := aduCells) (fun _ => rfl) (by omega) h.1.1, fun p hq => ?_⟩, h.2.bytes, hB⟩
  have := hp p (List.mem_filter.1 hq).1
  exact ⟨LawFrame.RowsAt.below this.1 hB, this.2⟩
theorem back_cut (ps : List (Adu × Value)) (hp : ∀ p ∈ ps, p.1.id < 65536) : cut ((ps.map (·.1)).flatMap put) = ((ps.map (·.1)).filter fine, ((ps.map (·.1)).flatMap put).length, 0) := by
  rw [puts_fine]
  refine cut_puts _ (fun f hf => ?_)
  obtain ⟨h1, h2⟩ := List.mem_filter.1 hf
  obtain ⟨p, hp', rfl⟩ := List.mem_map.1 h1
  exact ⟨h2, hp p hp'⟩
set_option maxRecDepth 100000 in
set_option maxHeartbeats 4000000 in
theorem back_walk (ps : List (Adu × Value)) (v : Value) (w : World) (h : LawFrame.RowsAt w 3 aduCells ps v) (hp : ∀ p ∈ ps, BytesAt w p.1.pdu p.2 ∧ p.1.id < 65536 ∧ p.1.pdu.length ≤ 9223372036854775807) (hg : (ps.map (·.1)).length + bytes (ps.map (·.1)) < 20000) :
    Calls Try.prog 5 #[v] w fun e w' => e = .returned (.bool true) ∧ Below w.heap.size w w' := by
  obtain ⟨i0, hi0, hz0, hz1, hz2⟩ := info_parts u8_info
  obtain ⟨i6, hi6, hz60, hz61, hz62⟩ := info_parts adu_info
  have HF := Lib.hid (show FramesAt w (ps.map (·.1)) v from ⟨ps, rfl, h, hp⟩)
  have hpl : ps.length < 20000 := by have : (ps.map (·.1)).length = ps.length := by simp
                                     omega
  obtain ⟨A, c, rfl, hc, hm⟩ := h
  have HM := Lib.hid hm
  have HP := Lib.hid hp
  have HG := Lib.hid hg
  clear hm hp hg
  go_enter Try.func5, Try.ntmps5
  go_wp2_with fail
  refine (head_any _).mono ?_
  rintro e w1 ⟨rfl, hb1⟩
  have HGR := Lib.hid (great_any (ps.map (·.1)) _ w1 (HF.out.below hb1) (by simp; omega))
  have HX1 := Lib.hid hb1
  clear HF hb1
  go_wp2_with fail
  refine HGR.out.mono ?_
  rintro e w2 ⟨b, rfl, rfl, hb⟩
  rcases b with _ | _
  rotate_left
  · go_wp2_with fail
    go_ret
    exact ⟨rfl, HX1.out⟩
  clear hb HGR
  go_wp2_with fail
  go_loopw [4, 5, 6] (fun v4 v5 i wr => ∃ k : Nat, k ≤ ps.length ∧ i = .int .i64 k ∧ Hid (BackI w1 wr ps k v4 v5)) (fun _ _ i _ => ps.length - (intOf i).toNat)
  case atStart => exact ⟨0, Nat.zero_le _, rfl, by unfold BackI; exact ⟨⟨World.ownsRow_nil _ _ _ _, Below.refl _ _⟩, Acc.start w1⟩⟩
  case round =>
    obtain ⟨k, hk2, rfl, HI⟩ := hrel
    have HW := Lib.hid (HX1.out.trans (HI.out.2.2.mono HX1.out.size))
    by_cases hlt : k < ps.length
    · obtain ⟨b, off, hA, hb, hx⟩ := HM.out (by intro e; subst e; simp at hlt)
      subst hA
      obtain ⟨hp1, hp2, hp3⟩ := HP.out ps[k] (List.getElem_mem _)
      have x0 := (HW.out.cell (p := ⟨b, off + k * 3 + 0, none⟩) hb).trans (hx k ps[k] (List.getElem?_eq_getElem hlt) 0 _ rfl)
      have x1 := (HW.out.cell (p := ⟨b, off + k * 3 + 1, none⟩) hb).trans (hx k ps[k] (List.getElem?_eq_getElem hlt) 1 _ rfl)
      have x2 := (HW.out.cell (p := ⟨b, off + k * 3 + 2, none⟩) hb).trans (hx k ps[k] (List.getElem?_eq_getElem hlt) 2 _ rfl)
      simp only [Nat.add_zero] at x0
      have HST := Lib.hid (show ps.take (k + 1) = ps.take k ++ [ps[k]] from List.take_succ_eq_append_getElem hlt)
      have HSZ : ((ps.map (·.1)).flatMap put).length ≤ 160000 := by have := puts_le (ps.map (·.1)); have := HG.out; omega
      have HSL : (((ps.take (k + 1)).map (·.1)).flatMap put).length ≤ ((ps.map (·.1)).flatMap put).length := by rw [List.map_take]; exact put_len _ _
      rw [HST.out, List.map_append, List.flatMap_append, List.length_append] at HSL
      have hfl : ((ps.take k).filter fun p => fine p.1).length ≤ ps.length := Nat.le_trans (List.length_filter_le _ _) (by simp; omega)
      have hbz : b < wr.heap.size := Nat.lt_of_lt_of_le hb HW.out.size
      obtain ⟨A2, c2, hv2, hc2, -⟩ := hp1
      have HPUT := Lib.hid (Put_own ps[k].1 ps[k].2 wr (LawFrame.RowsAt.below (HP.out ps[k] (List.getElem_mem _)).1 HW.out) hp2 hp3)
      unfold aduV at HPUT
      rw [hv2] at x2 HPUT
      clear hx
      generalize hq : ps[k] = q at *
      obtain ⟨f, qv⟩ := q
      dsimp only at *
      have HV := Lib.hid hv2
      clear hv2
      have hk1 : (k : Int) < (ps.length : Int) := by omega
      have HQ := Lib.hid hq
      clear hq
      rcases hf : fine f with _ | _
      · have hput := put_bad hf
        have HI2 := Lib.hid (back_bad HI.out HST.out hf)
        have HBAD := Lib.hid (fine_no hf)
        clear hf
        rw [hput] at HPUT
        clear hput
        generalize hpn : f.pdu.length = pn at *
        have HPN := Lib.hid hpn
        clear hpn
        go_wp2_with fail
        refine HPUT.out.mono ?_
        rintro e w3 ⟨⟨v3, rfl, hv3, hk3⟩, hb3⟩
        obtain ⟨A3, c3, rfl, hc3, -⟩ := hv3
        have x2' := (hb3.cell (p := ⟨b, off + k * 3 + 2, none⟩) hbz).trans x2
        have HI3 := Lib.hid (show BackI w1 w3 ps (k + 1) u4 u5 from ⟨HI2.out.1.below hb3, HI2.out.2.below hb3⟩)
        clear hb3 hk3 HPUT HI HI2 x0 x1 x2 HW
        simp only [List.length_nil]
        rcases HBAD.out with h0 | h0
        · have ht : decide ((0 : Int) < (pn : Int)) = false := decide_eq_false (by omega)
          go_wp2_with fail
          go_roundw
          case rel => exact ⟨k + 1, by omega, by go_num, HI3.out⟩
          case measure => simp [intOf]; omega
        · have ht : decide ((0 : Int) < (pn : Int)) = true := decide_eq_true (by omega)
          have ht2 : decide ((pn : Int) ≤ 253) = false := decide_eq_false (by omega)
          go_wp2_with fail
          go_roundw
          case rel => exact ⟨k + 1, by omega, by go_num, HI3.out⟩
          case measure => simp [intOf]; omega
      · have hput := put_fine_len hf
        have hfy := fine_yes hf
        have HFN := Lib.hid hf
        clear hf
        have HS5 := Lib.hid (one_bytes (put f))
        simp only [List.map_cons, List.map_nil, List.flatMap_cons, List.flatMap_nil, List.append_nil] at HSL
        unfold BackI at HI
        generalize hxs : (ps.take k).filter (fun p => fine p.1) = qs at *
        generalize hys : ((ps.take k).map (·.1)).flatMap put = xs at *
        have HXS := Lib.hid hxs
        have HYS := Lib.hid hys
        clear hxs hys
        rw [hput] at HSL
        go_wp2_with fail
        refine HPUT.out.mono ?_
        rintro e w3 ⟨⟨v3, rfl, hv3, hk3⟩, hb3⟩
        obtain ⟨A3, c3, rfl, hc3, -⟩ := hv3.reads
        have HV3 := Lib.hid hv3
        have HK3 := Lib.hid hk3
        have x0' := (hb3.cell (p := ⟨b, off + k * 3, none⟩) hbz).trans x0
        have x1' := (hb3.cell (p := ⟨b, off + k * 3 + 1, none⟩) hbz).trans x1
        have x2' := (hb3.cell (p := ⟨b, off + k * 3 + 2, none⟩) hbz).trans x2
        have HI3 := Lib.hid (show WantAt w1 w3 qs u4 ∧ Acc w1 w3 xs u5 from ⟨HI.out.1.below hb3, HI.out.2.below hb3⟩)
        have hbz3 : b < w3.heap.size := Nat.lt_of_lt_of_le hbz hb3.size
        have hsz3 : w1.heap.size ≤ w3.heap.size := HI3.out.1.2.size
        have HPN := Lib.hid hput
        clear hput hb3 hv3 hk3 HPUT HI x0 x1 x2 HW
        generalize hpn : f.pdu.length = pn at *
        rw [HPN.out]
        have HPL := Lib.hid hpn
        clear hpn
        have t1 : decide ((0 : Int) < (pn : Int)) = true := decide_eq_true (by omega)
        have t2 : decide ((pn : Int) ≤ 253) = true := decide_eq_true (by omega)
        go_wp2_with (first | (at_builtin; refine Words.wpList_append_any _ rfl (.tmp 64) (.tmp 69) _ rfl w1.heap.size 26 i6 _ 3 32 Try.underlying32 hi6 hz60 hz61 hz62 rfl (by omega) _ qs.length (qs.flatMap aduCells) rfl (HI3.out.1.1.alloc _) (w3.heap.size + 1) (some ⟨w3.heap.size, 0, none⟩) 1 1 (aduCells (f, .slice A2 pn c2)) rfl (LawFrame.reads_block (heap_alloc_new w3 _) (Nat.lt_succ_self _) rfl) (adu_one f A2 pn c2) (by simp only [maxLen]; omega) (by omega) (by simp; omega) ?_; intro v4 w4 ho4 hg4 _; have HI4 := Lib.hid (back_want HI3.out HV3.out HK3.out ho4 hg4); clear ho4 hg4) | (at_builtin; refine Words.wpList_append_any _ rfl (.tmp 71) (.tmp 72) _ rfl w1.heap.size 5 i0 _ 1 1 Try.underlying22 hi0 hz0 hz1 hz2 rfl (by omega) _ xs.length (xs.map bV) rfl HI4.out.2.1.1 w4.heap.size A3 (pn + 7) c3 ((put f).map bV) rfl (back_reads HI4.out.2.2 HPN.out) HS5.out (by simp only [maxLen]; omega) (by omega) HI4.out.1.2.size ?_; intro v5 w5 ho5 hg5 _; have HI5 := Lib.hid (back_all HI4.out HPN.out ho5 hg5); clear ho5 hg5))
        go_roundw
        case rel => exact ⟨k + 1, by omega, by go_num, by have h5 := HI5.out; rw [← HXS.out, ← HYS.out, ← HV.out] at h5; exact back_good HST.out HFN.out h5.1 h5.2⟩
        case measure => simp [intOf]; omega
    · have hkl : k = ps.length := by omega
      have HE := Lib.hid (back_end hkl HI.out)
      have HXW := Lib.hid (back_rest HP.out HX1.out HE.out)
      subst hkl
      clear HI
      have HCC := Lib.hid (back_cut ps (fun p hq => (HP.out p hq).2.1))
      obtain ⟨A5, c5, h5, -, -⟩ := HXW.out.2.1
      subst h5
      have HSZ : ((ps.map (·.1)).flatMap put).length ≤ 160000 := by have := puts_le (ps.map (·.1)); have := HG.out; omega
      have HLL : ((ps.map (·.1)).filter fine).length ≤ ps.length := Nat.le_trans (List.length_filter_le _ _) (by simp)
      generalize (ps.map (·.1)).flatMap put = bs at *
      generalize (ps.map (·.1)).filter fine = fs at *
      clear HE HM HP HG HW
      go_wp2_with fail
      refine (Cut_any bs _ wr HXW.out.2.1 (by omega)).mono ?_
      rintro e w5 ⟨⟨A6, c6, rfl, hF6, -⟩, hb6⟩
      have HF7 := Lib.hid (HXW.out.1.below hb6)
      have HX7 := Lib.hid (HXW.out.2.2.trans (hb6.mono HXW.out.2.2.size))
      rw [HCC.out] at hF6
      rw [HCC.out]
      dsimp only at hF6 ⊢
      have HF6 := Lib.hid hF6
      clear hF6 hb6 HXW
      go_wp2_with fail
      refine (SameAll_true fs _ _ w5 HF6.out HF7.out (by omega)).mono ?_
      rintro e w6 ⟨rfl, hb7⟩
      go_wp2_with fail
      go_ret
      exact ⟨rfl, HX7.out.trans (hb7.mono HX7.out.size)⟩
theorem own : ownKnob Try.prog.godebug = none := by kernel_rfl
theorem rows_map {α β : Type} {w : World} {m : Nat} {f : β → List Value} {g : α → β} {l : List α} {v : Value} (h : LawFrame.RowsAt w m (fun x => f (g x)) l v) : LawFrame.RowsAt w m f (l.map g) v := by
  obtain ⟨A, c, rfl, hc, hx⟩ := h
  refine ⟨A, c, by simp, by simpa using hc, fun hne => ?_⟩
  obtain ⟨b, off, rfl, hb, hx⟩ := hx (by simpa using hne)
  refine ⟨b, off, rfl, hb, fun i x hi d u hu => ?_⟩
  rw [List.getElem?_map, Option.map_eq_some_iff] at hi
  obtain ⟨y, hy, rfl⟩ := hi
  exact hx i y hy d u hu
theorem open_frames {H : Type} {enc : TypeId × Value → H} {w : World} {base : Nat} {v : Value} {d : DataW H} {p : List MemPlace} (hv : Value.okWide Try.prog w .any base 32 v)
    (h : DataW.Trod enc Try.prog w 0 (fun _ => true) true 32 v d p) : ∃ ps, LawFrame.RowsAt w 3 aduCells ps v ∧ (∀ p ∈ ps, BytesAt w p.1.pdu p.2 ∧ p.1.id < 65536 ∧ p.1.pdu.length ≤ 9223372036854775807) ∧ ps.length ≤ maxLen := by
  obtain ⟨l, hl, hn⟩ := LawFrame.open_rows (fun x : { p : Adu × Value // BytesAt w p.1.pdu p.2 ∧ p.1.id < 65536 ∧ p.1.pdu.length ≤ 9223372036854775807 } => aduCells x.1) Try.underlying32 Try.underlying26 (by kernel_rfl) (by kernel_rfl) (by decide) (fun vs hd => by
    obtain ⟨n0, y0, t0⟩ := hd 0 _ rfl
    obtain ⟨n1, y1, t1⟩ := hd 1 _ rfl
    obtain ⟨n2, y2, t2⟩ := hd 2 _ rfl
    obtain ⟨b0, hb0, _, hw0⟩ := DataW.trod_int Try.underlying24 t0
    obtain ⟨b1, hb1, _, hw1⟩ := DataW.trod_int Try.underlying5 t1
    obtain ⟨l, hl, hll⟩ := LawFrame.open_bytes_at Try.underlying22 Try.underlying5 (by kernel_rfl) t2
    simp only [List.cons.injEq, and_true] at hb0 hb1
    obtain ⟨h00, h01⟩ := bounds_u16 hw0
    obtain ⟨h10, h11⟩ := bounds_u8 hw1
    have e0 : ((b0.toNat : Nat) : Int) = b0 := by omega
    have e1 : (((UInt8.ofNat b1.toNat).toNat : Nat) : Int) = b1 := by rw [UInt8.toNat_ofNat']; omega
    refine ⟨⟨(⟨b0.toNat, UInt8.ofNat b1.toNat, l⟩, vs 2), hl, by dsimp only; omega, hll⟩, fun j u hu => ?_⟩
    match j, hu with
    | 0, hu => exact ⟨by decide, by rw [hb0, ← e0]; exact (Option.some.inj hu).symm⟩
    | 1, hu => exact ⟨by decide, by rw [hb1, ← e1]; exact (Option.some.inj hu).symm⟩
    | 2, hu => exact ⟨by decide, (Option.some.inj hu).symm⟩) hv h
  refine ⟨l.map (·.1), rows_map hl, fun p hp => ?_, by simpa using hn⟩
  obtain ⟨x, -, rfl⟩ := List.mem_map.1 hp
  exact x.2
set_option maxRecDepth 100000 in
theorem mbapBack_lifted (os : Os) (started : os.Started) (H : Type) (enc : TypeId × Value → H) :
    ReturnsInHanded {} Try.checked os 5 .any (Rows.mbapBackSpec.pre6 enc Try.prog Try.f5 Rows.mbapBackRow.domain false) (Rows.mbapBackSpec.post enc Try.prog Try.f5 false true false false) := by
  refine LawFrame.handed (C := Try.checked) (tb := 4) (by kernel_rfl) (by kernel_rfl) (by kernel_rfl) Try.underlying4 rfl (fun ds hd => ?_) own started (by kernel_rfl) Try.func5
    (ChangeSpec.witness6 (enc := enc) (C := Try.checked) false ⟨#[], #[.slice none 0 0], []⟩ 8 (by kernel_rfl) (by kernel_rfl) (by kernel_rfl) (by kernel_rfl)) ?_
  · rw [Try.params5] at hd
    match ds, hd with
    | [d1], _ => rfl
  · intro W args ds before base hval hA hlt hsz
    rw [Try.params5] at hval hA
    obtain ⟨v0, vs0, d0, ds0, p0, q0, hargs, rfl, rfl, h0, r0⟩ := trodAll_cons hA
    obtain ⟨rfl, rfl, rfl⟩ := trodAll_nil r0
    obtain rfl : args = #[v0] := by cases args; simp_all
    obtain ⟨ps, hps, hp, hn⟩ := open_frames (hval 0 32 v0 rfl rfl) h0
    by_cases h5 : (ps.map (·.1)).length + bytes (ps.map (·.1)) < 20000
    · exact back_walk ps v0 W hps hp h5
    · exact back_big _ v0 W ⟨ps, rfl, hps, hp⟩ (by rw [List.length_map]; exact hn) h5
theorem mbapBack_holds : Rows.MbapBackSaid :=
  OpenClaim.holds_of_wide 5 Try.f5 rfl rfl rfl rfl rfl rfl rfl ⟨rfl, rfl, rfl, rfl, rfl⟩ rfl rfl rfl rfl rfl (by kernel_rfl) Try.func5 (by kernel_rfl)
    (of_decide_eq_true (by kernel_rfl)) (by unfold Func.isWrapper; first | (rw [if_pos (by decide +kernel)]; kernel_rfl) | (rw [if_neg (by decide +kernel)]; exact ⟨rfl, rfl⟩))
    (fun os started H enc _ => mbapBack_lifted os started H enc)
#print axioms mbapBack_holds
end Go.Proofs.Ythcgomfejibkhaa
