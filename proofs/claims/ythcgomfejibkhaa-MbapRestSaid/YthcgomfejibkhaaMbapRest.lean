/-
  MbapRest: what is cut are the frames, byte by byte, that bytes begin with; what is left begins with none. For every row of bytes.
-/
import Derived.Test.YthcgomfejibkhaaMbapCutIs
import Derived.Deep.RegionHeld3
import Derived.Deep.DrawnRows
namespace Go.Proofs.Ythcgomfejibkhaa
open Go.RowKit Go.ChangeShapes Go.WideShapes Mbap
attribute [local go_sem ↓] Go.wp_at_zero Go.wp_at_succ

theorem rest_big (A : Option Addr) (n c : Nat) (w : World) (h : 20000 < n) :
    Calls Try.prog 7 #[.slice A n c] w fun e w' => e = .returned (.bool true) ∧ Below w.heap.size w w' := by
  go_enter Try.func7, Try.ntmps7
  go_wp2_with fail
  refine (head_any _).mono ?_
  rintro e w1 ⟨rfl, hb1⟩
  go_wp2_with fail
  go_ret
  exact ⟨rfl, hb1⟩
theorem cut_bytes_eq {w : World} {A : Option Addr} {l : List UInt8} {n : Nat} (h : BytesAt w l (.slice A l.length n)) : BytesAt w (l.drop n) (.slice A 0 0) := by
  obtain ⟨A', c', e, hc, -⟩ := h
  injection e with _ _ e3
  subst e3
  have hd : l.drop n = [] := List.drop_eq_nil_of_le (by omega)
  rw [hd]
  exact ⟨A, 0, rfl, Nat.le_refl _, fun h => absurd rfl h⟩
theorem cut_bytes {w : World} {A : Option Addr} {l : List UInt8} {n c : Nat} (h : BytesAt w l (.slice A l.length c)) (hn : n ≤ l.length) (hc : ¬ c = n) : BytesAt w (l.drop n) (.slice (A.map (·.add n)) (l.length - n) (c - n)) := by
  have hcc : l.length ≤ c := by obtain ⟨A', c', e, hc, -⟩ := h; injection e with _ _ e3; omega
  have h1 := (reads_of h).cut (k := n) (cap := c) hn hcc
  rw [if_neg hc, Nat.mul_one, ← List.map_drop, ← List.length_drop] at h1
  rw [← List.length_drop]
  exact BytesAt.of_reads h1 (Nat.le_refl _) (by simp; omega)
theorem head_bytes {w : World} {A : Option Addr} {l : List UInt8} {n c : Nat} (h : BytesAt w l (.slice A l.length c)) (hn : n ≤ l.length) : BytesAt w (l.take n) (.slice A n c) := by
  obtain ⟨A', c', e, hc, hx⟩ := h
  injection e with e1 _ e3
  subst e1
  subst e3
  have hl : (l.take n).length = n := by simp; omega
  refine ⟨A, c, by rw [hl], by omega, fun hne => ?_⟩
  obtain ⟨b, off, rfl, hb, hx⟩ := hx (by intro e; subst e; simp at hne)
  refine ⟨b, off, rfl, hb, fun i x hi d u hu => hx i x ?_ d u hu⟩
  rw [List.getElem?_take] at hi
  split at hi
  · exact hi
  · cases hi
/-- bytes that are gathered -/
def Acc (W2 W : World) (xs : List UInt8) (v : Value) : Prop := W.ownsRow W2.heap.size 5 1 v xs.length (xs.map bV) ∧ Below W2.heap.size W2 W
theorem Acc.start (W : World) : Acc W W [] (.slice none 0 0) := ⟨World.ownsRow_nil _ _ _ _, Below.refl _ _⟩
theorem Acc.below {W2 W W' : World} {xs : List UInt8} {v : Value} (h : Acc W2 W xs v) (hb : Below W.heap.size W W') : Acc W2 W' xs v :=
  ⟨h.1.kept (row := none) (grown_of_below hb) (by rcases hv : v.ownBlock with _ | g <;> simp), h.2.trans (hb.mono h.2.size)⟩
theorem Acc.more {W2 W W' : World} {xs ys : List UInt8} {v v' : Value} (h : Acc W2 W xs v) (ho : W'.ownsRow W2.heap.size 5 1 v' (xs.length + ys.length) (xs.map bV ++ ys.map bV)) (hg : W.grownBy W' v.ownBlock) : Acc W2 W' (xs ++ ys) v' :=
  ⟨by rw [List.length_append, List.map_append]; exact ho, h.2.grown hg h.2.size (fun k hk => (h.1.lt k hk).1)⟩
theorem Acc.bytes {W2 W : World} {xs : List UInt8} {v : Value} (h : Acc W2 W xs v) : BytesAt W xs v := BytesAt.of_own h.1
theorem put_len (fs : List Adu) (k : Nat) : ((fs.take k).flatMap put).length ≤ (fs.flatMap put).length := by
  conv => rhs; rw [← List.take_append_drop k fs]
  rw [List.flatMap_append, List.length_append]; omega
theorem rest_end {w2 wr w3 : World} {l xs : List UInt8} {v : Value} {A : Option Addr} {n c : Nat} (hA : Acc w2 wr xs v) (hP : xs = l.take n) (hB : BytesAt wr l (.slice A l.length c)) (hn : n ≤ l.length) (hb : Below wr.heap.size wr w3) :
    Below w2.heap.size w2 w3 ∧ BytesAt w3 (l.take n) v ∧ BytesAt w3 (l.take n) (.slice A n c) :=
  ⟨hA.2.trans (hb.mono hA.2.size), hP ▸ (hA.below hb).bytes, LawFrame.RowsAt.below (head_bytes hB hn) hb⟩
set_option maxRecDepth 100000 in
set_option maxHeartbeats 2000000 in
theorem rest_walk (l : List UInt8) (v : Value) (w : World) (hl : l.length ≤ 20000) (hb : BytesAt w l v) :
    Calls Try.prog 7 #[v] w fun e w' => e = .returned (.bool true) ∧ Below w.heap.size w w' := by
  obtain ⟨i0, hi0, hz0, hz1, hz2⟩ := info_parts u8_info
  obtain ⟨A, c, rfl, hc, -⟩ := hb.reads
  have hd3 : decide ((20000 : Int) < (l.length : Int)) = false := by simp; omega
  have HB := Lib.hid hb
  have hcut := cut_le l
  have hcn := hcut.1
  have HCUT := Lib.hid hcut.2
  clear hb hcut
  go_enter Try.func7, Try.ntmps7
  go_wp2_with fail
  refine (head_any _).mono ?_
  rintro e w1 ⟨rfl, hb1⟩
  have HB1 := Lib.hid (LawFrame.RowsAt.below HB.out hb1)
  have HX1 := Lib.hid hb1
  clear HB hb1
  go_wp2_with fail
  refine (Cut_any l _ _ HB1.out (by omega)).mono ?_
  rintro e w2 ⟨⟨A2, c2, rfl, hF, -⟩, hb2⟩
  have HB2 := Lib.hid (LawFrame.RowsAt.below HB1.out hb2)
  have HX2 := Lib.hid (HX1.out.trans (hb2.mono HX1.out.size))
  have HF := Lib.hid hF
  have hk : (cut l).1.length ≤ 20000 := by have := cut_count l; omega
  have HP := Lib.hid (put_cut l)
  clear HB1 hb2 HX1 hF
  generalize hcs : (cut l).2.1 = n at *
  generalize hce : (cut l).2.2 = er at *
  generalize hcf : (cut l).1 = fs at *
  have hd1 : decide ((n : Int) < 0) = false := by simp
  have hd2 : decide (l.length < n) = false := by simp; omega
  go_wp2_with fail
  have hfl : (fs.flatMap put).length ≤ 20000 := by rw [HP.out]; simp; omega
  go_loopw [7, 8] (fun a i wr => ∃ k : Nat, k ≤ fs.length ∧ i = .int .i64 k ∧ Hid (Acc w2 wr ((fs.take k).flatMap put) a)) (fun _ i _ => fs.length - (intOf i).toNat)
  case atStart => exact ⟨0, Nat.zero_le _, rfl, Acc.start w2⟩
  case round =>
    obtain ⟨k, hk2, rfl, HA⟩ := hrel
    have HW := Lib.hid HA.out.2
    by_cases hlt : k < fs.length
    · obtain ⟨g1, o1, d1, B1, e1, hv1, hc1, hg1, x0, x1, x2, xb, hid, hpl⟩ := frame_at (HF.out.below HW.out) hlt
      injection hv1 with hA1 _ hd1
      subst hA1
      have HS := Lib.hid (Put_any fs[k] _ wr xb hid hpl)
      have hlen := put_len fs (k + 1)
      have HT := Lib.hid (show (fs.take (k + 1)).flatMap put = (fs.take k).flatMap put ++ put fs[k] by rw [List.take_succ_eq_append_getElem hlt, List.flatMap_append]; simp)
      rw [HT.out, List.length_append] at hlen
      have hk1 : (k : Int) < (fs.length : Int) := by omega
      unfold aduV at HS
      clear xb hd1 hid hpl
      go_wp2_with fail
      refine HS.out.mono ?_
      rintro e w3 ⟨⟨v3, rfl, hv3⟩, hb3⟩
      obtain ⟨A3, c3, rfl, hc3, hr3⟩ := hv3.reads
      have HA3 := Lib.hid (HA.out.below hb3)
      have HR3 := Lib.hid hr3
      have HO3 := Lib.hid (one_bytes (put fs[k]))
      have hsz : w2.heap.size ≤ w3.heap.size := HA3.out.2.size
      clear hb3 hv3 hr3 x0 x1 x2 HS
      generalize hxs : (fs.take k).flatMap put = xs at *
      generalize hys : put fs[k] = ys at *
      have HXS := Lib.hid hxs
      have HYS := Lib.hid hys
      clear hxs hys
      go_wp2_with (at_builtin; refine Words.wpList_append_any _ rfl (.tmp 37) (.tmp 42) _ rfl w2.heap.size 5 i0 _ 1 1 Try.underlying22 hi0 hz0 hz1 hz2 rfl (by omega) _ xs.length (xs.map bV) rfl HA3.out.1 w3.heap.size A3 ys.length c3 (ys.map bV) rfl HR3.out HO3.out (by simp only [maxLen]; omega) (by omega) hsz ?_; intro v4 w4 ho4 hg4 _; have HA4 := Lib.hid (HA3.out.more ho4 hg4); clear ho4 hg4)
      go_roundw
      case rel => exact ⟨k + 1, by omega, by go_num, by rw [HT.out]; exact HA4.out⟩
      case measure => simp [intOf]; omega
    · have hkl : k = fs.length := by omega
      subst hkl
      rw [List.take_length] at HA
      have HBW := Lib.hid (LawFrame.RowsAt.below HB2.out HW.out)
      by_cases hcn2 : c = n
      · subst hcn2
        have HCB := Lib.hid (cut_bytes_eq HBW.out)
        go_wp2_with fail
        refine (First_none HCUT.out _ _ HCB.out (by simp; omega)).mono ?_
        rintro e w3 ⟨rfl, hb3⟩
        have hx3 := rest_end HA.out HP.out HBW.out hcn hb3
        have HX3 := Lib.hid (HX2.out.trans (hx3.1.mono HX2.out.size))
        have HX4 := Lib.hid hx3
        clear HA HBW HCB HB2 HF HW hb3 hx3 HX2
        go_upto_region 13 with fail
        have hB5 := heap_alloc_new w3 (.cells #[.int .u16 0, .int .u8 0, .slice none 0 0] 26)
        have HQ1 := Lib.hid (HX4.out.2.1.alloc (.cells #[.int .u16 0, .int .u8 0, .slice none 0 0] 26))
        have HQ2 := Lib.hid (HX4.out.2.2.alloc (.cells #[.int .u16 0, .int .u8 0, .slice none 0 0] 26))
        have hx5 : Below w.heap.size w (w3.alloc (.cells #[.int .u16 0, .int .u8 0, .slice none 0 0] 26)) := HX3.out.alloc HX3.out.size _
        clear HX3 HX4
        generalize w3.alloc (.cells #[.int .u16 0, .int .u8 0, .slice none 0 0] 26) = w6 at *
        have z0 : w6.cell? ⟨w3.heap.size, 0, none⟩ = some (.int .u16 0) := cell_of_row _ _ _ _ _ _ hB5
        have z1 : w6.cell? ⟨w3.heap.size, 1, none⟩ = some (.int .u8 0) := cell_of_row _ _ _ _ _ _ hB5
        have z2 : w6.cell? ⟨w3.heap.size, 2, none⟩ = some (.slice none 0 0) := cell_of_row _ _ _ _ _ _ hB5
        have HX5 := Lib.hid hx5
        have hlt6 : w3.heap.size < w6.heap.size := (Array.getElem?_eq_some_iff.1 hB5).1
        clear hB5 hx5
        go_region_held3 (fun w' => w'.cell? ⟨w3.heap.size, 0, none⟩ = some (.int .u16 0) ∧ w'.cell? ⟨w3.heap.size, 1, none⟩ = some (.int .u8 0) ∧ w'.cell? ⟨w3.heap.size, 2, none⟩ = some (.slice none 0 0) ∧ (convert 22 9 u7).run Try.prog w' = .ok (.string ⟨(l.take c).toArray⟩) w' ∧ (convert 22 9 (.slice A c c)).run Try.prog w' = .ok (.string ⟨(l.take c).toArray⟩) w')
          (first | exact ⟨z0, z1, z2, BytesAt.string HQ1.out, BytesAt.string HQ2.out⟩ | exact ⟨hk0, hk1, hk2', hk3, hk4⟩)
          (first | (go_at_call 17; refine (Same_true ⟨0, 0, []⟩ (.slice none 0 0) (.slice none 0 0) _ (LawFrame.RowsAt.nil _ _ _) (LawFrame.RowsAt.nil _ _ _)).mono ?_; rintro e w7 ⟨rfl, hb7⟩; have hk0 := (hb7.cell (p := ⟨w3.heap.size, 0, none⟩) hlt6).trans z0; have hk1 := (hb7.cell (p := ⟨w3.heap.size, 1, none⟩) hlt6).trans z1; have hk2' := (hb7.cell (p := ⟨w3.heap.size, 2, none⟩) hlt6).trans z2; have hk3 := BytesAt.string (LawFrame.RowsAt.below (w := w6.drew) HQ1.out hb7); have hk4 := BytesAt.string (LawFrame.RowsAt.below (w := w6.drew) HQ2.out hb7)))
        go_wp2_with fail
        go_ret
        exact ⟨rfl, HX5.out.trans (Below.mono (w := w6) (w' := w7) ⟨hb7.os, hb7.tape, hb7.output, hb7.size, hb7.block⟩ HX5.out.size)⟩
      · have HCB := Lib.hid (cut_bytes HBW.out hcn hcn2)
        have hnc : (n : Int) ≤ (c : Int) := by omega
        have hnc2 : n ≤ c := by omega
        have hn0 : (0 : Int) ≤ (n : Int) := by omega
        go_wp2_with fail
        refine (First_none HCUT.out _ _ HCB.out (by simp; omega)).mono ?_
        rintro e w3 ⟨rfl, hb3⟩
        have hx3 := rest_end HA.out HP.out HBW.out hcn hb3
        have HX3 := Lib.hid (HX2.out.trans (hx3.1.mono HX2.out.size))
        have HX4 := Lib.hid hx3
        clear HA HBW HCB HB2 HF HW hb3 hx3 HX2
        go_upto_region 13 with fail
        have hB5 := heap_alloc_new w3 (.cells #[.int .u16 0, .int .u8 0, .slice none 0 0] 26)
        have HQ1 := Lib.hid (HX4.out.2.1.alloc (.cells #[.int .u16 0, .int .u8 0, .slice none 0 0] 26))
        have HQ2 := Lib.hid (HX4.out.2.2.alloc (.cells #[.int .u16 0, .int .u8 0, .slice none 0 0] 26))
        have hx5 : Below w.heap.size w (w3.alloc (.cells #[.int .u16 0, .int .u8 0, .slice none 0 0] 26)) := HX3.out.alloc HX3.out.size _
        clear HX3 HX4
        generalize w3.alloc (.cells #[.int .u16 0, .int .u8 0, .slice none 0 0] 26) = w6 at *
        have z0 : w6.cell? ⟨w3.heap.size, 0, none⟩ = some (.int .u16 0) := cell_of_row _ _ _ _ _ _ hB5
        have z1 : w6.cell? ⟨w3.heap.size, 1, none⟩ = some (.int .u8 0) := cell_of_row _ _ _ _ _ _ hB5
        have z2 : w6.cell? ⟨w3.heap.size, 2, none⟩ = some (.slice none 0 0) := cell_of_row _ _ _ _ _ _ hB5
        have HX5 := Lib.hid hx5
        have hlt6 : w3.heap.size < w6.heap.size := (Array.getElem?_eq_some_iff.1 hB5).1
        clear hB5 hx5
        go_region_held3 (fun w' => w'.cell? ⟨w3.heap.size, 0, none⟩ = some (.int .u16 0) ∧ w'.cell? ⟨w3.heap.size, 1, none⟩ = some (.int .u8 0) ∧ w'.cell? ⟨w3.heap.size, 2, none⟩ = some (.slice none 0 0) ∧ (convert 22 9 u7).run Try.prog w' = .ok (.string ⟨(l.take n).toArray⟩) w' ∧ (convert 22 9 (.slice A n c)).run Try.prog w' = .ok (.string ⟨(l.take n).toArray⟩) w')
          (first | exact ⟨z0, z1, z2, BytesAt.string HQ1.out, BytesAt.string HQ2.out⟩ | exact ⟨hk0, hk1, hk2', hk3, hk4⟩)
          (first | (go_at_call 17; refine (Same_true ⟨0, 0, []⟩ (.slice none 0 0) (.slice none 0 0) _ (LawFrame.RowsAt.nil _ _ _) (LawFrame.RowsAt.nil _ _ _)).mono ?_; rintro e w7 ⟨rfl, hb7⟩; have hk0 := (hb7.cell (p := ⟨w3.heap.size, 0, none⟩) hlt6).trans z0; have hk1 := (hb7.cell (p := ⟨w3.heap.size, 1, none⟩) hlt6).trans z1; have hk2' := (hb7.cell (p := ⟨w3.heap.size, 2, none⟩) hlt6).trans z2; have hk3 := BytesAt.string (LawFrame.RowsAt.below (w := w6.drew) HQ1.out hb7); have hk4 := BytesAt.string (LawFrame.RowsAt.below (w := w6.drew) HQ2.out hb7)))
        go_wp2_with fail
        go_ret
        exact ⟨rfl, HX5.out.trans (Below.mono (w := w6) (w' := w7) ⟨hb7.os, hb7.tape, hb7.output, hb7.size, hb7.block⟩ HX5.out.size)⟩
theorem own : ownKnob Try.prog.godebug = none := by kernel_rfl
set_option maxRecDepth 100000 in
theorem mbapRest_lifted (os : Os) (started : os.Started) (H : Type) (enc : TypeId × Value → H) :
    ReturnsInHanded {} Try.checked os 7 .any (Rows.mbapRestSpec.pre6 enc Try.prog Try.f7 Rows.mbapRestRow.domain false) (Rows.mbapRestSpec.post enc Try.prog Try.f7 false true false false) := by
  refine LawFrame.handed (C := Try.checked) (tb := 4) (by kernel_rfl) (by kernel_rfl) (by kernel_rfl) Try.underlying4 rfl (fun ds hd => ?_) own started (by kernel_rfl) Try.func7
    (ChangeSpec.witness6 (enc := enc) (C := Try.checked) false ⟨#[], #[.slice none 0 0], []⟩ 8 (by kernel_rfl) (by kernel_rfl) (by kernel_rfl) (by kernel_rfl)) ?_
  · rw [Try.params7] at hd
    match ds, hd with
    | [d1], _ => rfl
  · intro W args ds before base hval hA hlt hsz
    rw [Try.params7] at hval hA
    obtain ⟨v0, vs0, d0, ds0, p0, q0, hargs, rfl, rfl, h0, r0⟩ := trodAll_cons hA
    obtain ⟨rfl, rfl, rfl⟩ := trodAll_nil r0
    obtain rfl : args = #[v0] := by cases args; simp_all
    obtain ⟨b, hb, _⟩ := LawFrame.open_bytes Try.underlying22 Try.underlying5 (by kernel_rfl) (hval 0 22 v0 rfl rfl) h0
    by_cases h5 : 20000 < b.length
    · obtain ⟨A, c, rfl, hc, -⟩ := hb
      exact rest_big A _ c W h5
    · exact rest_walk b v0 W (by omega) hb
theorem mbapRest_holds : Rows.MbapRestSaid :=
  OpenClaim.holds_of_wide 7 Try.f7 rfl rfl rfl rfl rfl rfl rfl ⟨rfl, rfl, rfl, rfl, rfl⟩ rfl rfl rfl rfl rfl (by kernel_rfl) Try.func7 (by kernel_rfl)
    (of_decide_eq_true (by kernel_rfl)) (by unfold Func.isWrapper; first | (rw [if_pos (by decide +kernel)]; kernel_rfl) | (rw [if_neg (by decide +kernel)]; exact ⟨rfl, rfl⟩))
    (fun os started H enc _ => mbapRest_lifted os started H enc)
#print axioms mbapRest_holds
end Go.Proofs.Ythcgomfejibkhaa
