/-
  check.pick, walked, with each of the tests that are given to it.
-/
import Derived.Test.YtbpenoelmangkaaChkIds
namespace Go.Proofs.Ytbpenoelmangkaa
open Go.RowKit
/-- the numbers of some, told -/
def PicksIs (l : List Int) (w : World) (e : Ending) (w' : World) : Prop := ∃ v, e = .returned v ∧ NumsAt w' l v ∧ Below w.heap.size w w'
/-- the line of a device -/
def lineOf (ds : List Dev) (i : Int) : Int := match ds[i.toNat]? with | some d => d.line | none => -1
theorem lineOf_of {ds : List Dev} {k : Nat} {d : Dev} (h : ds[k]? = some d) : lineOf ds (k : Int) = d.line := by
  unfold lineOf
  rw [Int.toNat_natCast, h]
set_option maxHeartbeats 4000000 in
set_option maxRecDepth 100000 in
theorem pickP_any (w : World) (l : List Pt) (v : Value) (h : PtsAt w l v) (hl : l.length ≤ 1000) (B : Nat) (c : Int) (hB : Words.Blk w B 3 #[.int .i64 c]) :
    Calls Try.prog 30 #[v, .func (.func 31) #[] #[.pointer (some ⟨B, 0, none⟩)]] w (PicksIs (ids (fun x : Pt => x.dev == c) l) w) := by
  obtain ⟨i0, hi0, hz0, hz1, hz2⟩ := int_parts
  obtain ⟨A, cc, e, hc, -⟩ := id h
  subst e
  have HL := Lib.hid h
  have HB := Lib.hid hB
  have hBl := hB.lt
  clear h hB
  obtain ⟨p, hp0⟩ : ∃ p, p = (fun x : Pt => x.dev == c) := ⟨_, rfl⟩
  have HP := Lib.hid hp0
  rw [← hp0]
  clear hp0
  have HI0 : Hid (PickIs w (idsUpto p l 0) 0 (.slice none 0 0) w) := Lib.hid ⟨rfl, World.ownsRow_nil _ _ _ _, Below.refl _ _⟩
  go_enter Try.func30, Try.ntmps30
  go_wp2_with fail
  go_loopw [5, 9] (fun o i wr => ∃ k n : Nat, k ≤ l.length ∧ i = .int .i64 k ∧ Hid (PickIs w (idsUpto p l k) n o wr)) (fun _ i _ => l.length - (intOf i).toNat)
  case atStart => exact ⟨0, 0, Nat.zero_le _, rfl, HI0⟩
  case round =>
    clear HI0
    obtain ⟨k, n, hk, rfl, HI⟩ := hrel
    have hn : n ≤ k := by have := HI.out.1; have h2 := idsUpto_len p l k; omega
    have hk0 : (0 : Int) ≤ (k : Int) := by omega
    by_cases hlt : k < l.length
    · obtain ⟨x, hx⟩ : ∃ x, l[k]? = some x := ⟨_, List.getElem?_eq_getElem hlt⟩
      obtain ⟨b, off, hA, hb, hcell⟩ := row_at (LawFrame.RowsAt.below HL.out HI.out.2.2) hx
      subst hA
      have y0 := hcell 0 _ rfl
      have y1 := hcell 1 _ rfl
      have y2 := hcell 2 _ rfl
      have y3 := hcell 3 _ rfl
      have y4 := hcell 4 _ rfl
      have y5 := hcell 5 _ rfl
      simp only [Nat.add_zero] at y0
      have HX := Lib.hid hx
      have hk1 : (k : Int) < (l.length : Int) := by omega
      have HBr := Lib.hid (HB.out.below HI.out.2.2 hBl)
      clear hcell hx hb
      obtain ⟨x0, x1, x2, x3, x4, x5⟩ := x
      simp only at y0 y1 y2 y3 y4 y5
      go_wp2_with fail
      refine (ptOf_any _ ⟨x0, x1, x2, x3, x4, x5⟩ B c HBr.out).mono ?_
      rintro e w1 ⟨rfl, hb⟩
      have hwr : w.heap.size ≤ w1.heap.size := Nat.le_trans HI.out.2.2.size hb.size
      have HI1 := Lib.hid (HI.out.below hb)
      clear hb HI y0 y1 y2 y3 y4 y5 HBr
      cases e1 : (x1 == c) with
      | true =>
        have HY := Lib.hid (idsUpto_yes (p := p) HX.out (by rw [HP.out]; exact e1))
        clear e1
        have HO := Lib.hid (one_int (k : Int))
        go_wp2_with (at_builtin; refine Words.wpList_append_any _ rfl (.tmp 18) (.tmp 20) _ rfl w.heap.size 3 i0 _ 1 8 Try.underlying36 hi0 hz0 hz1 hz2 rfl (by omega) u5 n _ rfl (HI1.out.2.1.alloc _) (w1.heap.size + 1) (some ⟨w1.heap.size, 0, none⟩) 1 1 (nC k) rfl (reads_int _ _ rfl k _) HO.out (by simp only [maxLen]; omega) (by omega) (by simp; omega) ?_; intro v' w2 ho hg hat; have HI2 := Lib.hid (HI1.out.app ho hg HY.out); clear ho hg hat HI1)
        go_roundw
        case rel => exact ⟨k + 1, n + 1, by omega, by go_num, HI2⟩
        case measure => simp [intOf]; omega
      | false =>
        have HI2 : Hid (PickIs w (idsUpto p l (k + 1)) n u5 w1) := Lib.hid (by rw [idsUpto_no (p := p) HX.out (by rw [HP.out]; exact e1)]; exact HI1.out)
        clear e1 HI1
        go_wp2_with fail
        go_roundw
        case rel => exact ⟨k + 1, n, by omega, by go_num, HI2⟩
        case measure => simp [intOf]; omega
    · have hkl : k = l.length := by omega
      have HF : Hid (PickIs w (ids p l) n u5 wr) := Lib.hid (by have h := HI.out; rw [hkl] at h; exact h)
      clear hkl HI
      have hk2 : ¬ (k : Int) < (l.length : Int) := by omega
      go_wp2_with fail
      go_ret
      exact ⟨_, rfl, HF.out.ends, HF.out.2.2⟩
set_option maxHeartbeats 4000000 in
set_option maxRecDepth 100000 in
theorem pickE_any (w : World) (l : List Ef) (v : Value) (h : EfsAt w l v) (hl : l.length ≤ 1000) (hpl : ∀ x ∈ l, x.cs.length ≤ 1125899906842624) (B : Nat) (c : Int) (hB : Words.Blk w B 3 #[.int .i64 c]) :
    Calls Try.prog 33 #[v, .func (.func 34) #[] #[.pointer (some ⟨B, 0, none⟩)]] w (PicksIs (ids (fun x : Ef => decide (c ∈ x.cs)) l) w) := by
  obtain ⟨i0, hi0, hz0, hz1, hz2⟩ := int_parts
  obtain ⟨A, cc, e, hc, -⟩ := id h.1
  subst e
  have HL := Lib.hid h
  have HB := Lib.hid hB
  have hBl := hB.lt
  clear h hB
  obtain ⟨p, hp0⟩ : ∃ p, p = (fun x : Ef => decide (c ∈ x.cs)) := ⟨_, rfl⟩
  have HP := Lib.hid hp0
  rw [← hp0]
  clear hp0
  have HI0 : Hid (PickIs w (idsUpto p l 0) 0 (.slice none 0 0) w) := Lib.hid ⟨rfl, World.ownsRow_nil _ _ _ _, Below.refl _ _⟩
  go_enter Try.func33, Try.ntmps33
  go_wp2_with fail
  go_loopw [5, 9] (fun o i wr => ∃ k n : Nat, k ≤ l.length ∧ i = .int .i64 k ∧ Hid (PickIs w (idsUpto p l k) n o wr)) (fun _ i _ => l.length - (intOf i).toNat)
  case atStart => exact ⟨0, 0, Nat.zero_le _, rfl, HI0⟩
  case round =>
    clear HI0
    obtain ⟨k, n, hk, rfl, HI⟩ := hrel
    have hn : n ≤ k := by have := HI.out.1; have h2 := idsUpto_len p l k; omega
    have hk0 : (0 : Int) ≤ (k : Int) := by omega
    by_cases hlt : k < l.length
    · obtain ⟨x, hx⟩ : ∃ x, l[k]? = some x := ⟨_, List.getElem?_eq_getElem hlt⟩
      obtain ⟨b, off, hA, hb, hcell⟩ := row_at (EfsAt.below HL.out HI.out.2.2).1 hx
      subst hA
      have y0 := hcell 0 _ rfl
      have y1 := hcell 1 _ rfl
      have y2 := hcell 2 _ rfl
      have y3 := hcell 3 _ rfl
      have y4 := hcell 4 _ rfl
      simp only [Nat.add_zero] at y0
      have HX := Lib.hid hx
      have hk1 : (k : Int) < (l.length : Int) := by omega
      have HBr := Lib.hid (HB.out.below HI.out.2.2 hBl)
      have HPT := Lib.hid (NumsAt.below (HL.out.2 _ (List.mem_of_getElem? HX.out)) HI.out.2.2)
      have HPL := Lib.hid (hpl _ (List.mem_of_getElem? HX.out))
      clear hcell hx hb
      obtain ⟨x0, x1, x2, x3, x4, xs⟩ := x
      simp only at y0 y1 y2 y3 y4
      obtain ⟨Ai, ci, e, hci, -⟩ := id HPT.out
      simp only at e
      subst e
      go_wp2_with fail
      refine (efHas_any _ ⟨x0, x1, x2, x3, .slice Ai xs.length ci, xs⟩ HPT.out HPL.out B c HBr.out).mono ?_
      rintro e w1 ⟨rfl, hb⟩
      have hwr : w.heap.size ≤ w1.heap.size := Nat.le_trans HI.out.2.2.size hb.size
      have HI1 := Lib.hid (HI.out.below hb)
      clear hb HI y0 y1 y2 y3 y4 HBr
      cases e1 : (decide (c ∈ xs)) with
      | true =>
        have HY := Lib.hid (idsUpto_yes (p := p) HX.out (by rw [HP.out]; exact e1))
        clear e1
        have HO := Lib.hid (one_int (k : Int))
        go_wp2_with (at_builtin; refine Words.wpList_append_any _ rfl (.tmp 18) (.tmp 20) _ rfl w.heap.size 3 i0 _ 1 8 Try.underlying36 hi0 hz0 hz1 hz2 rfl (by omega) u5 n _ rfl (HI1.out.2.1.alloc _) (w1.heap.size + 1) (some ⟨w1.heap.size, 0, none⟩) 1 1 (nC k) rfl (reads_int _ _ rfl k _) HO.out (by simp only [maxLen]; omega) (by omega) (by simp; omega) ?_; intro v' w2 ho hg hat; have HI2 := Lib.hid (HI1.out.app ho hg HY.out); clear ho hg hat HI1)
        go_roundw
        case rel => exact ⟨k + 1, n + 1, by omega, by go_num, HI2⟩
        case measure => simp [intOf]; omega
      | false =>
        have HI2 : Hid (PickIs w (idsUpto p l (k + 1)) n u5 w1) := Lib.hid (by rw [idsUpto_no (p := p) HX.out (by rw [HP.out]; exact e1)]; exact HI1.out)
        clear e1 HI1
        go_wp2_with fail
        go_roundw
        case rel => exact ⟨k + 1, n, by omega, by go_num, HI2⟩
        case measure => simp [intOf]; omega
    · have hkl : k = l.length := by omega
      have HF : Hid (PickIs w (ids p l) n u5 wr) := Lib.hid (by have h := HI.out; rw [hkl] at h; exact h)
      clear hkl HI
      have hk2 : ¬ (k : Int) < (l.length : Int) := by omega
      go_wp2_with fail
      go_ret
      exact ⟨_, rfl, HF.out.ends, HF.out.2.2⟩
set_option maxHeartbeats 4000000 in
set_option maxRecDepth 100000 in
theorem pickC_any (w : World) (l : List Cs) (v : Value) (h : CssAt w l v) (hl : l.length ≤ 1000) (hpl : ∀ x ∈ l, x.pts.length ≤ 1125899906842624) (B : Nat) (c : Int) (hB : Words.Blk w B 3 #[.int .i64 c]) :
    Calls Try.prog 36 #[v, .func (.func 37) #[] #[.pointer (some ⟨B, 0, none⟩)]] w (PicksIs (ids (fun x : Cs => decide (c ∈ x.pts)) l) w) := by
  obtain ⟨i0, hi0, hz0, hz1, hz2⟩ := int_parts
  obtain ⟨A, cc, e, hc, -⟩ := id h.1
  subst e
  have HL := Lib.hid h
  have HB := Lib.hid hB
  have hBl := hB.lt
  clear h hB
  obtain ⟨p, hp0⟩ : ∃ p, p = (fun x : Cs => decide (c ∈ x.pts)) := ⟨_, rfl⟩
  have HP := Lib.hid hp0
  rw [← hp0]
  clear hp0
  have HI0 : Hid (PickIs w (idsUpto p l 0) 0 (.slice none 0 0) w) := Lib.hid ⟨rfl, World.ownsRow_nil _ _ _ _, Below.refl _ _⟩
  go_enter Try.func36, Try.ntmps36
  go_wp2_with fail
  go_loopw [5, 9] (fun o i wr => ∃ k n : Nat, k ≤ l.length ∧ i = .int .i64 k ∧ Hid (PickIs w (idsUpto p l k) n o wr)) (fun _ i _ => l.length - (intOf i).toNat)
  case atStart => exact ⟨0, 0, Nat.zero_le _, rfl, HI0⟩
  case round =>
    clear HI0
    obtain ⟨k, n, hk, rfl, HI⟩ := hrel
    have hn : n ≤ k := by have := HI.out.1; have h2 := idsUpto_len p l k; omega
    have hk0 : (0 : Int) ≤ (k : Int) := by omega
    by_cases hlt : k < l.length
    · obtain ⟨x, hx⟩ : ∃ x, l[k]? = some x := ⟨_, List.getElem?_eq_getElem hlt⟩
      obtain ⟨b, off, hA, hb, hcell⟩ := row_at (CssAt.below HL.out HI.out.2.2).1 hx
      subst hA
      have y0 := hcell 0 _ rfl
      have y1 := hcell 1 _ rfl
      have y2 := hcell 2 _ rfl
      have y3 := hcell 3 _ rfl
      have y4 := hcell 4 _ rfl
      simp only [Nat.add_zero] at y0
      have HX := Lib.hid hx
      have hk1 : (k : Int) < (l.length : Int) := by omega
      have HBr := Lib.hid (HB.out.below HI.out.2.2 hBl)
      have HPT := Lib.hid (NumsAt.below (HL.out.2 _ (List.mem_of_getElem? HX.out)) HI.out.2.2)
      have HPL := Lib.hid (hpl _ (List.mem_of_getElem? HX.out))
      clear hcell hx hb
      obtain ⟨x0, x1, x2, x3, x4, xs⟩ := x
      simp only at y0 y1 y2 y3 y4
      obtain ⟨Ai, ci, e, hci, -⟩ := id HPT.out
      simp only at e
      subst e
      go_wp2_with fail
      refine (csHas_any _ ⟨x0, x1, x2, x3, .slice Ai xs.length ci, xs⟩ HPT.out HPL.out B c HBr.out).mono ?_
      rintro e w1 ⟨rfl, hb⟩
      have hwr : w.heap.size ≤ w1.heap.size := Nat.le_trans HI.out.2.2.size hb.size
      have HI1 := Lib.hid (HI.out.below hb)
      clear hb HI y0 y1 y2 y3 y4 HBr
      cases e1 : (decide (c ∈ xs)) with
      | true =>
        have HY := Lib.hid (idsUpto_yes (p := p) HX.out (by rw [HP.out]; exact e1))
        clear e1
        have HO := Lib.hid (one_int (k : Int))
        go_wp2_with (at_builtin; refine Words.wpList_append_any _ rfl (.tmp 18) (.tmp 20) _ rfl w.heap.size 3 i0 _ 1 8 Try.underlying36 hi0 hz0 hz1 hz2 rfl (by omega) u5 n _ rfl (HI1.out.2.1.alloc _) (w1.heap.size + 1) (some ⟨w1.heap.size, 0, none⟩) 1 1 (nC k) rfl (reads_int _ _ rfl k _) HO.out (by simp only [maxLen]; omega) (by omega) (by simp; omega) ?_; intro v' w2 ho hg hat; have HI2 := Lib.hid (HI1.out.app ho hg HY.out); clear ho hg hat HI1)
        go_roundw
        case rel => exact ⟨k + 1, n + 1, by omega, by go_num, HI2⟩
        case measure => simp [intOf]; omega
      | false =>
        have HI2 : Hid (PickIs w (idsUpto p l (k + 1)) n u5 w1) := Lib.hid (by rw [idsUpto_no (p := p) HX.out (by rw [HP.out]; exact e1)]; exact HI1.out)
        clear e1 HI1
        go_wp2_with fail
        go_roundw
        case rel => exact ⟨k + 1, n, by omega, by go_num, HI2⟩
        case measure => simp [intOf]; omega
    · have hkl : k = l.length := by omega
      have HF : Hid (PickIs w (ids p l) n u5 wr) := Lib.hid (by have h := HI.out; rw [hkl] at h; exact h)
      clear hkl HI
      have hk2 : ¬ (k : Int) < (l.length : Int) := by omega
      go_wp2_with fail
      go_ret
      exact ⟨_, rfl, HF.out.ends, HF.out.2.2⟩
set_option maxHeartbeats 4000000 in
set_option maxRecDepth 100000 in
theorem pickO_any (w : World) (l : List Ef) (v : Value) (h : EfsAt w l v) (hl : l.length ≤ 1000) (vals : Array Value) (ds : List Dev) (Ad : Option Addr) (cd : Nat) (hds : DevsAt w ds (.slice Ad ds.length cd)) (hdl : ds.length ≤ 1000) (hv5 : vals[5]? = some (.slice Ad ds.length cd)) (hok : ∀ x ∈ l, ∃ (k : Nat) (d : Dev), x.dev = (k : Int) ∧ ds[k]? = some d) (BM : Nat) (hBM : Words.Blk w BM 27 vals) (B : Nat) (c : Int) (hB : Words.Blk w B 3 #[.int .i64 c]) :
    Calls Try.prog 33 #[v, .func (.func 38) #[] #[.pointer (some ⟨BM, 0, none⟩), .pointer (some ⟨B, 0, none⟩)]] w (PicksIs (ids (fun x : Ef => lineOf ds x.dev == c) l) w) := by
  obtain ⟨i0, hi0, hz0, hz1, hz2⟩ := int_parts
  obtain ⟨A, cc, e, hc, -⟩ := id h.1
  subst e
  have HL := Lib.hid h
  have HB := Lib.hid hB
  have HBM := Lib.hid hBM
  have hBMl := hBM.lt
  have HD := Lib.hid hds
  have HV := Lib.hid hv5
  have HOK := Lib.hid hok
  clear hBM hds hv5 hok
  have hBl := hB.lt
  clear h hB
  obtain ⟨p, hp0⟩ : ∃ p, p = (fun x : Ef => lineOf ds x.dev == c) := ⟨_, rfl⟩
  have HP := Lib.hid hp0
  rw [← hp0]
  clear hp0
  have HI0 : Hid (PickIs w (idsUpto p l 0) 0 (.slice none 0 0) w) := Lib.hid ⟨rfl, World.ownsRow_nil _ _ _ _, Below.refl _ _⟩
  go_enter Try.func33, Try.ntmps33
  go_wp2_with fail
  go_loopw [5, 9] (fun o i wr => ∃ k n : Nat, k ≤ l.length ∧ i = .int .i64 k ∧ Hid (PickIs w (idsUpto p l k) n o wr)) (fun _ i _ => l.length - (intOf i).toNat)
  case atStart => exact ⟨0, 0, Nat.zero_le _, rfl, HI0⟩
  case round =>
    clear HI0
    obtain ⟨k, n, hk, rfl, HI⟩ := hrel
    have hn : n ≤ k := by have := HI.out.1; have h2 := idsUpto_len p l k; omega
    have hk0 : (0 : Int) ≤ (k : Int) := by omega
    by_cases hlt : k < l.length
    · obtain ⟨x, hx⟩ : ∃ x, l[k]? = some x := ⟨_, List.getElem?_eq_getElem hlt⟩
      obtain ⟨b, off, hA, hb, hcell⟩ := row_at (EfsAt.below HL.out HI.out.2.2).1 hx
      subst hA
      have y0 := hcell 0 _ rfl
      have y1 := hcell 1 _ rfl
      have y2 := hcell 2 _ rfl
      have y3 := hcell 3 _ rfl
      have y4 := hcell 4 _ rfl
      simp only [Nat.add_zero] at y0
      have HX := Lib.hid hx
      have hk1 : (k : Int) < (l.length : Int) := by omega
      have HBr := Lib.hid (HB.out.below HI.out.2.2 hBl)
      have HPT := Lib.hid (NumsAt.below (HL.out.2 _ (List.mem_of_getElem? HX.out)) HI.out.2.2)
      have HBMr := Lib.hid (HBM.out.below HI.out.2.2 hBMl)
      have HDr := Lib.hid (LawFrame.RowsAt.below HD.out HI.out.2.2)
      clear hcell hx hb
      obtain ⟨x0, x1, x2, x3, x4, xs⟩ := x
      simp only at y0 y1 y2 y3 y4
      obtain ⟨Ai, ci, e, hci, -⟩ := id HPT.out
      simp only at e
      subst e
      obtain ⟨kd, d, hkd, hd⟩ := HOK.out _ (List.mem_of_getElem? HX.out)
      have HKD := Lib.hid hkd
      have HDD := Lib.hid hd
      clear hkd hd
      go_wp2_with fail
      refine (efOn_any _ ⟨x0, x1, x2, x3, .slice Ai xs.length ci, xs⟩ vals ds Ad cd HDr.out hdl HV.out d kd HKD.out HDD.out BM B c HBMr.out HBr.out).mono ?_
      rintro e w1 ⟨rfl, hb⟩
      have hwr : w.heap.size ≤ w1.heap.size := Nat.le_trans HI.out.2.2.size hb.size
      have HI1 := Lib.hid (HI.out.below hb)
      clear hb HI y0 y1 y2 y3 y4 HBr
      clear HBMr HDr
      cases e1 : (d.line == c) with
      | true =>
        have HY := Lib.hid (idsUpto_yes (p := p) HX.out (by rw [HP.out]; simp only; rw [show x1 = (kd : Int) from HKD.out, lineOf_of HDD.out]; exact e1))
        clear e1
        have HO := Lib.hid (one_int (k : Int))
        go_wp2_with (at_builtin; refine Words.wpList_append_any _ rfl (.tmp 18) (.tmp 20) _ rfl w.heap.size 3 i0 _ 1 8 Try.underlying36 hi0 hz0 hz1 hz2 rfl (by omega) u5 n _ rfl (HI1.out.2.1.alloc _) (w1.heap.size + 1) (some ⟨w1.heap.size, 0, none⟩) 1 1 (nC k) rfl (reads_int _ _ rfl k _) HO.out (by simp only [maxLen]; omega) (by omega) (by simp; omega) ?_; intro v' w2 ho hg hat; have HI2 := Lib.hid (HI1.out.app ho hg HY.out); clear ho hg hat HI1)
        go_roundw
        case rel => exact ⟨k + 1, n + 1, by omega, by go_num, HI2⟩
        case measure => simp [intOf]; omega
      | false =>
        have HI2 : Hid (PickIs w (idsUpto p l (k + 1)) n u5 w1) := Lib.hid (by rw [idsUpto_no (p := p) HX.out (by rw [HP.out]; simp only; rw [show x1 = (kd : Int) from HKD.out, lineOf_of HDD.out]; exact e1)]; exact HI1.out)
        clear e1 HI1
        go_wp2_with fail
        go_roundw
        case rel => exact ⟨k + 1, n, by omega, by go_num, HI2⟩
        case measure => simp [intOf]; omega
    · have hkl : k = l.length := by omega
      have HF : Hid (PickIs w (ids p l) n u5 wr) := Lib.hid (by have h := HI.out; rw [hkl] at h; exact h)
      clear hkl HI
      have hk2 : ¬ (k : Int) < (l.length : Int) := by omega
      go_wp2_with fail
      go_ret
      exact ⟨_, rfl, HF.out.ends, HF.out.2.2⟩
end Go.Proofs.Ytbpenoelmangkaa
