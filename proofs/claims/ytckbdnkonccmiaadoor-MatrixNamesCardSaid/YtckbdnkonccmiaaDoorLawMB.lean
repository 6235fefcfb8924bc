/-
  MatrixBack, walked.
-/
import Derived.Test.YtckbdnkonccmiaaDoorMatHead
import Derived.Test.YtckbdnkonccmiaaDoorMatGreat
namespace Go.Proofs.YtckbdnkonccmiaaDoor
open Go.RowKit
theorem rint (p q : Bool) (h : p = true) : (p && q) = q := by rw [h]; rfl
theorem zero_bare : zeroMat.bare = zeroMat := rfl
theorem none_list : noW.toList = [] := by kernel_rfl
theorem none_text : noW.toList.isEmpty = true := by rw [none_list]; rfl
/-- a text that is some, as a comparison is spelled -/
theorem some_text {s : ByteArray} (h : 1 ≤ s.size) : s.toList.isEmpty = false := by
  cases e : s.toList.isEmpty with
  | false => rfl
  | true =>
    have h1 : s.toList = [] := List.isEmpty_iff.1 e
    have h2 : s = noW := (bytes_eq s noW).1 (by rw [h1, none_list]; rfl)
    rw [h2] at h
    exact absurd h (by decide)
theorem right_small {m : Mat} (h : RightP m) : SmallM m 100000 := by
  obtain ⟨-, hk, hd, hp, hc, he, hn⟩ := h
  have hw := (names_once hn).2
  have wz : ∀ {s : ByteArray}, wordB s = true → s.size ≤ 1000000 := fun h => by
    unfold wordB at h
    simp only [Bool.and_eq_true, decide_eq_true_eq] at h
    omega
  have h1 := hd.1
  have h2 := hp.1
  have h3 := hc.1
  have h4 := he.1
  refine ⟨?_, fun x hx => wz (hw _ (mem_names.2 (.inl ⟨x, hx, rfl⟩))), fun x hx => wz (hw _ (mem_names.2 (.inr (.inl ⟨x, hx, rfl⟩)))), fun x hx => ⟨wz (hw _ (mem_names.2 (.inr (.inr (.inl ⟨x, hx, rfl⟩))))), ?_⟩, fun x hx => ⟨wz (hw _ (mem_names.2 (.inr (.inr (.inr ⟨x, hx, rfl⟩))))), ?_⟩, by omega⟩
  · unfold keyB at hk
    simp only [Bool.and_eq_true, decide_eq_true_eq] at hk
    omega
  · obtain ⟨i, hi, e⟩ := List.getElem_of_mem hx
    have := (hc.2 i x (by rw [List.getElem?_eq_getElem hi, e])).1.2.1
    omega
  · obtain ⟨i, hi, e⟩ := List.getElem_of_mem hx
    have := (he.2 i x (by rw [List.getElem?_eq_getElem hi, e])).2.2.2.1.2.1
    omega
set_option maxHeartbeats 8000000 in
set_option maxRecDepth 100000 in
theorem matrixBack_any (w : World) (m : Mat) (vd vp vc ve : Value) (ha : MatAt w m vd vp vc ve) (hms : MatSmall m) (s : ByteArray) (hs : s.size ≤ 1125899906842624) (ht : Tab w) (h10 : Tab10 w) :
    Calls Tryd.prog 3 #[m.val vd vp vc ve, .string s] w fun e w' => e = .returned (.bool true) ∧ Below w.heap.size w w' := by
  obtain ⟨r, wt, bk, cy, key, ds, ps, cs, es⟩ := m
  obtain ⟨Ad, cd, e, -, -⟩ := id ha.1
  simp only at e
  subst e
  obtain ⟨Ap, cp, e, -, -⟩ := id ha.2.1
  simp only at e
  subst e
  obtain ⟨Ac, cc, e, -, -⟩ := id ha.2.2.1.1
  simp only at e
  subst e
  obtain ⟨Ae, ce, e, -, -⟩ := id ha.2.2.2.1
  simp only at e
  subst e
  have HB := Lib.hid (⟨(Below.refl _ _).alloc (Nat.le_refl _) _, ha.below ((Below.refl _ _).alloc (Nat.le_refl _) _), Words.Blk.new w _ _, ht.below ((Below.refl _ _).alloc (Nat.le_refl _) _) (Nat.le_refl _), h10.below ((Below.refl _ _).alloc (Nat.le_refl _) _) (Nat.le_refl _)⟩ : HdIs w w.heap.size ⟨r, wt, bk, cy, key, ds, ps, cs, es⟩ (.slice Ad ds.length cd) (.slice Ap ps.length cp) (.slice Ac cs.length cc) (.slice Ae es.length ce) #[.int .i64 r, .int .i64 wt, .int .i64 bk, .int .i64 cy, .string key, .slice Ad ds.length cd, .slice Ap ps.length cp, .slice Ac cs.length cc, .slice Ae es.length ce] (w.alloc (.cells #[.int .i64 r, .int .i64 wt, .int .i64 bk, .int .i64 cy, .string key, .slice Ad ds.length cd, .slice Ap ps.length cp, .slice Ac cs.length cc, .slice Ae es.length ce] 27)))
  have HSM := Lib.hid hms
  have HS := Lib.hid (show s.size ≤ 5000 → s.size ≤ 1000000 by omega)
  obtain ⟨TX, hTX⟩ : ∃ TX, TX = textM ⟨r, wt, bk, cy, key, ds, ps, cs, es⟩ := ⟨_, rfl⟩
  have HTX := Lib.hid hTX
  have hpc : (∃ y, parseO s.data.toList = (y, 0, 0) ∧ RightP y) ∨ (∃ k no, parseO s.data.toList = (zeroMat, k, no) ∧ k ≠ 0) := by
    rcases parsed_cases s.data.toList with ⟨y, h1, h2, h3⟩ | ⟨k, no, h1, h2⟩
    · exact .inl ⟨y, h2, h3⟩
    · exact .inr ⟨k, no, h2, parsed_code h1⟩
  have HPC := Lib.hid hpc
  clear ha hms ht h10 hTX hpc
  unfold Mat.val
  simp only
  go_enter Tryd.func3, Tryd.ntmps3
  go_wp2_with fail
  refine (head_any _ HB.out.tab HB.out.tab10).mono ?_
  rintro e w1 ⟨rfl, hb⟩
  have HB := Lib.hid (HB.out.below hb)
  clear hb
  have z0 : w1.cell? ⟨w.heap.size, 0, none⟩ = some (.int .i64 r) := HB.out.box.cell 0
  have z1 : w1.cell? ⟨w.heap.size, 1, none⟩ = some (.int .i64 wt) := HB.out.box.cell 1
  have z2 : w1.cell? ⟨w.heap.size, 2, none⟩ = some (.int .i64 bk) := HB.out.box.cell 2
  have z3 : w1.cell? ⟨w.heap.size, 3, none⟩ = some (.int .i64 cy) := HB.out.box.cell 3
  have z4 : w1.cell? ⟨w.heap.size, 4, none⟩ = some (.string key) := HB.out.box.cell 4
  have z5 : w1.cell? ⟨w.heap.size, 5, none⟩ = some (.slice Ad ds.length cd) := HB.out.box.cell 5
  have z6 : w1.cell? ⟨w.heap.size, 6, none⟩ = some (.slice Ap ps.length cp) := HB.out.box.cell 6
  have z7 : w1.cell? ⟨w.heap.size, 7, none⟩ = some (.slice Ac cs.length cc) := HB.out.box.cell 7
  have z8 : w1.cell? ⟨w.heap.size, 8, none⟩ = some (.slice Ae es.length ce) := HB.out.box.cell 8
  go_wp2_with fail
  clear z0 z1 z2 z3 z4 z5 z6 z7 z8
  refine (great_any _ ⟨r, wt, bk, cy, key, ds, ps, cs, es⟩ _ _ _ _ HB.out.mat HSM.out).mono ?_
  rintro e w2 ⟨⟨b, rfl⟩, hb⟩
  have HB := Lib.hid (HB.out.below hb)
  clear hb
  cases b with
  | true =>
    go_wp2_with fail
    go_ret
    exact ⟨rfl, HB.out.old⟩
  | false =>
    by_cases hl : (5000 : Int) < (s.size : Int)
    · go_wp2_with fail
      go_ret
      exact ⟨rfl, HB.out.old⟩
    have HS := Lib.hid (HS.out (by omega))
    have z0 : w2.cell? ⟨w.heap.size, 0, none⟩ = some (.int .i64 r) := HB.out.box.cell 0
    have z1 : w2.cell? ⟨w.heap.size, 1, none⟩ = some (.int .i64 wt) := HB.out.box.cell 1
    have z2 : w2.cell? ⟨w.heap.size, 2, none⟩ = some (.int .i64 bk) := HB.out.box.cell 2
    have z3 : w2.cell? ⟨w.heap.size, 3, none⟩ = some (.int .i64 cy) := HB.out.box.cell 3
    have z4 : w2.cell? ⟨w.heap.size, 4, none⟩ = some (.string key) := HB.out.box.cell 4
    have z5 : w2.cell? ⟨w.heap.size, 5, none⟩ = some (.slice Ad ds.length cd) := HB.out.box.cell 5
    have z6 : w2.cell? ⟨w.heap.size, 6, none⟩ = some (.slice Ap ps.length cp) := HB.out.box.cell 6
    have z7 : w2.cell? ⟨w.heap.size, 7, none⟩ = some (.slice Ac cs.length cc) := HB.out.box.cell 7
    have z8 : w2.cell? ⟨w.heap.size, 8, none⟩ = some (.slice Ae es.length ce) := HB.out.box.cell 8
    go_wp2_with fail
    clear z0 z1 z2 z3 z4 z5 z6 z7 z8
    have hp := printM_any w2 ⟨r, wt, bk, cy, key, ds, ps, cs, es⟩ _ _ _ _ HB.out.mat HSM.out HB.out.tab10
    rw [← HTX.out] at hp
    refine hp.mono ?_
    rintro e w3 ⟨rfl, hb⟩
    have HB := Lib.hid (HB.out.below hb)
    clear hb
    clear hp
    have z0 : w3.cell? ⟨w.heap.size, 0, none⟩ = some (.int .i64 r) := HB.out.box.cell 0
    have z1 : w3.cell? ⟨w.heap.size, 1, none⟩ = some (.int .i64 wt) := HB.out.box.cell 1
    have z2 : w3.cell? ⟨w.heap.size, 2, none⟩ = some (.int .i64 bk) := HB.out.box.cell 2
    have z3 : w3.cell? ⟨w.heap.size, 3, none⟩ = some (.int .i64 cy) := HB.out.box.cell 3
    have z4 : w3.cell? ⟨w.heap.size, 4, none⟩ = some (.string key) := HB.out.box.cell 4
    have z5 : w3.cell? ⟨w.heap.size, 5, none⟩ = some (.slice Ad ds.length cd) := HB.out.box.cell 5
    have z6 : w3.cell? ⟨w.heap.size, 6, none⟩ = some (.slice Ap ps.length cp) := HB.out.box.cell 6
    have z7 : w3.cell? ⟨w.heap.size, 7, none⟩ = some (.slice Ac cs.length cc) := HB.out.box.cell 7
    have z8 : w3.cell? ⟨w.heap.size, 8, none⟩ = some (.slice Ae es.length ce) := HB.out.box.cell 8
    have hcase : (RightP ⟨r, wt, bk, cy, key, ds, ps, cs, es⟩ ∧ 1 ≤ TX.size ∧ TX.size ≤ 10000) ∨ (¬ RightP ⟨r, wt, bk, cy, key, ds, ps, cs, es⟩ ∧ TX = noW) := by
      by_cases hr : RightP ⟨r, wt, bk, cy, key, ds, ps, cs, es⟩
      · exact .inl ⟨hr, by rw [HTX.out]; exact textM_some hr, by rw [HTX.out, textM_right hr, toB_size]; exact text_len hr⟩
      · exact .inr ⟨hr, by rw [HTX.out]; exact textM_wrong hr⟩
    rcases hcase with ⟨hr, hx1, hx2⟩ | ⟨hr, hx⟩
    · have HR := Lib.hid hr
      have HX2 := Lib.hid hx2
      have hns := some_text hx1
      have hbk := back_print hr
      rw [← HTX.out] at hbk
      have HBK2 := Lib.hid hbk
      clear hr hbk
      go_wp2_with fail
      clear z0 z1 z2 z3 z4 z5 z6 z7 z8
      refine (lRight_any _ ⟨r, wt, bk, cy, key, ds, ps, cs, es⟩ _ _ _ _ HB.out.mat HSM.out).mono ?_
      rintro e w4 ⟨b, rfl, hbr, hb⟩
      obtain rfl : b = true := hbr.2 HR.out
      have HB := Lib.hid (HB.out.below hb)
      clear hb
      clear hbr
      by_cases hlo : (4096 : Int) < (TX.size : Int)
      · have hpo : parseO TX.data.toList = (zeroMat, 2, 0) := by rw [HBK2.out, if_pos (by omega)]
        go_wp2_with fail
        refine (parse_code _ TX (by have := HX2.out; omega) HB.out.tab (k := 2) (no := 0) (by rw [hpo])).mono ?_
        rintro e w5 ⟨⟨rx, wtx, bkx, cyx, keyx, dsx, psx, csx, esx⟩, Adx, Apx, Acx, Aex, cdx, cpx, ccx, cex, rfl, hbx, hmx, hsx, hb⟩
        rw [hpo] at hbx
        have HXS := Lib.hid hsx
        have HXB := Lib.hid hbx
        unfold Mat.val
        simp only
        have HB := Lib.hid ((HB.out.below hb).alloc (.cells #[.int .i64 rx, .int .i64 wtx, .int .i64 bkx, .int .i64 cyx, .string keyx, .slice Adx dsx.length cdx, .slice Apx psx.length cpx, .slice Acx csx.length ccx, .slice Aex esx.length cex] 27))
        have HXX := Lib.hid (⟨(Below.refl _ _).alloc (Nat.le_refl _) _, hmx.below ((Below.refl _ _).alloc (Nat.le_refl _) _), Words.Blk.new w5 _ _, HB.out.tab, HB.out.tab10⟩ : HdIs w5 w5.heap.size ⟨rx, wtx, bkx, cyx, keyx, dsx, psx, csx, esx⟩ (.slice Adx dsx.length cdx) (.slice Apx psx.length cpx) (.slice Acx csx.length ccx) (.slice Aex esx.length cex) #[.int .i64 rx, .int .i64 wtx, .int .i64 bkx, .int .i64 cyx, .string keyx, .slice Adx dsx.length cdx, .slice Apx psx.length cpx, .slice Acx csx.length ccx, .slice Aex esx.length cex] (w5.alloc (.cells #[.int .i64 rx, .int .i64 wtx, .int .i64 bkx, .int .i64 cyx, .string keyx, .slice Adx dsx.length cdx, .slice Apx psx.length cpx, .slice Acx csx.length ccx, .slice Aex esx.length cex] 27)))
        clear hbx hmx hsx hb hpo
        clear HXX HXS HXB
        have hpc := HPC.out
        rcases hpc with ⟨y, hy, hyr⟩ | ⟨k, no, hk, hk0⟩
        · go_wp2_with fail
          refine (parse_code _ s HS.out HB.out.tab (k := 0) (no := 0) (by rw [hy])).mono ?_
          rintro e wy ⟨⟨ry, wty, bky, cyy, keyy, dsy, psy, csy, esy⟩, Ady, Apy, Acy, Aey, cdy, cpy, ccy, cey, rfl, hby, hmy, hsy, hb⟩
          rw [hy] at hby
          have HYR : Hid (RightP ⟨ry, wty, bky, cyy, keyy, dsy, psy, csy, esy⟩) := Lib.hid ((right_bare _).1 (by rw [hby]; exact hyr))
          have HYS := Lib.hid hsy
          have HYM : Hid (MatSmall ⟨ry, wty, bky, cyy, keyy, dsy, psy, csy, esy⟩) := Lib.hid (hsy.small (by decide) true true)
          unfold Mat.val
          simp only
          have HB := Lib.hid ((HB.out.below hb).alloc (.cells #[.int .i64 ry, .int .i64 wty, .int .i64 bky, .int .i64 cyy, .string keyy, .slice Ady dsy.length cdy, .slice Apy psy.length cpy, .slice Acy csy.length ccy, .slice Aey esy.length cey] 27))
          have HY := Lib.hid (⟨(Below.refl _ _).alloc (Nat.le_refl _) _, hmy.below ((Below.refl _ _).alloc (Nat.le_refl _) _), Words.Blk.new wy _ _, HB.out.tab, HB.out.tab10⟩ : HdIs wy wy.heap.size ⟨ry, wty, bky, cyy, keyy, dsy, psy, csy, esy⟩ (.slice Ady dsy.length cdy) (.slice Apy psy.length cpy) (.slice Acy csy.length ccy) (.slice Aey esy.length cey) #[.int .i64 ry, .int .i64 wty, .int .i64 bky, .int .i64 cyy, .string keyy, .slice Ady dsy.length cdy, .slice Apy psy.length cpy, .slice Acy csy.length ccy, .slice Aey esy.length cey] (wy.alloc (.cells #[.int .i64 ry, .int .i64 wty, .int .i64 bky, .int .i64 cyy, .string keyy, .slice Ady dsy.length cdy, .slice Apy psy.length cpy, .slice Acy csy.length ccy, .slice Aey esy.length cey] 27)))
          obtain ⟨TY, hTY⟩ : ∃ TY, TY = textM ⟨ry, wty, bky, cyy, keyy, dsy, psy, csy, esy⟩ := ⟨_, rfl⟩
          have HTY := Lib.hid hTY
          have hback := back_print (m := ⟨ry, wty, bky, cyy, keyy, dsy, psy, csy, esy⟩) HYR.out
          rw [← hTY] at hback
          have HBK := Lib.hid hback
          have HYL : Hid (TY.size ≤ 10000) := Lib.hid (by rw [hTY, textM_right HYR.out, toB_size]; exact text_len HYR.out)
          clear hby hmy hsy hb hTY hback hy hyr
          have y0 : (wy.alloc (.cells #[.int .i64 ry, .int .i64 wty, .int .i64 bky, .int .i64 cyy, .string keyy, .slice Ady dsy.length cdy, .slice Apy psy.length cpy, .slice Acy csy.length ccy, .slice Aey esy.length cey] 27)).cell? ⟨wy.heap.size, 0, none⟩ = some (.int .i64 ry) := HY.out.box.cell 0
          have y1 : (wy.alloc (.cells #[.int .i64 ry, .int .i64 wty, .int .i64 bky, .int .i64 cyy, .string keyy, .slice Ady dsy.length cdy, .slice Apy psy.length cpy, .slice Acy csy.length ccy, .slice Aey esy.length cey] 27)).cell? ⟨wy.heap.size, 1, none⟩ = some (.int .i64 wty) := HY.out.box.cell 1
          have y2 : (wy.alloc (.cells #[.int .i64 ry, .int .i64 wty, .int .i64 bky, .int .i64 cyy, .string keyy, .slice Ady dsy.length cdy, .slice Apy psy.length cpy, .slice Acy csy.length ccy, .slice Aey esy.length cey] 27)).cell? ⟨wy.heap.size, 2, none⟩ = some (.int .i64 bky) := HY.out.box.cell 2
          have y3 : (wy.alloc (.cells #[.int .i64 ry, .int .i64 wty, .int .i64 bky, .int .i64 cyy, .string keyy, .slice Ady dsy.length cdy, .slice Apy psy.length cpy, .slice Acy csy.length ccy, .slice Aey esy.length cey] 27)).cell? ⟨wy.heap.size, 3, none⟩ = some (.int .i64 cyy) := HY.out.box.cell 3
          have y4 : (wy.alloc (.cells #[.int .i64 ry, .int .i64 wty, .int .i64 bky, .int .i64 cyy, .string keyy, .slice Ady dsy.length cdy, .slice Apy psy.length cpy, .slice Acy csy.length ccy, .slice Aey esy.length cey] 27)).cell? ⟨wy.heap.size, 4, none⟩ = some (.string keyy) := HY.out.box.cell 4
          have y5 : (wy.alloc (.cells #[.int .i64 ry, .int .i64 wty, .int .i64 bky, .int .i64 cyy, .string keyy, .slice Ady dsy.length cdy, .slice Apy psy.length cpy, .slice Acy csy.length ccy, .slice Aey esy.length cey] 27)).cell? ⟨wy.heap.size, 5, none⟩ = some (.slice Ady dsy.length cdy) := HY.out.box.cell 5
          have y6 : (wy.alloc (.cells #[.int .i64 ry, .int .i64 wty, .int .i64 bky, .int .i64 cyy, .string keyy, .slice Ady dsy.length cdy, .slice Apy psy.length cpy, .slice Acy csy.length ccy, .slice Aey esy.length cey] 27)).cell? ⟨wy.heap.size, 6, none⟩ = some (.slice Apy psy.length cpy) := HY.out.box.cell 6
          have y7 : (wy.alloc (.cells #[.int .i64 ry, .int .i64 wty, .int .i64 bky, .int .i64 cyy, .string keyy, .slice Ady dsy.length cdy, .slice Apy psy.length cpy, .slice Acy csy.length ccy, .slice Aey esy.length cey] 27)).cell? ⟨wy.heap.size, 7, none⟩ = some (.slice Acy csy.length ccy) := HY.out.box.cell 7
          have y8 : (wy.alloc (.cells #[.int .i64 ry, .int .i64 wty, .int .i64 bky, .int .i64 cyy, .string keyy, .slice Ady dsy.length cdy, .slice Apy psy.length cpy, .slice Acy csy.length ccy, .slice Aey esy.length cey] 27)).cell? ⟨wy.heap.size, 8, none⟩ = some (.slice Aey esy.length cey) := HY.out.box.cell 8
          go_wp2_with fail
          clear y0 y1 y2 y3 y4 y5 y6 y7 y8
          have hp := printM_any (wy.alloc (.cells #[.int .i64 ry, .int .i64 wty, .int .i64 bky, .int .i64 cyy, .string keyy, .slice Ady dsy.length cdy, .slice Apy psy.length cpy, .slice Acy csy.length ccy, .slice Aey esy.length cey] 27)) ⟨ry, wty, bky, cyy, keyy, dsy, psy, csy, esy⟩ _ _ _ _ HY.out.mat HYM.out HY.out.tab10
          rw [← HTY.out] at hp
          refine hp.mono ?_
          rintro e wq ⟨rfl, hb⟩
          have HB := Lib.hid (HB.out.below hb)
          have HY := Lib.hid (HY.out.below hb)
          clear hb hp
          by_cases hlong : (4096 : Int) < (TY.size : Int)
          · have hpo : parseO TY.data.toList = (zeroMat, 2, 0) := by rw [HBK.out, if_pos (by omega)]
            go_wp2_with fail
            refine (parse_code _ TY (by have := HYL.out; omega) HB.out.tab (k := 2) (no := 0) (by rw [hpo])).mono ?_
            rintro e wz ⟨⟨rz, wtz, bkz, cyz, keyz, dsz, psz, csz, esz⟩, Adz, Apz, Acz, Aez, cdz, cpz, ccz, cez, rfl, hbz, hmz, hsz, hb⟩
            rw [hpo] at hbz
            have HZS := Lib.hid hsz
            have HZB := Lib.hid hbz
            unfold Mat.val
            simp only
            have HB := Lib.hid ((HB.out.below hb).alloc (.cells #[.int .i64 rz, .int .i64 wtz, .int .i64 bkz, .int .i64 cyz, .string keyz, .slice Adz dsz.length cdz, .slice Apz psz.length cpz, .slice Acz csz.length ccz, .slice Aez esz.length cez] 27))
            have HY := Lib.hid ((HY.out.below hb).alloc (.cells #[.int .i64 rz, .int .i64 wtz, .int .i64 bkz, .int .i64 cyz, .string keyz, .slice Adz dsz.length cdz, .slice Apz psz.length cpz, .slice Acz csz.length ccz, .slice Aez esz.length cez] 27))
            have HZ := Lib.hid (⟨(Below.refl _ _).alloc (Nat.le_refl _) _, hmz.below ((Below.refl _ _).alloc (Nat.le_refl _) _), Words.Blk.new wz _ _, HB.out.tab, HB.out.tab10⟩ : HdIs wz wz.heap.size ⟨rz, wtz, bkz, cyz, keyz, dsz, psz, csz, esz⟩ (.slice Adz dsz.length cdz) (.slice Apz psz.length cpz) (.slice Acz csz.length ccz) (.slice Aez esz.length cez) #[.int .i64 rz, .int .i64 wtz, .int .i64 bkz, .int .i64 cyz, .string keyz, .slice Adz dsz.length cdz, .slice Apz psz.length cpz, .slice Acz csz.length ccz, .slice Aez esz.length cez] (wz.alloc (.cells #[.int .i64 rz, .int .i64 wtz, .int .i64 bkz, .int .i64 cyz, .string keyz, .slice Adz dsz.length cdz, .slice Apz psz.length cpz, .slice Acz csz.length ccz, .slice Aez esz.length cez] 27)))
            clear hbz hmz hsz hb hpo
            have y0 : (wz.alloc (.cells #[.int .i64 rz, .int .i64 wtz, .int .i64 bkz, .int .i64 cyz, .string keyz, .slice Adz dsz.length cdz, .slice Apz psz.length cpz, .slice Acz csz.length ccz, .slice Aez esz.length cez] 27)).cell? ⟨wy.heap.size, 0, none⟩ = some (.int .i64 ry) := HY.out.box.cell 0
            have y1 : (wz.alloc (.cells #[.int .i64 rz, .int .i64 wtz, .int .i64 bkz, .int .i64 cyz, .string keyz, .slice Adz dsz.length cdz, .slice Apz psz.length cpz, .slice Acz csz.length ccz, .slice Aez esz.length cez] 27)).cell? ⟨wy.heap.size, 1, none⟩ = some (.int .i64 wty) := HY.out.box.cell 1
            have y2 : (wz.alloc (.cells #[.int .i64 rz, .int .i64 wtz, .int .i64 bkz, .int .i64 cyz, .string keyz, .slice Adz dsz.length cdz, .slice Apz psz.length cpz, .slice Acz csz.length ccz, .slice Aez esz.length cez] 27)).cell? ⟨wy.heap.size, 2, none⟩ = some (.int .i64 bky) := HY.out.box.cell 2
            have y3 : (wz.alloc (.cells #[.int .i64 rz, .int .i64 wtz, .int .i64 bkz, .int .i64 cyz, .string keyz, .slice Adz dsz.length cdz, .slice Apz psz.length cpz, .slice Acz csz.length ccz, .slice Aez esz.length cez] 27)).cell? ⟨wy.heap.size, 3, none⟩ = some (.int .i64 cyy) := HY.out.box.cell 3
            have y4 : (wz.alloc (.cells #[.int .i64 rz, .int .i64 wtz, .int .i64 bkz, .int .i64 cyz, .string keyz, .slice Adz dsz.length cdz, .slice Apz psz.length cpz, .slice Acz csz.length ccz, .slice Aez esz.length cez] 27)).cell? ⟨wy.heap.size, 4, none⟩ = some (.string keyy) := HY.out.box.cell 4
            have y5 : (wz.alloc (.cells #[.int .i64 rz, .int .i64 wtz, .int .i64 bkz, .int .i64 cyz, .string keyz, .slice Adz dsz.length cdz, .slice Apz psz.length cpz, .slice Acz csz.length ccz, .slice Aez esz.length cez] 27)).cell? ⟨wy.heap.size, 5, none⟩ = some (.slice Ady dsy.length cdy) := HY.out.box.cell 5
            have y6 : (wz.alloc (.cells #[.int .i64 rz, .int .i64 wtz, .int .i64 bkz, .int .i64 cyz, .string keyz, .slice Adz dsz.length cdz, .slice Apz psz.length cpz, .slice Acz csz.length ccz, .slice Aez esz.length cez] 27)).cell? ⟨wy.heap.size, 6, none⟩ = some (.slice Apy psy.length cpy) := HY.out.box.cell 6
            have y7 : (wz.alloc (.cells #[.int .i64 rz, .int .i64 wtz, .int .i64 bkz, .int .i64 cyz, .string keyz, .slice Adz dsz.length cdz, .slice Apz psz.length cpz, .slice Acz csz.length ccz, .slice Aez esz.length cez] 27)).cell? ⟨wy.heap.size, 7, none⟩ = some (.slice Acy csy.length ccy) := HY.out.box.cell 7
            have y8 : (wz.alloc (.cells #[.int .i64 rz, .int .i64 wtz, .int .i64 bkz, .int .i64 cyz, .string keyz, .slice Adz dsz.length cdz, .slice Apz psz.length cpz, .slice Acz csz.length ccz, .slice Aez esz.length cez] 27)).cell? ⟨wy.heap.size, 8, none⟩ = some (.slice Aey esy.length cey) := HY.out.box.cell 8
            go_wp2_with fail
            clear y0 y1 y2 y3 y4 y5 y6 y7 y8
            refine (lRight_any _ ⟨ry, wty, bky, cyy, keyy, dsy, psy, csy, esy⟩ _ _ _ _ HY.out.mat HYM.out).mono ?_
            rintro e wr ⟨b, rfl, hbr, hb⟩
            obtain rfl : b = true := hbr.2 HYR.out
            have HB := Lib.hid (HB.out.below hb)
            have HY := Lib.hid (HY.out.below hb)
            have HZ := Lib.hid (HZ.out.below hb)
            clear hb hbr
            have y0 : wr.cell? ⟨wy.heap.size, 0, none⟩ = some (.int .i64 ry) := HY.out.box.cell 0
            have y1 : wr.cell? ⟨wy.heap.size, 1, none⟩ = some (.int .i64 wty) := HY.out.box.cell 1
            have y2 : wr.cell? ⟨wy.heap.size, 2, none⟩ = some (.int .i64 bky) := HY.out.box.cell 2
            have y3 : wr.cell? ⟨wy.heap.size, 3, none⟩ = some (.int .i64 cyy) := HY.out.box.cell 3
            have y4 : wr.cell? ⟨wy.heap.size, 4, none⟩ = some (.string keyy) := HY.out.box.cell 4
            have y5 : wr.cell? ⟨wy.heap.size, 5, none⟩ = some (.slice Ady dsy.length cdy) := HY.out.box.cell 5
            have y6 : wr.cell? ⟨wy.heap.size, 6, none⟩ = some (.slice Apy psy.length cpy) := HY.out.box.cell 6
            have y7 : wr.cell? ⟨wy.heap.size, 7, none⟩ = some (.slice Acy csy.length ccy) := HY.out.box.cell 7
            have y8 : wr.cell? ⟨wy.heap.size, 8, none⟩ = some (.slice Aey esy.length cey) := HY.out.box.cell 8
            go_wp2_with fail
            clear y0 y1 y2 y3 y4 y5 y6 y7 y8
            have hp := printM_any wr ⟨ry, wty, bky, cyy, keyy, dsy, psy, csy, esy⟩ _ _ _ _ HY.out.mat HYM.out HY.out.tab10
            rw [← HTY.out] at hp
            refine hp.mono ?_
            rintro e wt9 ⟨rfl, hb⟩
            have HB := Lib.hid (HB.out.below hb)
            clear hb
            clear hp
            go_wp2_with fail
            go_ret
            exact ⟨rfl, HB.out.old⟩
          · have hpo : parseO TY.data.toList = ((⟨ry, wty, bky, cyy, keyy, dsy, psy, csy, esy⟩ : Mat).bare, 0, 0) := by rw [HBK.out, if_neg (by omega)]
            go_wp2_with fail
            refine (parse_code _ TY (by have := HYL.out; omega) HB.out.tab (k := 0) (no := 0) (by rw [hpo])).mono ?_
            rintro e wz ⟨⟨rz, wtz, bkz, cyz, keyz, dsz, psz, csz, esz⟩, Adz, Apz, Acz, Aez, cdz, cpz, ccz, cez, rfl, hbz, hmz, hsz, hb⟩
            rw [hpo] at hbz
            have HZS := Lib.hid hsz
            have HZB := Lib.hid hbz
            unfold Mat.val
            simp only
            have HB := Lib.hid ((HB.out.below hb).alloc (.cells #[.int .i64 rz, .int .i64 wtz, .int .i64 bkz, .int .i64 cyz, .string keyz, .slice Adz dsz.length cdz, .slice Apz psz.length cpz, .slice Acz csz.length ccz, .slice Aez esz.length cez] 27))
            have HY := Lib.hid ((HY.out.below hb).alloc (.cells #[.int .i64 rz, .int .i64 wtz, .int .i64 bkz, .int .i64 cyz, .string keyz, .slice Adz dsz.length cdz, .slice Apz psz.length cpz, .slice Acz csz.length ccz, .slice Aez esz.length cez] 27))
            have HZ := Lib.hid (⟨(Below.refl _ _).alloc (Nat.le_refl _) _, hmz.below ((Below.refl _ _).alloc (Nat.le_refl _) _), Words.Blk.new wz _ _, HB.out.tab, HB.out.tab10⟩ : HdIs wz wz.heap.size ⟨rz, wtz, bkz, cyz, keyz, dsz, psz, csz, esz⟩ (.slice Adz dsz.length cdz) (.slice Apz psz.length cpz) (.slice Acz csz.length ccz) (.slice Aez esz.length cez) #[.int .i64 rz, .int .i64 wtz, .int .i64 bkz, .int .i64 cyz, .string keyz, .slice Adz dsz.length cdz, .slice Apz psz.length cpz, .slice Acz csz.length ccz, .slice Aez esz.length cez] (wz.alloc (.cells #[.int .i64 rz, .int .i64 wtz, .int .i64 bkz, .int .i64 cyz, .string keyz, .slice Adz dsz.length cdz, .slice Apz psz.length cpz, .slice Acz csz.length ccz, .slice Aez esz.length cez] 27)))
            clear hbz hmz hsz hb hpo
            have y0 : (wz.alloc (.cells #[.int .i64 rz, .int .i64 wtz, .int .i64 bkz, .int .i64 cyz, .string keyz, .slice Adz dsz.length cdz, .slice Apz psz.length cpz, .slice Acz csz.length ccz, .slice Aez esz.length cez] 27)).cell? ⟨wy.heap.size, 0, none⟩ = some (.int .i64 ry) := HY.out.box.cell 0
            have y1 : (wz.alloc (.cells #[.int .i64 rz, .int .i64 wtz, .int .i64 bkz, .int .i64 cyz, .string keyz, .slice Adz dsz.length cdz, .slice Apz psz.length cpz, .slice Acz csz.length ccz, .slice Aez esz.length cez] 27)).cell? ⟨wy.heap.size, 1, none⟩ = some (.int .i64 wty) := HY.out.box.cell 1
            have y2 : (wz.alloc (.cells #[.int .i64 rz, .int .i64 wtz, .int .i64 bkz, .int .i64 cyz, .string keyz, .slice Adz dsz.length cdz, .slice Apz psz.length cpz, .slice Acz csz.length ccz, .slice Aez esz.length cez] 27)).cell? ⟨wy.heap.size, 2, none⟩ = some (.int .i64 bky) := HY.out.box.cell 2
            have y3 : (wz.alloc (.cells #[.int .i64 rz, .int .i64 wtz, .int .i64 bkz, .int .i64 cyz, .string keyz, .slice Adz dsz.length cdz, .slice Apz psz.length cpz, .slice Acz csz.length ccz, .slice Aez esz.length cez] 27)).cell? ⟨wy.heap.size, 3, none⟩ = some (.int .i64 cyy) := HY.out.box.cell 3
            have y4 : (wz.alloc (.cells #[.int .i64 rz, .int .i64 wtz, .int .i64 bkz, .int .i64 cyz, .string keyz, .slice Adz dsz.length cdz, .slice Apz psz.length cpz, .slice Acz csz.length ccz, .slice Aez esz.length cez] 27)).cell? ⟨wy.heap.size, 4, none⟩ = some (.string keyy) := HY.out.box.cell 4
            have y5 : (wz.alloc (.cells #[.int .i64 rz, .int .i64 wtz, .int .i64 bkz, .int .i64 cyz, .string keyz, .slice Adz dsz.length cdz, .slice Apz psz.length cpz, .slice Acz csz.length ccz, .slice Aez esz.length cez] 27)).cell? ⟨wy.heap.size, 5, none⟩ = some (.slice Ady dsy.length cdy) := HY.out.box.cell 5
            have y6 : (wz.alloc (.cells #[.int .i64 rz, .int .i64 wtz, .int .i64 bkz, .int .i64 cyz, .string keyz, .slice Adz dsz.length cdz, .slice Apz psz.length cpz, .slice Acz csz.length ccz, .slice Aez esz.length cez] 27)).cell? ⟨wy.heap.size, 6, none⟩ = some (.slice Apy psy.length cpy) := HY.out.box.cell 6
            have y7 : (wz.alloc (.cells #[.int .i64 rz, .int .i64 wtz, .int .i64 bkz, .int .i64 cyz, .string keyz, .slice Adz dsz.length cdz, .slice Apz psz.length cpz, .slice Acz csz.length ccz, .slice Aez esz.length cez] 27)).cell? ⟨wy.heap.size, 7, none⟩ = some (.slice Acy csy.length ccy) := HY.out.box.cell 7
            have y8 : (wz.alloc (.cells #[.int .i64 rz, .int .i64 wtz, .int .i64 bkz, .int .i64 cyz, .string keyz, .slice Adz dsz.length cdz, .slice Apz psz.length cpz, .slice Acz csz.length ccz, .slice Aez esz.length cez] 27)).cell? ⟨wy.heap.size, 8, none⟩ = some (.slice Aey esy.length cey) := HY.out.box.cell 8
            go_wp2_with fail
            clear y0 y1 y2 y3 y4 y5 y6 y7 y8
            refine (lRight_any _ ⟨ry, wty, bky, cyy, keyy, dsy, psy, csy, esy⟩ _ _ _ _ HY.out.mat HYM.out).mono ?_
            rintro e wr ⟨b, rfl, hbr, hb⟩
            obtain rfl : b = true := hbr.2 HYR.out
            have HB := Lib.hid (HB.out.below hb)
            have HY := Lib.hid (HY.out.below hb)
            have HZ := Lib.hid (HZ.out.below hb)
            clear hb hbr
            have y0 : wr.cell? ⟨wy.heap.size, 0, none⟩ = some (.int .i64 ry) := HY.out.box.cell 0
            have y1 : wr.cell? ⟨wy.heap.size, 1, none⟩ = some (.int .i64 wty) := HY.out.box.cell 1
            have y2 : wr.cell? ⟨wy.heap.size, 2, none⟩ = some (.int .i64 bky) := HY.out.box.cell 2
            have y3 : wr.cell? ⟨wy.heap.size, 3, none⟩ = some (.int .i64 cyy) := HY.out.box.cell 3
            have y4 : wr.cell? ⟨wy.heap.size, 4, none⟩ = some (.string keyy) := HY.out.box.cell 4
            have y5 : wr.cell? ⟨wy.heap.size, 5, none⟩ = some (.slice Ady dsy.length cdy) := HY.out.box.cell 5
            have y6 : wr.cell? ⟨wy.heap.size, 6, none⟩ = some (.slice Apy psy.length cpy) := HY.out.box.cell 6
            have y7 : wr.cell? ⟨wy.heap.size, 7, none⟩ = some (.slice Acy csy.length ccy) := HY.out.box.cell 7
            have y8 : wr.cell? ⟨wy.heap.size, 8, none⟩ = some (.slice Aey esy.length cey) := HY.out.box.cell 8
            have x0 : wr.cell? ⟨wz.heap.size, 0, none⟩ = some (.int .i64 rz) := HZ.out.box.cell 0
            have x1 : wr.cell? ⟨wz.heap.size, 1, none⟩ = some (.int .i64 wtz) := HZ.out.box.cell 1
            have x2 : wr.cell? ⟨wz.heap.size, 2, none⟩ = some (.int .i64 bkz) := HZ.out.box.cell 2
            have x3 : wr.cell? ⟨wz.heap.size, 3, none⟩ = some (.int .i64 cyz) := HZ.out.box.cell 3
            have x4 : wr.cell? ⟨wz.heap.size, 4, none⟩ = some (.string keyz) := HZ.out.box.cell 4
            have x5 : wr.cell? ⟨wz.heap.size, 5, none⟩ = some (.slice Adz dsz.length cdz) := HZ.out.box.cell 5
            have x6 : wr.cell? ⟨wz.heap.size, 6, none⟩ = some (.slice Apz psz.length cpz) := HZ.out.box.cell 6
            have x7 : wr.cell? ⟨wz.heap.size, 7, none⟩ = some (.slice Acz csz.length ccz) := HZ.out.box.cell 7
            have x8 : wr.cell? ⟨wz.heap.size, 8, none⟩ = some (.slice Aez esz.length cez) := HZ.out.box.cell 8
            go_wp2_with fail
            clear y0 y1 y2 y3 y4 y5 y6 y7 y8
            clear x0 x1 x2 x3 x4 x5 x6 x7 x8
            refine (sameM_any _ ⟨ry, wty, bky, cyy, keyy, dsy, psy, csy, esy⟩ ⟨rz, wtz, bkz, cyz, keyz, dsz, psz, csz, esz⟩ _ _ _ _ _ _ _ _ HY.out.mat HZ.out.mat HYS.out HZS.out).mono ?_
            rintro e ws ⟨b, rfl, hbr, hb⟩
            obtain rfl : b = true := hbr.2 (by rw [HZB.out])
            have HB := Lib.hid (HB.out.below hb)
            clear hb
            clear hbr
            go_wp2_with fail
            go_ret
            exact ⟨rfl, HB.out.old⟩
        · go_wp2_with fail
          refine (parse_code _ s HS.out HB.out.tab (k := k) (no := no) (by rw [hk])).mono ?_
          rintro e wy ⟨⟨ry, wty, bky, cyy, keyy, dsy, psy, csy, esy⟩, Ady, Apy, Acy, Aey, cdy, cpy, ccy, cey, rfl, hby, hmy, hsy, hb⟩
          rw [hk] at hby
          have HYS := Lib.hid hsy
          have HYB := Lib.hid hby
          unfold Mat.val
          simp only
          have HB := Lib.hid ((HB.out.below hb).alloc (.cells #[.int .i64 ry, .int .i64 wty, .int .i64 bky, .int .i64 cyy, .string keyy, .slice Ady dsy.length cdy, .slice Apy psy.length cpy, .slice Acy csy.length ccy, .slice Aey esy.length cey] 27))
          have HY := Lib.hid (⟨(Below.refl _ _).alloc (Nat.le_refl _) _, hmy.below ((Below.refl _ _).alloc (Nat.le_refl _) _), Words.Blk.new wy _ _, HB.out.tab, HB.out.tab10⟩ : HdIs wy wy.heap.size ⟨ry, wty, bky, cyy, keyy, dsy, psy, csy, esy⟩ (.slice Ady dsy.length cdy) (.slice Apy psy.length cpy) (.slice Acy csy.length ccy) (.slice Aey esy.length cey) #[.int .i64 ry, .int .i64 wty, .int .i64 bky, .int .i64 cyy, .string keyy, .slice Ady dsy.length cdy, .slice Apy psy.length cpy, .slice Acy csy.length ccy, .slice Aey esy.length cey] (wy.alloc (.cells #[.int .i64 ry, .int .i64 wty, .int .i64 bky, .int .i64 cyy, .string keyy, .slice Ady dsy.length cdy, .slice Apy psy.length cpy, .slice Acy csy.length ccy, .slice Aey esy.length cey] 27)))
          clear hby hmy hsy hb hk
          have y0 : (wy.alloc (.cells #[.int .i64 ry, .int .i64 wty, .int .i64 bky, .int .i64 cyy, .string keyy, .slice Ady dsy.length cdy, .slice Apy psy.length cpy, .slice Acy csy.length ccy, .slice Aey esy.length cey] 27)).cell? ⟨wy.heap.size, 0, none⟩ = some (.int .i64 ry) := HY.out.box.cell 0
          have y1 : (wy.alloc (.cells #[.int .i64 ry, .int .i64 wty, .int .i64 bky, .int .i64 cyy, .string keyy, .slice Ady dsy.length cdy, .slice Apy psy.length cpy, .slice Acy csy.length ccy, .slice Aey esy.length cey] 27)).cell? ⟨wy.heap.size, 1, none⟩ = some (.int .i64 wty) := HY.out.box.cell 1
          have y2 : (wy.alloc (.cells #[.int .i64 ry, .int .i64 wty, .int .i64 bky, .int .i64 cyy, .string keyy, .slice Ady dsy.length cdy, .slice Apy psy.length cpy, .slice Acy csy.length ccy, .slice Aey esy.length cey] 27)).cell? ⟨wy.heap.size, 2, none⟩ = some (.int .i64 bky) := HY.out.box.cell 2
          have y3 : (wy.alloc (.cells #[.int .i64 ry, .int .i64 wty, .int .i64 bky, .int .i64 cyy, .string keyy, .slice Ady dsy.length cdy, .slice Apy psy.length cpy, .slice Acy csy.length ccy, .slice Aey esy.length cey] 27)).cell? ⟨wy.heap.size, 3, none⟩ = some (.int .i64 cyy) := HY.out.box.cell 3
          have y4 : (wy.alloc (.cells #[.int .i64 ry, .int .i64 wty, .int .i64 bky, .int .i64 cyy, .string keyy, .slice Ady dsy.length cdy, .slice Apy psy.length cpy, .slice Acy csy.length ccy, .slice Aey esy.length cey] 27)).cell? ⟨wy.heap.size, 4, none⟩ = some (.string keyy) := HY.out.box.cell 4
          have y5 : (wy.alloc (.cells #[.int .i64 ry, .int .i64 wty, .int .i64 bky, .int .i64 cyy, .string keyy, .slice Ady dsy.length cdy, .slice Apy psy.length cpy, .slice Acy csy.length ccy, .slice Aey esy.length cey] 27)).cell? ⟨wy.heap.size, 5, none⟩ = some (.slice Ady dsy.length cdy) := HY.out.box.cell 5
          have y6 : (wy.alloc (.cells #[.int .i64 ry, .int .i64 wty, .int .i64 bky, .int .i64 cyy, .string keyy, .slice Ady dsy.length cdy, .slice Apy psy.length cpy, .slice Acy csy.length ccy, .slice Aey esy.length cey] 27)).cell? ⟨wy.heap.size, 6, none⟩ = some (.slice Apy psy.length cpy) := HY.out.box.cell 6
          have y7 : (wy.alloc (.cells #[.int .i64 ry, .int .i64 wty, .int .i64 bky, .int .i64 cyy, .string keyy, .slice Ady dsy.length cdy, .slice Apy psy.length cpy, .slice Acy csy.length ccy, .slice Aey esy.length cey] 27)).cell? ⟨wy.heap.size, 7, none⟩ = some (.slice Acy csy.length ccy) := HY.out.box.cell 7
          have y8 : (wy.alloc (.cells #[.int .i64 ry, .int .i64 wty, .int .i64 bky, .int .i64 cyy, .string keyy, .slice Ady dsy.length cdy, .slice Apy psy.length cpy, .slice Acy csy.length ccy, .slice Aey esy.length cey] 27)).cell? ⟨wy.heap.size, 8, none⟩ = some (.slice Aey esy.length cey) := HY.out.box.cell 8
          have hkb : (k == 0) = false := by rw [beq_eq_false_iff_ne]; exact hk0
          have hkn : (k != 0) = true := by rw [bne, hkb]; rfl
          go_wp2_with fail
          clear y0 y1 y2 y3 y4 y5 y6 y7 y8
          refine (sameM_any _ ⟨ry, wty, bky, cyy, keyy, dsy, psy, csy, esy⟩ zeroMat _ _ _ _ _ _ _ _ HY.out.mat (mat_zero _) HYS.out ((small_zero 0).mono (by decide))).mono ?_
          rintro e ws ⟨b, rfl, hbr, hb⟩
          obtain rfl : b = true := hbr.2 (by rw [HYB.out]; rfl)
          have HB := Lib.hid (HB.out.below hb)
          clear hb
          clear hbr
          go_wp2_with fail
          go_ret
          exact ⟨rfl, HB.out.old⟩
      · have hpo : parseO TX.data.toList = ((⟨r, wt, bk, cy, key, ds, ps, cs, es⟩ : Mat).bare, 0, 0) := by rw [HBK2.out, if_neg (by omega)]
        go_wp2_with fail
        refine (parse_code _ TX (by have := HX2.out; omega) HB.out.tab (k := 0) (no := 0) (by rw [hpo])).mono ?_
        rintro e w5 ⟨⟨rx, wtx, bkx, cyx, keyx, dsx, psx, csx, esx⟩, Adx, Apx, Acx, Aex, cdx, cpx, ccx, cex, rfl, hbx, hmx, hsx, hb⟩
        rw [hpo] at hbx
        have HXS := Lib.hid hsx
        have HXB := Lib.hid hbx
        unfold Mat.val
        simp only
        have HB := Lib.hid ((HB.out.below hb).alloc (.cells #[.int .i64 rx, .int .i64 wtx, .int .i64 bkx, .int .i64 cyx, .string keyx, .slice Adx dsx.length cdx, .slice Apx psx.length cpx, .slice Acx csx.length ccx, .slice Aex esx.length cex] 27))
        have HXX := Lib.hid (⟨(Below.refl _ _).alloc (Nat.le_refl _) _, hmx.below ((Below.refl _ _).alloc (Nat.le_refl _) _), Words.Blk.new w5 _ _, HB.out.tab, HB.out.tab10⟩ : HdIs w5 w5.heap.size ⟨rx, wtx, bkx, cyx, keyx, dsx, psx, csx, esx⟩ (.slice Adx dsx.length cdx) (.slice Apx psx.length cpx) (.slice Acx csx.length ccx) (.slice Aex esx.length cex) #[.int .i64 rx, .int .i64 wtx, .int .i64 bkx, .int .i64 cyx, .string keyx, .slice Adx dsx.length cdx, .slice Apx psx.length cpx, .slice Acx csx.length ccx, .slice Aex esx.length cex] (w5.alloc (.cells #[.int .i64 rx, .int .i64 wtx, .int .i64 bkx, .int .i64 cyx, .string keyx, .slice Adx dsx.length cdx, .slice Apx psx.length cpx, .slice Acx csx.length ccx, .slice Aex esx.length cex] 27)))
        clear hbx hmx hsx hb hpo
        have z0 : (w5.alloc (.cells #[.int .i64 rx, .int .i64 wtx, .int .i64 bkx, .int .i64 cyx, .string keyx, .slice Adx dsx.length cdx, .slice Apx psx.length cpx, .slice Acx csx.length ccx, .slice Aex esx.length cex] 27)).cell? ⟨w.heap.size, 0, none⟩ = some (.int .i64 r) := HB.out.box.cell 0
        have z1 : (w5.alloc (.cells #[.int .i64 rx, .int .i64 wtx, .int .i64 bkx, .int .i64 cyx, .string keyx, .slice Adx dsx.length cdx, .slice Apx psx.length cpx, .slice Acx csx.length ccx, .slice Aex esx.length cex] 27)).cell? ⟨w.heap.size, 1, none⟩ = some (.int .i64 wt) := HB.out.box.cell 1
        have z2 : (w5.alloc (.cells #[.int .i64 rx, .int .i64 wtx, .int .i64 bkx, .int .i64 cyx, .string keyx, .slice Adx dsx.length cdx, .slice Apx psx.length cpx, .slice Acx csx.length ccx, .slice Aex esx.length cex] 27)).cell? ⟨w.heap.size, 2, none⟩ = some (.int .i64 bk) := HB.out.box.cell 2
        have z3 : (w5.alloc (.cells #[.int .i64 rx, .int .i64 wtx, .int .i64 bkx, .int .i64 cyx, .string keyx, .slice Adx dsx.length cdx, .slice Apx psx.length cpx, .slice Acx csx.length ccx, .slice Aex esx.length cex] 27)).cell? ⟨w.heap.size, 3, none⟩ = some (.int .i64 cy) := HB.out.box.cell 3
        have z4 : (w5.alloc (.cells #[.int .i64 rx, .int .i64 wtx, .int .i64 bkx, .int .i64 cyx, .string keyx, .slice Adx dsx.length cdx, .slice Apx psx.length cpx, .slice Acx csx.length ccx, .slice Aex esx.length cex] 27)).cell? ⟨w.heap.size, 4, none⟩ = some (.string key) := HB.out.box.cell 4
        have z5 : (w5.alloc (.cells #[.int .i64 rx, .int .i64 wtx, .int .i64 bkx, .int .i64 cyx, .string keyx, .slice Adx dsx.length cdx, .slice Apx psx.length cpx, .slice Acx csx.length ccx, .slice Aex esx.length cex] 27)).cell? ⟨w.heap.size, 5, none⟩ = some (.slice Ad ds.length cd) := HB.out.box.cell 5
        have z6 : (w5.alloc (.cells #[.int .i64 rx, .int .i64 wtx, .int .i64 bkx, .int .i64 cyx, .string keyx, .slice Adx dsx.length cdx, .slice Apx psx.length cpx, .slice Acx csx.length ccx, .slice Aex esx.length cex] 27)).cell? ⟨w.heap.size, 6, none⟩ = some (.slice Ap ps.length cp) := HB.out.box.cell 6
        have z7 : (w5.alloc (.cells #[.int .i64 rx, .int .i64 wtx, .int .i64 bkx, .int .i64 cyx, .string keyx, .slice Adx dsx.length cdx, .slice Apx psx.length cpx, .slice Acx csx.length ccx, .slice Aex esx.length cex] 27)).cell? ⟨w.heap.size, 7, none⟩ = some (.slice Ac cs.length cc) := HB.out.box.cell 7
        have z8 : (w5.alloc (.cells #[.int .i64 rx, .int .i64 wtx, .int .i64 bkx, .int .i64 cyx, .string keyx, .slice Adx dsx.length cdx, .slice Apx psx.length cpx, .slice Acx csx.length ccx, .slice Aex esx.length cex] 27)).cell? ⟨w.heap.size, 8, none⟩ = some (.slice Ae es.length ce) := HB.out.box.cell 8
        have x0 : (w5.alloc (.cells #[.int .i64 rx, .int .i64 wtx, .int .i64 bkx, .int .i64 cyx, .string keyx, .slice Adx dsx.length cdx, .slice Apx psx.length cpx, .slice Acx csx.length ccx, .slice Aex esx.length cex] 27)).cell? ⟨w5.heap.size, 0, none⟩ = some (.int .i64 rx) := HXX.out.box.cell 0
        have x1 : (w5.alloc (.cells #[.int .i64 rx, .int .i64 wtx, .int .i64 bkx, .int .i64 cyx, .string keyx, .slice Adx dsx.length cdx, .slice Apx psx.length cpx, .slice Acx csx.length ccx, .slice Aex esx.length cex] 27)).cell? ⟨w5.heap.size, 1, none⟩ = some (.int .i64 wtx) := HXX.out.box.cell 1
        have x2 : (w5.alloc (.cells #[.int .i64 rx, .int .i64 wtx, .int .i64 bkx, .int .i64 cyx, .string keyx, .slice Adx dsx.length cdx, .slice Apx psx.length cpx, .slice Acx csx.length ccx, .slice Aex esx.length cex] 27)).cell? ⟨w5.heap.size, 2, none⟩ = some (.int .i64 bkx) := HXX.out.box.cell 2
        have x3 : (w5.alloc (.cells #[.int .i64 rx, .int .i64 wtx, .int .i64 bkx, .int .i64 cyx, .string keyx, .slice Adx dsx.length cdx, .slice Apx psx.length cpx, .slice Acx csx.length ccx, .slice Aex esx.length cex] 27)).cell? ⟨w5.heap.size, 3, none⟩ = some (.int .i64 cyx) := HXX.out.box.cell 3
        have x4 : (w5.alloc (.cells #[.int .i64 rx, .int .i64 wtx, .int .i64 bkx, .int .i64 cyx, .string keyx, .slice Adx dsx.length cdx, .slice Apx psx.length cpx, .slice Acx csx.length ccx, .slice Aex esx.length cex] 27)).cell? ⟨w5.heap.size, 4, none⟩ = some (.string keyx) := HXX.out.box.cell 4
        have x5 : (w5.alloc (.cells #[.int .i64 rx, .int .i64 wtx, .int .i64 bkx, .int .i64 cyx, .string keyx, .slice Adx dsx.length cdx, .slice Apx psx.length cpx, .slice Acx csx.length ccx, .slice Aex esx.length cex] 27)).cell? ⟨w5.heap.size, 5, none⟩ = some (.slice Adx dsx.length cdx) := HXX.out.box.cell 5
        have x6 : (w5.alloc (.cells #[.int .i64 rx, .int .i64 wtx, .int .i64 bkx, .int .i64 cyx, .string keyx, .slice Adx dsx.length cdx, .slice Apx psx.length cpx, .slice Acx csx.length ccx, .slice Aex esx.length cex] 27)).cell? ⟨w5.heap.size, 6, none⟩ = some (.slice Apx psx.length cpx) := HXX.out.box.cell 6
        have x7 : (w5.alloc (.cells #[.int .i64 rx, .int .i64 wtx, .int .i64 bkx, .int .i64 cyx, .string keyx, .slice Adx dsx.length cdx, .slice Apx psx.length cpx, .slice Acx csx.length ccx, .slice Aex esx.length cex] 27)).cell? ⟨w5.heap.size, 7, none⟩ = some (.slice Acx csx.length ccx) := HXX.out.box.cell 7
        have x8 : (w5.alloc (.cells #[.int .i64 rx, .int .i64 wtx, .int .i64 bkx, .int .i64 cyx, .string keyx, .slice Adx dsx.length cdx, .slice Apx psx.length cpx, .slice Acx csx.length ccx, .slice Aex esx.length cex] 27)).cell? ⟨w5.heap.size, 8, none⟩ = some (.slice Aex esx.length cex) := HXX.out.box.cell 8
        go_wp2_with fail
        clear z0 z1 z2 z3 z4 z5 z6 z7 z8
        clear x0 x1 x2 x3 x4 x5 x6 x7 x8
        refine (sameM_any _ ⟨rx, wtx, bkx, cyx, keyx, dsx, psx, csx, esx⟩ ⟨r, wt, bk, cy, key, ds, ps, cs, es⟩ _ _ _ _ _ _ _ _ HXX.out.mat HB.out.mat HXS.out (right_small HR.out)).mono ?_
        rintro e w6 ⟨b, rfl, hbr, hb⟩
        obtain rfl : b = true := hbr.2 (by rw [HXB.out])
        have HB := Lib.hid (HB.out.below hb)
        clear hb
        clear hbr HXX HXS HXB
        have hpc := HPC.out
        rcases hpc with ⟨y, hy, hyr⟩ | ⟨k, no, hk, hk0⟩
        · go_wp2_with fail
          refine (parse_code _ s HS.out HB.out.tab (k := 0) (no := 0) (by rw [hy])).mono ?_
          rintro e wy ⟨⟨ry, wty, bky, cyy, keyy, dsy, psy, csy, esy⟩, Ady, Apy, Acy, Aey, cdy, cpy, ccy, cey, rfl, hby, hmy, hsy, hb⟩
          rw [hy] at hby
          have HYR : Hid (RightP ⟨ry, wty, bky, cyy, keyy, dsy, psy, csy, esy⟩) := Lib.hid ((right_bare _).1 (by rw [hby]; exact hyr))
          have HYS := Lib.hid hsy
          have HYM : Hid (MatSmall ⟨ry, wty, bky, cyy, keyy, dsy, psy, csy, esy⟩) := Lib.hid (hsy.small (by decide) true true)
          unfold Mat.val
          simp only
          have HB := Lib.hid ((HB.out.below hb).alloc (.cells #[.int .i64 ry, .int .i64 wty, .int .i64 bky, .int .i64 cyy, .string keyy, .slice Ady dsy.length cdy, .slice Apy psy.length cpy, .slice Acy csy.length ccy, .slice Aey esy.length cey] 27))
          have HY := Lib.hid (⟨(Below.refl _ _).alloc (Nat.le_refl _) _, hmy.below ((Below.refl _ _).alloc (Nat.le_refl _) _), Words.Blk.new wy _ _, HB.out.tab, HB.out.tab10⟩ : HdIs wy wy.heap.size ⟨ry, wty, bky, cyy, keyy, dsy, psy, csy, esy⟩ (.slice Ady dsy.length cdy) (.slice Apy psy.length cpy) (.slice Acy csy.length ccy) (.slice Aey esy.length cey) #[.int .i64 ry, .int .i64 wty, .int .i64 bky, .int .i64 cyy, .string keyy, .slice Ady dsy.length cdy, .slice Apy psy.length cpy, .slice Acy csy.length ccy, .slice Aey esy.length cey] (wy.alloc (.cells #[.int .i64 ry, .int .i64 wty, .int .i64 bky, .int .i64 cyy, .string keyy, .slice Ady dsy.length cdy, .slice Apy psy.length cpy, .slice Acy csy.length ccy, .slice Aey esy.length cey] 27)))
          obtain ⟨TY, hTY⟩ : ∃ TY, TY = textM ⟨ry, wty, bky, cyy, keyy, dsy, psy, csy, esy⟩ := ⟨_, rfl⟩
          have HTY := Lib.hid hTY
          have hback := back_print (m := ⟨ry, wty, bky, cyy, keyy, dsy, psy, csy, esy⟩) HYR.out
          rw [← hTY] at hback
          have HBK := Lib.hid hback
          have HYL : Hid (TY.size ≤ 10000) := Lib.hid (by rw [hTY, textM_right HYR.out, toB_size]; exact text_len HYR.out)
          clear hby hmy hsy hb hTY hback hy hyr
          have y0 : (wy.alloc (.cells #[.int .i64 ry, .int .i64 wty, .int .i64 bky, .int .i64 cyy, .string keyy, .slice Ady dsy.length cdy, .slice Apy psy.length cpy, .slice Acy csy.length ccy, .slice Aey esy.length cey] 27)).cell? ⟨wy.heap.size, 0, none⟩ = some (.int .i64 ry) := HY.out.box.cell 0
          have y1 : (wy.alloc (.cells #[.int .i64 ry, .int .i64 wty, .int .i64 bky, .int .i64 cyy, .string keyy, .slice Ady dsy.length cdy, .slice Apy psy.length cpy, .slice Acy csy.length ccy, .slice Aey esy.length cey] 27)).cell? ⟨wy.heap.size, 1, none⟩ = some (.int .i64 wty) := HY.out.box.cell 1
          have y2 : (wy.alloc (.cells #[.int .i64 ry, .int .i64 wty, .int .i64 bky, .int .i64 cyy, .string keyy, .slice Ady dsy.length cdy, .slice Apy psy.length cpy, .slice Acy csy.length ccy, .slice Aey esy.length cey] 27)).cell? ⟨wy.heap.size, 2, none⟩ = some (.int .i64 bky) := HY.out.box.cell 2
          have y3 : (wy.alloc (.cells #[.int .i64 ry, .int .i64 wty, .int .i64 bky, .int .i64 cyy, .string keyy, .slice Ady dsy.length cdy, .slice Apy psy.length cpy, .slice Acy csy.length ccy, .slice Aey esy.length cey] 27)).cell? ⟨wy.heap.size, 3, none⟩ = some (.int .i64 cyy) := HY.out.box.cell 3
          have y4 : (wy.alloc (.cells #[.int .i64 ry, .int .i64 wty, .int .i64 bky, .int .i64 cyy, .string keyy, .slice Ady dsy.length cdy, .slice Apy psy.length cpy, .slice Acy csy.length ccy, .slice Aey esy.length cey] 27)).cell? ⟨wy.heap.size, 4, none⟩ = some (.string keyy) := HY.out.box.cell 4
          have y5 : (wy.alloc (.cells #[.int .i64 ry, .int .i64 wty, .int .i64 bky, .int .i64 cyy, .string keyy, .slice Ady dsy.length cdy, .slice Apy psy.length cpy, .slice Acy csy.length ccy, .slice Aey esy.length cey] 27)).cell? ⟨wy.heap.size, 5, none⟩ = some (.slice Ady dsy.length cdy) := HY.out.box.cell 5
          have y6 : (wy.alloc (.cells #[.int .i64 ry, .int .i64 wty, .int .i64 bky, .int .i64 cyy, .string keyy, .slice Ady dsy.length cdy, .slice Apy psy.length cpy, .slice Acy csy.length ccy, .slice Aey esy.length cey] 27)).cell? ⟨wy.heap.size, 6, none⟩ = some (.slice Apy psy.length cpy) := HY.out.box.cell 6
          have y7 : (wy.alloc (.cells #[.int .i64 ry, .int .i64 wty, .int .i64 bky, .int .i64 cyy, .string keyy, .slice Ady dsy.length cdy, .slice Apy psy.length cpy, .slice Acy csy.length ccy, .slice Aey esy.length cey] 27)).cell? ⟨wy.heap.size, 7, none⟩ = some (.slice Acy csy.length ccy) := HY.out.box.cell 7
          have y8 : (wy.alloc (.cells #[.int .i64 ry, .int .i64 wty, .int .i64 bky, .int .i64 cyy, .string keyy, .slice Ady dsy.length cdy, .slice Apy psy.length cpy, .slice Acy csy.length ccy, .slice Aey esy.length cey] 27)).cell? ⟨wy.heap.size, 8, none⟩ = some (.slice Aey esy.length cey) := HY.out.box.cell 8
          go_wp2_with fail
          clear y0 y1 y2 y3 y4 y5 y6 y7 y8
          have hp := printM_any (wy.alloc (.cells #[.int .i64 ry, .int .i64 wty, .int .i64 bky, .int .i64 cyy, .string keyy, .slice Ady dsy.length cdy, .slice Apy psy.length cpy, .slice Acy csy.length ccy, .slice Aey esy.length cey] 27)) ⟨ry, wty, bky, cyy, keyy, dsy, psy, csy, esy⟩ _ _ _ _ HY.out.mat HYM.out HY.out.tab10
          rw [← HTY.out] at hp
          refine hp.mono ?_
          rintro e wq ⟨rfl, hb⟩
          have HB := Lib.hid (HB.out.below hb)
          have HY := Lib.hid (HY.out.below hb)
          clear hb hp
          by_cases hlong : (4096 : Int) < (TY.size : Int)
          · have hpo : parseO TY.data.toList = (zeroMat, 2, 0) := by rw [HBK.out, if_pos (by omega)]
            go_wp2_with fail
            refine (parse_code _ TY (by have := HYL.out; omega) HB.out.tab (k := 2) (no := 0) (by rw [hpo])).mono ?_
            rintro e wz ⟨⟨rz, wtz, bkz, cyz, keyz, dsz, psz, csz, esz⟩, Adz, Apz, Acz, Aez, cdz, cpz, ccz, cez, rfl, hbz, hmz, hsz, hb⟩
            rw [hpo] at hbz
            have HZS := Lib.hid hsz
            have HZB := Lib.hid hbz
            unfold Mat.val
            simp only
            have HB := Lib.hid ((HB.out.below hb).alloc (.cells #[.int .i64 rz, .int .i64 wtz, .int .i64 bkz, .int .i64 cyz, .string keyz, .slice Adz dsz.length cdz, .slice Apz psz.length cpz, .slice Acz csz.length ccz, .slice Aez esz.length cez] 27))
            have HY := Lib.hid ((HY.out.below hb).alloc (.cells #[.int .i64 rz, .int .i64 wtz, .int .i64 bkz, .int .i64 cyz, .string keyz, .slice Adz dsz.length cdz, .slice Apz psz.length cpz, .slice Acz csz.length ccz, .slice Aez esz.length cez] 27))
            have HZ := Lib.hid (⟨(Below.refl _ _).alloc (Nat.le_refl _) _, hmz.below ((Below.refl _ _).alloc (Nat.le_refl _) _), Words.Blk.new wz _ _, HB.out.tab, HB.out.tab10⟩ : HdIs wz wz.heap.size ⟨rz, wtz, bkz, cyz, keyz, dsz, psz, csz, esz⟩ (.slice Adz dsz.length cdz) (.slice Apz psz.length cpz) (.slice Acz csz.length ccz) (.slice Aez esz.length cez) #[.int .i64 rz, .int .i64 wtz, .int .i64 bkz, .int .i64 cyz, .string keyz, .slice Adz dsz.length cdz, .slice Apz psz.length cpz, .slice Acz csz.length ccz, .slice Aez esz.length cez] (wz.alloc (.cells #[.int .i64 rz, .int .i64 wtz, .int .i64 bkz, .int .i64 cyz, .string keyz, .slice Adz dsz.length cdz, .slice Apz psz.length cpz, .slice Acz csz.length ccz, .slice Aez esz.length cez] 27)))
            clear hbz hmz hsz hb hpo
            have y0 : (wz.alloc (.cells #[.int .i64 rz, .int .i64 wtz, .int .i64 bkz, .int .i64 cyz, .string keyz, .slice Adz dsz.length cdz, .slice Apz psz.length cpz, .slice Acz csz.length ccz, .slice Aez esz.length cez] 27)).cell? ⟨wy.heap.size, 0, none⟩ = some (.int .i64 ry) := HY.out.box.cell 0
            have y1 : (wz.alloc (.cells #[.int .i64 rz, .int .i64 wtz, .int .i64 bkz, .int .i64 cyz, .string keyz, .slice Adz dsz.length cdz, .slice Apz psz.length cpz, .slice Acz csz.length ccz, .slice Aez esz.length cez] 27)).cell? ⟨wy.heap.size, 1, none⟩ = some (.int .i64 wty) := HY.out.box.cell 1
            have y2 : (wz.alloc (.cells #[.int .i64 rz, .int .i64 wtz, .int .i64 bkz, .int .i64 cyz, .string keyz, .slice Adz dsz.length cdz, .slice Apz psz.length cpz, .slice Acz csz.length ccz, .slice Aez esz.length cez] 27)).cell? ⟨wy.heap.size, 2, none⟩ = some (.int .i64 bky) := HY.out.box.cell 2
            have y3 : (wz.alloc (.cells #[.int .i64 rz, .int .i64 wtz, .int .i64 bkz, .int .i64 cyz, .string keyz, .slice Adz dsz.length cdz, .slice Apz psz.length cpz, .slice Acz csz.length ccz, .slice Aez esz.length cez] 27)).cell? ⟨wy.heap.size, 3, none⟩ = some (.int .i64 cyy) := HY.out.box.cell 3
            have y4 : (wz.alloc (.cells #[.int .i64 rz, .int .i64 wtz, .int .i64 bkz, .int .i64 cyz, .string keyz, .slice Adz dsz.length cdz, .slice Apz psz.length cpz, .slice Acz csz.length ccz, .slice Aez esz.length cez] 27)).cell? ⟨wy.heap.size, 4, none⟩ = some (.string keyy) := HY.out.box.cell 4
            have y5 : (wz.alloc (.cells #[.int .i64 rz, .int .i64 wtz, .int .i64 bkz, .int .i64 cyz, .string keyz, .slice Adz dsz.length cdz, .slice Apz psz.length cpz, .slice Acz csz.length ccz, .slice Aez esz.length cez] 27)).cell? ⟨wy.heap.size, 5, none⟩ = some (.slice Ady dsy.length cdy) := HY.out.box.cell 5
            have y6 : (wz.alloc (.cells #[.int .i64 rz, .int .i64 wtz, .int .i64 bkz, .int .i64 cyz, .string keyz, .slice Adz dsz.length cdz, .slice Apz psz.length cpz, .slice Acz csz.length ccz, .slice Aez esz.length cez] 27)).cell? ⟨wy.heap.size, 6, none⟩ = some (.slice Apy psy.length cpy) := HY.out.box.cell 6
            have y7 : (wz.alloc (.cells #[.int .i64 rz, .int .i64 wtz, .int .i64 bkz, .int .i64 cyz, .string keyz, .slice Adz dsz.length cdz, .slice Apz psz.length cpz, .slice Acz csz.length ccz, .slice Aez esz.length cez] 27)).cell? ⟨wy.heap.size, 7, none⟩ = some (.slice Acy csy.length ccy) := HY.out.box.cell 7
            have y8 : (wz.alloc (.cells #[.int .i64 rz, .int .i64 wtz, .int .i64 bkz, .int .i64 cyz, .string keyz, .slice Adz dsz.length cdz, .slice Apz psz.length cpz, .slice Acz csz.length ccz, .slice Aez esz.length cez] 27)).cell? ⟨wy.heap.size, 8, none⟩ = some (.slice Aey esy.length cey) := HY.out.box.cell 8
            go_wp2_with fail
            clear y0 y1 y2 y3 y4 y5 y6 y7 y8
            refine (lRight_any _ ⟨ry, wty, bky, cyy, keyy, dsy, psy, csy, esy⟩ _ _ _ _ HY.out.mat HYM.out).mono ?_
            rintro e wr ⟨b, rfl, hbr, hb⟩
            obtain rfl : b = true := hbr.2 HYR.out
            have HB := Lib.hid (HB.out.below hb)
            have HY := Lib.hid (HY.out.below hb)
            have HZ := Lib.hid (HZ.out.below hb)
            clear hb hbr
            have y0 : wr.cell? ⟨wy.heap.size, 0, none⟩ = some (.int .i64 ry) := HY.out.box.cell 0
            have y1 : wr.cell? ⟨wy.heap.size, 1, none⟩ = some (.int .i64 wty) := HY.out.box.cell 1
            have y2 : wr.cell? ⟨wy.heap.size, 2, none⟩ = some (.int .i64 bky) := HY.out.box.cell 2
            have y3 : wr.cell? ⟨wy.heap.size, 3, none⟩ = some (.int .i64 cyy) := HY.out.box.cell 3
            have y4 : wr.cell? ⟨wy.heap.size, 4, none⟩ = some (.string keyy) := HY.out.box.cell 4
            have y5 : wr.cell? ⟨wy.heap.size, 5, none⟩ = some (.slice Ady dsy.length cdy) := HY.out.box.cell 5
            have y6 : wr.cell? ⟨wy.heap.size, 6, none⟩ = some (.slice Apy psy.length cpy) := HY.out.box.cell 6
            have y7 : wr.cell? ⟨wy.heap.size, 7, none⟩ = some (.slice Acy csy.length ccy) := HY.out.box.cell 7
            have y8 : wr.cell? ⟨wy.heap.size, 8, none⟩ = some (.slice Aey esy.length cey) := HY.out.box.cell 8
            go_wp2_with fail
            clear y0 y1 y2 y3 y4 y5 y6 y7 y8
            have hp := printM_any wr ⟨ry, wty, bky, cyy, keyy, dsy, psy, csy, esy⟩ _ _ _ _ HY.out.mat HYM.out HY.out.tab10
            rw [← HTY.out] at hp
            refine hp.mono ?_
            rintro e wt9 ⟨rfl, hb⟩
            have HB := Lib.hid (HB.out.below hb)
            clear hb
            clear hp
            go_wp2_with fail
            go_ret
            exact ⟨rfl, HB.out.old⟩
          · have hpo : parseO TY.data.toList = ((⟨ry, wty, bky, cyy, keyy, dsy, psy, csy, esy⟩ : Mat).bare, 0, 0) := by rw [HBK.out, if_neg (by omega)]
            go_wp2_with fail
            refine (parse_code _ TY (by have := HYL.out; omega) HB.out.tab (k := 0) (no := 0) (by rw [hpo])).mono ?_
            rintro e wz ⟨⟨rz, wtz, bkz, cyz, keyz, dsz, psz, csz, esz⟩, Adz, Apz, Acz, Aez, cdz, cpz, ccz, cez, rfl, hbz, hmz, hsz, hb⟩
            rw [hpo] at hbz
            have HZS := Lib.hid hsz
            have HZB := Lib.hid hbz
            unfold Mat.val
            simp only
            have HB := Lib.hid ((HB.out.below hb).alloc (.cells #[.int .i64 rz, .int .i64 wtz, .int .i64 bkz, .int .i64 cyz, .string keyz, .slice Adz dsz.length cdz, .slice Apz psz.length cpz, .slice Acz csz.length ccz, .slice Aez esz.length cez] 27))
            have HY := Lib.hid ((HY.out.below hb).alloc (.cells #[.int .i64 rz, .int .i64 wtz, .int .i64 bkz, .int .i64 cyz, .string keyz, .slice Adz dsz.length cdz, .slice Apz psz.length cpz, .slice Acz csz.length ccz, .slice Aez esz.length cez] 27))
            have HZ := Lib.hid (⟨(Below.refl _ _).alloc (Nat.le_refl _) _, hmz.below ((Below.refl _ _).alloc (Nat.le_refl _) _), Words.Blk.new wz _ _, HB.out.tab, HB.out.tab10⟩ : HdIs wz wz.heap.size ⟨rz, wtz, bkz, cyz, keyz, dsz, psz, csz, esz⟩ (.slice Adz dsz.length cdz) (.slice Apz psz.length cpz) (.slice Acz csz.length ccz) (.slice Aez esz.length cez) #[.int .i64 rz, .int .i64 wtz, .int .i64 bkz, .int .i64 cyz, .string keyz, .slice Adz dsz.length cdz, .slice Apz psz.length cpz, .slice Acz csz.length ccz, .slice Aez esz.length cez] (wz.alloc (.cells #[.int .i64 rz, .int .i64 wtz, .int .i64 bkz, .int .i64 cyz, .string keyz, .slice Adz dsz.length cdz, .slice Apz psz.length cpz, .slice Acz csz.length ccz, .slice Aez esz.length cez] 27)))
            clear hbz hmz hsz hb hpo
            have y0 : (wz.alloc (.cells #[.int .i64 rz, .int .i64 wtz, .int .i64 bkz, .int .i64 cyz, .string keyz, .slice Adz dsz.length cdz, .slice Apz psz.length cpz, .slice Acz csz.length ccz, .slice Aez esz.length cez] 27)).cell? ⟨wy.heap.size, 0, none⟩ = some (.int .i64 ry) := HY.out.box.cell 0
            have y1 : (wz.alloc (.cells #[.int .i64 rz, .int .i64 wtz, .int .i64 bkz, .int .i64 cyz, .string keyz, .slice Adz dsz.length cdz, .slice Apz psz.length cpz, .slice Acz csz.length ccz, .slice Aez esz.length cez] 27)).cell? ⟨wy.heap.size, 1, none⟩ = some (.int .i64 wty) := HY.out.box.cell 1
            have y2 : (wz.alloc (.cells #[.int .i64 rz, .int .i64 wtz, .int .i64 bkz, .int .i64 cyz, .string keyz, .slice Adz dsz.length cdz, .slice Apz psz.length cpz, .slice Acz csz.length ccz, .slice Aez esz.length cez] 27)).cell? ⟨wy.heap.size, 2, none⟩ = some (.int .i64 bky) := HY.out.box.cell 2
            have y3 : (wz.alloc (.cells #[.int .i64 rz, .int .i64 wtz, .int .i64 bkz, .int .i64 cyz, .string keyz, .slice Adz dsz.length cdz, .slice Apz psz.length cpz, .slice Acz csz.length ccz, .slice Aez esz.length cez] 27)).cell? ⟨wy.heap.size, 3, none⟩ = some (.int .i64 cyy) := HY.out.box.cell 3
            have y4 : (wz.alloc (.cells #[.int .i64 rz, .int .i64 wtz, .int .i64 bkz, .int .i64 cyz, .string keyz, .slice Adz dsz.length cdz, .slice Apz psz.length cpz, .slice Acz csz.length ccz, .slice Aez esz.length cez] 27)).cell? ⟨wy.heap.size, 4, none⟩ = some (.string keyy) := HY.out.box.cell 4
            have y5 : (wz.alloc (.cells #[.int .i64 rz, .int .i64 wtz, .int .i64 bkz, .int .i64 cyz, .string keyz, .slice Adz dsz.length cdz, .slice Apz psz.length cpz, .slice Acz csz.length ccz, .slice Aez esz.length cez] 27)).cell? ⟨wy.heap.size, 5, none⟩ = some (.slice Ady dsy.length cdy) := HY.out.box.cell 5
            have y6 : (wz.alloc (.cells #[.int .i64 rz, .int .i64 wtz, .int .i64 bkz, .int .i64 cyz, .string keyz, .slice Adz dsz.length cdz, .slice Apz psz.length cpz, .slice Acz csz.length ccz, .slice Aez esz.length cez] 27)).cell? ⟨wy.heap.size, 6, none⟩ = some (.slice Apy psy.length cpy) := HY.out.box.cell 6
            have y7 : (wz.alloc (.cells #[.int .i64 rz, .int .i64 wtz, .int .i64 bkz, .int .i64 cyz, .string keyz, .slice Adz dsz.length cdz, .slice Apz psz.length cpz, .slice Acz csz.length ccz, .slice Aez esz.length cez] 27)).cell? ⟨wy.heap.size, 7, none⟩ = some (.slice Acy csy.length ccy) := HY.out.box.cell 7
            have y8 : (wz.alloc (.cells #[.int .i64 rz, .int .i64 wtz, .int .i64 bkz, .int .i64 cyz, .string keyz, .slice Adz dsz.length cdz, .slice Apz psz.length cpz, .slice Acz csz.length ccz, .slice Aez esz.length cez] 27)).cell? ⟨wy.heap.size, 8, none⟩ = some (.slice Aey esy.length cey) := HY.out.box.cell 8
            go_wp2_with fail
            clear y0 y1 y2 y3 y4 y5 y6 y7 y8
            refine (lRight_any _ ⟨ry, wty, bky, cyy, keyy, dsy, psy, csy, esy⟩ _ _ _ _ HY.out.mat HYM.out).mono ?_
            rintro e wr ⟨b, rfl, hbr, hb⟩
            obtain rfl : b = true := hbr.2 HYR.out
            have HB := Lib.hid (HB.out.below hb)
            have HY := Lib.hid (HY.out.below hb)
            have HZ := Lib.hid (HZ.out.below hb)
            clear hb hbr
            have y0 : wr.cell? ⟨wy.heap.size, 0, none⟩ = some (.int .i64 ry) := HY.out.box.cell 0
            have y1 : wr.cell? ⟨wy.heap.size, 1, none⟩ = some (.int .i64 wty) := HY.out.box.cell 1
            have y2 : wr.cell? ⟨wy.heap.size, 2, none⟩ = some (.int .i64 bky) := HY.out.box.cell 2
            have y3 : wr.cell? ⟨wy.heap.size, 3, none⟩ = some (.int .i64 cyy) := HY.out.box.cell 3
            have y4 : wr.cell? ⟨wy.heap.size, 4, none⟩ = some (.string keyy) := HY.out.box.cell 4
            have y5 : wr.cell? ⟨wy.heap.size, 5, none⟩ = some (.slice Ady dsy.length cdy) := HY.out.box.cell 5
            have y6 : wr.cell? ⟨wy.heap.size, 6, none⟩ = some (.slice Apy psy.length cpy) := HY.out.box.cell 6
            have y7 : wr.cell? ⟨wy.heap.size, 7, none⟩ = some (.slice Acy csy.length ccy) := HY.out.box.cell 7
            have y8 : wr.cell? ⟨wy.heap.size, 8, none⟩ = some (.slice Aey esy.length cey) := HY.out.box.cell 8
            have x0 : wr.cell? ⟨wz.heap.size, 0, none⟩ = some (.int .i64 rz) := HZ.out.box.cell 0
            have x1 : wr.cell? ⟨wz.heap.size, 1, none⟩ = some (.int .i64 wtz) := HZ.out.box.cell 1
            have x2 : wr.cell? ⟨wz.heap.size, 2, none⟩ = some (.int .i64 bkz) := HZ.out.box.cell 2
            have x3 : wr.cell? ⟨wz.heap.size, 3, none⟩ = some (.int .i64 cyz) := HZ.out.box.cell 3
            have x4 : wr.cell? ⟨wz.heap.size, 4, none⟩ = some (.string keyz) := HZ.out.box.cell 4
            have x5 : wr.cell? ⟨wz.heap.size, 5, none⟩ = some (.slice Adz dsz.length cdz) := HZ.out.box.cell 5
            have x6 : wr.cell? ⟨wz.heap.size, 6, none⟩ = some (.slice Apz psz.length cpz) := HZ.out.box.cell 6
            have x7 : wr.cell? ⟨wz.heap.size, 7, none⟩ = some (.slice Acz csz.length ccz) := HZ.out.box.cell 7
            have x8 : wr.cell? ⟨wz.heap.size, 8, none⟩ = some (.slice Aez esz.length cez) := HZ.out.box.cell 8
            go_wp2_with fail
            clear y0 y1 y2 y3 y4 y5 y6 y7 y8
            clear x0 x1 x2 x3 x4 x5 x6 x7 x8
            refine (sameM_any _ ⟨ry, wty, bky, cyy, keyy, dsy, psy, csy, esy⟩ ⟨rz, wtz, bkz, cyz, keyz, dsz, psz, csz, esz⟩ _ _ _ _ _ _ _ _ HY.out.mat HZ.out.mat HYS.out HZS.out).mono ?_
            rintro e ws ⟨b, rfl, hbr, hb⟩
            obtain rfl : b = true := hbr.2 (by rw [HZB.out])
            have HB := Lib.hid (HB.out.below hb)
            clear hb
            clear hbr
            go_wp2_with fail
            go_ret
            exact ⟨rfl, HB.out.old⟩
        · go_wp2_with fail
          refine (parse_code _ s HS.out HB.out.tab (k := k) (no := no) (by rw [hk])).mono ?_
          rintro e wy ⟨⟨ry, wty, bky, cyy, keyy, dsy, psy, csy, esy⟩, Ady, Apy, Acy, Aey, cdy, cpy, ccy, cey, rfl, hby, hmy, hsy, hb⟩
          rw [hk] at hby
          have HYS := Lib.hid hsy
          have HYB := Lib.hid hby
          unfold Mat.val
          simp only
          have HB := Lib.hid ((HB.out.below hb).alloc (.cells #[.int .i64 ry, .int .i64 wty, .int .i64 bky, .int .i64 cyy, .string keyy, .slice Ady dsy.length cdy, .slice Apy psy.length cpy, .slice Acy csy.length ccy, .slice Aey esy.length cey] 27))
          have HY := Lib.hid (⟨(Below.refl _ _).alloc (Nat.le_refl _) _, hmy.below ((Below.refl _ _).alloc (Nat.le_refl _) _), Words.Blk.new wy _ _, HB.out.tab, HB.out.tab10⟩ : HdIs wy wy.heap.size ⟨ry, wty, bky, cyy, keyy, dsy, psy, csy, esy⟩ (.slice Ady dsy.length cdy) (.slice Apy psy.length cpy) (.slice Acy csy.length ccy) (.slice Aey esy.length cey) #[.int .i64 ry, .int .i64 wty, .int .i64 bky, .int .i64 cyy, .string keyy, .slice Ady dsy.length cdy, .slice Apy psy.length cpy, .slice Acy csy.length ccy, .slice Aey esy.length cey] (wy.alloc (.cells #[.int .i64 ry, .int .i64 wty, .int .i64 bky, .int .i64 cyy, .string keyy, .slice Ady dsy.length cdy, .slice Apy psy.length cpy, .slice Acy csy.length ccy, .slice Aey esy.length cey] 27)))
          clear hby hmy hsy hb hk
          have y0 : (wy.alloc (.cells #[.int .i64 ry, .int .i64 wty, .int .i64 bky, .int .i64 cyy, .string keyy, .slice Ady dsy.length cdy, .slice Apy psy.length cpy, .slice Acy csy.length ccy, .slice Aey esy.length cey] 27)).cell? ⟨wy.heap.size, 0, none⟩ = some (.int .i64 ry) := HY.out.box.cell 0
          have y1 : (wy.alloc (.cells #[.int .i64 ry, .int .i64 wty, .int .i64 bky, .int .i64 cyy, .string keyy, .slice Ady dsy.length cdy, .slice Apy psy.length cpy, .slice Acy csy.length ccy, .slice Aey esy.length cey] 27)).cell? ⟨wy.heap.size, 1, none⟩ = some (.int .i64 wty) := HY.out.box.cell 1
          have y2 : (wy.alloc (.cells #[.int .i64 ry, .int .i64 wty, .int .i64 bky, .int .i64 cyy, .string keyy, .slice Ady dsy.length cdy, .slice Apy psy.length cpy, .slice Acy csy.length ccy, .slice Aey esy.length cey] 27)).cell? ⟨wy.heap.size, 2, none⟩ = some (.int .i64 bky) := HY.out.box.cell 2
          have y3 : (wy.alloc (.cells #[.int .i64 ry, .int .i64 wty, .int .i64 bky, .int .i64 cyy, .string keyy, .slice Ady dsy.length cdy, .slice Apy psy.length cpy, .slice Acy csy.length ccy, .slice Aey esy.length cey] 27)).cell? ⟨wy.heap.size, 3, none⟩ = some (.int .i64 cyy) := HY.out.box.cell 3
          have y4 : (wy.alloc (.cells #[.int .i64 ry, .int .i64 wty, .int .i64 bky, .int .i64 cyy, .string keyy, .slice Ady dsy.length cdy, .slice Apy psy.length cpy, .slice Acy csy.length ccy, .slice Aey esy.length cey] 27)).cell? ⟨wy.heap.size, 4, none⟩ = some (.string keyy) := HY.out.box.cell 4
          have y5 : (wy.alloc (.cells #[.int .i64 ry, .int .i64 wty, .int .i64 bky, .int .i64 cyy, .string keyy, .slice Ady dsy.length cdy, .slice Apy psy.length cpy, .slice Acy csy.length ccy, .slice Aey esy.length cey] 27)).cell? ⟨wy.heap.size, 5, none⟩ = some (.slice Ady dsy.length cdy) := HY.out.box.cell 5
          have y6 : (wy.alloc (.cells #[.int .i64 ry, .int .i64 wty, .int .i64 bky, .int .i64 cyy, .string keyy, .slice Ady dsy.length cdy, .slice Apy psy.length cpy, .slice Acy csy.length ccy, .slice Aey esy.length cey] 27)).cell? ⟨wy.heap.size, 6, none⟩ = some (.slice Apy psy.length cpy) := HY.out.box.cell 6
          have y7 : (wy.alloc (.cells #[.int .i64 ry, .int .i64 wty, .int .i64 bky, .int .i64 cyy, .string keyy, .slice Ady dsy.length cdy, .slice Apy psy.length cpy, .slice Acy csy.length ccy, .slice Aey esy.length cey] 27)).cell? ⟨wy.heap.size, 7, none⟩ = some (.slice Acy csy.length ccy) := HY.out.box.cell 7
          have y8 : (wy.alloc (.cells #[.int .i64 ry, .int .i64 wty, .int .i64 bky, .int .i64 cyy, .string keyy, .slice Ady dsy.length cdy, .slice Apy psy.length cpy, .slice Acy csy.length ccy, .slice Aey esy.length cey] 27)).cell? ⟨wy.heap.size, 8, none⟩ = some (.slice Aey esy.length cey) := HY.out.box.cell 8
          have hkb : (k == 0) = false := by rw [beq_eq_false_iff_ne]; exact hk0
          have hkn : (k != 0) = true := by rw [bne, hkb]; rfl
          go_wp2_with fail
          clear y0 y1 y2 y3 y4 y5 y6 y7 y8
          refine (sameM_any _ ⟨ry, wty, bky, cyy, keyy, dsy, psy, csy, esy⟩ zeroMat _ _ _ _ _ _ _ _ HY.out.mat (mat_zero _) HYS.out ((small_zero 0).mono (by decide))).mono ?_
          rintro e ws ⟨b, rfl, hbr, hb⟩
          obtain rfl : b = true := hbr.2 (by rw [HYB.out]; rfl)
          have HB := Lib.hid (HB.out.below hb)
          clear hb
          clear hbr
          go_wp2_with fail
          go_ret
          exact ⟨rfl, HB.out.old⟩
    · have HR := Lib.hid hr
      have hns : TX.toList.isEmpty = true := by rw [hx]; exact none_text
      clear hr hx
      go_wp2_with fail
      clear z0 z1 z2 z3 z4 z5 z6 z7 z8
      refine (lRight_any _ ⟨r, wt, bk, cy, key, ds, ps, cs, es⟩ _ _ _ _ HB.out.mat HSM.out).mono ?_
      rintro e w4 ⟨b, rfl, hbr, hb⟩
      obtain rfl : b = false := by
        cases b with
        | false => rfl
        | true => exact absurd (hbr.1 rfl) HR.out
      have HB := Lib.hid (HB.out.below hb)
      clear hb
      clear hbr
      have hpc := HPC.out
      rcases hpc with ⟨y, hy, hyr⟩ | ⟨k, no, hk, hk0⟩
      · go_wp2_with fail
        refine (parse_code _ s HS.out HB.out.tab (k := 0) (no := 0) (by rw [hy])).mono ?_
        rintro e wy ⟨⟨ry, wty, bky, cyy, keyy, dsy, psy, csy, esy⟩, Ady, Apy, Acy, Aey, cdy, cpy, ccy, cey, rfl, hby, hmy, hsy, hb⟩
        rw [hy] at hby
        have HYR : Hid (RightP ⟨ry, wty, bky, cyy, keyy, dsy, psy, csy, esy⟩) := Lib.hid ((right_bare _).1 (by rw [hby]; exact hyr))
        have HYS := Lib.hid hsy
        have HYM : Hid (MatSmall ⟨ry, wty, bky, cyy, keyy, dsy, psy, csy, esy⟩) := Lib.hid (hsy.small (by decide) true true)
        unfold Mat.val
        simp only
        have HB := Lib.hid ((HB.out.below hb).alloc (.cells #[.int .i64 ry, .int .i64 wty, .int .i64 bky, .int .i64 cyy, .string keyy, .slice Ady dsy.length cdy, .slice Apy psy.length cpy, .slice Acy csy.length ccy, .slice Aey esy.length cey] 27))
        have HY := Lib.hid (⟨(Below.refl _ _).alloc (Nat.le_refl _) _, hmy.below ((Below.refl _ _).alloc (Nat.le_refl _) _), Words.Blk.new wy _ _, HB.out.tab, HB.out.tab10⟩ : HdIs wy wy.heap.size ⟨ry, wty, bky, cyy, keyy, dsy, psy, csy, esy⟩ (.slice Ady dsy.length cdy) (.slice Apy psy.length cpy) (.slice Acy csy.length ccy) (.slice Aey esy.length cey) #[.int .i64 ry, .int .i64 wty, .int .i64 bky, .int .i64 cyy, .string keyy, .slice Ady dsy.length cdy, .slice Apy psy.length cpy, .slice Acy csy.length ccy, .slice Aey esy.length cey] (wy.alloc (.cells #[.int .i64 ry, .int .i64 wty, .int .i64 bky, .int .i64 cyy, .string keyy, .slice Ady dsy.length cdy, .slice Apy psy.length cpy, .slice Acy csy.length ccy, .slice Aey esy.length cey] 27)))
        obtain ⟨TY, hTY⟩ : ∃ TY, TY = textM ⟨ry, wty, bky, cyy, keyy, dsy, psy, csy, esy⟩ := ⟨_, rfl⟩
        have HTY := Lib.hid hTY
        have hback := back_print (m := ⟨ry, wty, bky, cyy, keyy, dsy, psy, csy, esy⟩) HYR.out
        rw [← hTY] at hback
        have HBK := Lib.hid hback
        have HYL : Hid (TY.size ≤ 10000) := Lib.hid (by rw [hTY, textM_right HYR.out, toB_size]; exact text_len HYR.out)
        clear hby hmy hsy hb hTY hback hy hyr
        have y0 : (wy.alloc (.cells #[.int .i64 ry, .int .i64 wty, .int .i64 bky, .int .i64 cyy, .string keyy, .slice Ady dsy.length cdy, .slice Apy psy.length cpy, .slice Acy csy.length ccy, .slice Aey esy.length cey] 27)).cell? ⟨wy.heap.size, 0, none⟩ = some (.int .i64 ry) := HY.out.box.cell 0
        have y1 : (wy.alloc (.cells #[.int .i64 ry, .int .i64 wty, .int .i64 bky, .int .i64 cyy, .string keyy, .slice Ady dsy.length cdy, .slice Apy psy.length cpy, .slice Acy csy.length ccy, .slice Aey esy.length cey] 27)).cell? ⟨wy.heap.size, 1, none⟩ = some (.int .i64 wty) := HY.out.box.cell 1
        have y2 : (wy.alloc (.cells #[.int .i64 ry, .int .i64 wty, .int .i64 bky, .int .i64 cyy, .string keyy, .slice Ady dsy.length cdy, .slice Apy psy.length cpy, .slice Acy csy.length ccy, .slice Aey esy.length cey] 27)).cell? ⟨wy.heap.size, 2, none⟩ = some (.int .i64 bky) := HY.out.box.cell 2
        have y3 : (wy.alloc (.cells #[.int .i64 ry, .int .i64 wty, .int .i64 bky, .int .i64 cyy, .string keyy, .slice Ady dsy.length cdy, .slice Apy psy.length cpy, .slice Acy csy.length ccy, .slice Aey esy.length cey] 27)).cell? ⟨wy.heap.size, 3, none⟩ = some (.int .i64 cyy) := HY.out.box.cell 3
        have y4 : (wy.alloc (.cells #[.int .i64 ry, .int .i64 wty, .int .i64 bky, .int .i64 cyy, .string keyy, .slice Ady dsy.length cdy, .slice Apy psy.length cpy, .slice Acy csy.length ccy, .slice Aey esy.length cey] 27)).cell? ⟨wy.heap.size, 4, none⟩ = some (.string keyy) := HY.out.box.cell 4
        have y5 : (wy.alloc (.cells #[.int .i64 ry, .int .i64 wty, .int .i64 bky, .int .i64 cyy, .string keyy, .slice Ady dsy.length cdy, .slice Apy psy.length cpy, .slice Acy csy.length ccy, .slice Aey esy.length cey] 27)).cell? ⟨wy.heap.size, 5, none⟩ = some (.slice Ady dsy.length cdy) := HY.out.box.cell 5
        have y6 : (wy.alloc (.cells #[.int .i64 ry, .int .i64 wty, .int .i64 bky, .int .i64 cyy, .string keyy, .slice Ady dsy.length cdy, .slice Apy psy.length cpy, .slice Acy csy.length ccy, .slice Aey esy.length cey] 27)).cell? ⟨wy.heap.size, 6, none⟩ = some (.slice Apy psy.length cpy) := HY.out.box.cell 6
        have y7 : (wy.alloc (.cells #[.int .i64 ry, .int .i64 wty, .int .i64 bky, .int .i64 cyy, .string keyy, .slice Ady dsy.length cdy, .slice Apy psy.length cpy, .slice Acy csy.length ccy, .slice Aey esy.length cey] 27)).cell? ⟨wy.heap.size, 7, none⟩ = some (.slice Acy csy.length ccy) := HY.out.box.cell 7
        have y8 : (wy.alloc (.cells #[.int .i64 ry, .int .i64 wty, .int .i64 bky, .int .i64 cyy, .string keyy, .slice Ady dsy.length cdy, .slice Apy psy.length cpy, .slice Acy csy.length ccy, .slice Aey esy.length cey] 27)).cell? ⟨wy.heap.size, 8, none⟩ = some (.slice Aey esy.length cey) := HY.out.box.cell 8
        go_wp2_with fail
        clear y0 y1 y2 y3 y4 y5 y6 y7 y8
        have hp := printM_any (wy.alloc (.cells #[.int .i64 ry, .int .i64 wty, .int .i64 bky, .int .i64 cyy, .string keyy, .slice Ady dsy.length cdy, .slice Apy psy.length cpy, .slice Acy csy.length ccy, .slice Aey esy.length cey] 27)) ⟨ry, wty, bky, cyy, keyy, dsy, psy, csy, esy⟩ _ _ _ _ HY.out.mat HYM.out HY.out.tab10
        rw [← HTY.out] at hp
        refine hp.mono ?_
        rintro e wq ⟨rfl, hb⟩
        have HB := Lib.hid (HB.out.below hb)
        have HY := Lib.hid (HY.out.below hb)
        clear hb hp
        by_cases hlong : (4096 : Int) < (TY.size : Int)
        · have hpo : parseO TY.data.toList = (zeroMat, 2, 0) := by rw [HBK.out, if_pos (by omega)]
          go_wp2_with fail
          refine (parse_code _ TY (by have := HYL.out; omega) HB.out.tab (k := 2) (no := 0) (by rw [hpo])).mono ?_
          rintro e wz ⟨⟨rz, wtz, bkz, cyz, keyz, dsz, psz, csz, esz⟩, Adz, Apz, Acz, Aez, cdz, cpz, ccz, cez, rfl, hbz, hmz, hsz, hb⟩
          rw [hpo] at hbz
          have HZS := Lib.hid hsz
          have HZB := Lib.hid hbz
          unfold Mat.val
          simp only
          have HB := Lib.hid ((HB.out.below hb).alloc (.cells #[.int .i64 rz, .int .i64 wtz, .int .i64 bkz, .int .i64 cyz, .string keyz, .slice Adz dsz.length cdz, .slice Apz psz.length cpz, .slice Acz csz.length ccz, .slice Aez esz.length cez] 27))
          have HY := Lib.hid ((HY.out.below hb).alloc (.cells #[.int .i64 rz, .int .i64 wtz, .int .i64 bkz, .int .i64 cyz, .string keyz, .slice Adz dsz.length cdz, .slice Apz psz.length cpz, .slice Acz csz.length ccz, .slice Aez esz.length cez] 27))
          have HZ := Lib.hid (⟨(Below.refl _ _).alloc (Nat.le_refl _) _, hmz.below ((Below.refl _ _).alloc (Nat.le_refl _) _), Words.Blk.new wz _ _, HB.out.tab, HB.out.tab10⟩ : HdIs wz wz.heap.size ⟨rz, wtz, bkz, cyz, keyz, dsz, psz, csz, esz⟩ (.slice Adz dsz.length cdz) (.slice Apz psz.length cpz) (.slice Acz csz.length ccz) (.slice Aez esz.length cez) #[.int .i64 rz, .int .i64 wtz, .int .i64 bkz, .int .i64 cyz, .string keyz, .slice Adz dsz.length cdz, .slice Apz psz.length cpz, .slice Acz csz.length ccz, .slice Aez esz.length cez] (wz.alloc (.cells #[.int .i64 rz, .int .i64 wtz, .int .i64 bkz, .int .i64 cyz, .string keyz, .slice Adz dsz.length cdz, .slice Apz psz.length cpz, .slice Acz csz.length ccz, .slice Aez esz.length cez] 27)))
          clear hbz hmz hsz hb hpo
          have y0 : (wz.alloc (.cells #[.int .i64 rz, .int .i64 wtz, .int .i64 bkz, .int .i64 cyz, .string keyz, .slice Adz dsz.length cdz, .slice Apz psz.length cpz, .slice Acz csz.length ccz, .slice Aez esz.length cez] 27)).cell? ⟨wy.heap.size, 0, none⟩ = some (.int .i64 ry) := HY.out.box.cell 0
          have y1 : (wz.alloc (.cells #[.int .i64 rz, .int .i64 wtz, .int .i64 bkz, .int .i64 cyz, .string keyz, .slice Adz dsz.length cdz, .slice Apz psz.length cpz, .slice Acz csz.length ccz, .slice Aez esz.length cez] 27)).cell? ⟨wy.heap.size, 1, none⟩ = some (.int .i64 wty) := HY.out.box.cell 1
          have y2 : (wz.alloc (.cells #[.int .i64 rz, .int .i64 wtz, .int .i64 bkz, .int .i64 cyz, .string keyz, .slice Adz dsz.length cdz, .slice Apz psz.length cpz, .slice Acz csz.length ccz, .slice Aez esz.length cez] 27)).cell? ⟨wy.heap.size, 2, none⟩ = some (.int .i64 bky) := HY.out.box.cell 2
          have y3 : (wz.alloc (.cells #[.int .i64 rz, .int .i64 wtz, .int .i64 bkz, .int .i64 cyz, .string keyz, .slice Adz dsz.length cdz, .slice Apz psz.length cpz, .slice Acz csz.length ccz, .slice Aez esz.length cez] 27)).cell? ⟨wy.heap.size, 3, none⟩ = some (.int .i64 cyy) := HY.out.box.cell 3
          have y4 : (wz.alloc (.cells #[.int .i64 rz, .int .i64 wtz, .int .i64 bkz, .int .i64 cyz, .string keyz, .slice Adz dsz.length cdz, .slice Apz psz.length cpz, .slice Acz csz.length ccz, .slice Aez esz.length cez] 27)).cell? ⟨wy.heap.size, 4, none⟩ = some (.string keyy) := HY.out.box.cell 4
          have y5 : (wz.alloc (.cells #[.int .i64 rz, .int .i64 wtz, .int .i64 bkz, .int .i64 cyz, .string keyz, .slice Adz dsz.length cdz, .slice Apz psz.length cpz, .slice Acz csz.length ccz, .slice Aez esz.length cez] 27)).cell? ⟨wy.heap.size, 5, none⟩ = some (.slice Ady dsy.length cdy) := HY.out.box.cell 5
          have y6 : (wz.alloc (.cells #[.int .i64 rz, .int .i64 wtz, .int .i64 bkz, .int .i64 cyz, .string keyz, .slice Adz dsz.length cdz, .slice Apz psz.length cpz, .slice Acz csz.length ccz, .slice Aez esz.length cez] 27)).cell? ⟨wy.heap.size, 6, none⟩ = some (.slice Apy psy.length cpy) := HY.out.box.cell 6
          have y7 : (wz.alloc (.cells #[.int .i64 rz, .int .i64 wtz, .int .i64 bkz, .int .i64 cyz, .string keyz, .slice Adz dsz.length cdz, .slice Apz psz.length cpz, .slice Acz csz.length ccz, .slice Aez esz.length cez] 27)).cell? ⟨wy.heap.size, 7, none⟩ = some (.slice Acy csy.length ccy) := HY.out.box.cell 7
          have y8 : (wz.alloc (.cells #[.int .i64 rz, .int .i64 wtz, .int .i64 bkz, .int .i64 cyz, .string keyz, .slice Adz dsz.length cdz, .slice Apz psz.length cpz, .slice Acz csz.length ccz, .slice Aez esz.length cez] 27)).cell? ⟨wy.heap.size, 8, none⟩ = some (.slice Aey esy.length cey) := HY.out.box.cell 8
          go_wp2_with fail
          clear y0 y1 y2 y3 y4 y5 y6 y7 y8
          refine (lRight_any _ ⟨ry, wty, bky, cyy, keyy, dsy, psy, csy, esy⟩ _ _ _ _ HY.out.mat HYM.out).mono ?_
          rintro e wr ⟨b, rfl, hbr, hb⟩
          obtain rfl : b = true := hbr.2 HYR.out
          have HB := Lib.hid (HB.out.below hb)
          have HY := Lib.hid (HY.out.below hb)
          have HZ := Lib.hid (HZ.out.below hb)
          clear hb hbr
          have y0 : wr.cell? ⟨wy.heap.size, 0, none⟩ = some (.int .i64 ry) := HY.out.box.cell 0
          have y1 : wr.cell? ⟨wy.heap.size, 1, none⟩ = some (.int .i64 wty) := HY.out.box.cell 1
          have y2 : wr.cell? ⟨wy.heap.size, 2, none⟩ = some (.int .i64 bky) := HY.out.box.cell 2
          have y3 : wr.cell? ⟨wy.heap.size, 3, none⟩ = some (.int .i64 cyy) := HY.out.box.cell 3
          have y4 : wr.cell? ⟨wy.heap.size, 4, none⟩ = some (.string keyy) := HY.out.box.cell 4
          have y5 : wr.cell? ⟨wy.heap.size, 5, none⟩ = some (.slice Ady dsy.length cdy) := HY.out.box.cell 5
          have y6 : wr.cell? ⟨wy.heap.size, 6, none⟩ = some (.slice Apy psy.length cpy) := HY.out.box.cell 6
          have y7 : wr.cell? ⟨wy.heap.size, 7, none⟩ = some (.slice Acy csy.length ccy) := HY.out.box.cell 7
          have y8 : wr.cell? ⟨wy.heap.size, 8, none⟩ = some (.slice Aey esy.length cey) := HY.out.box.cell 8
          go_wp2_with fail
          clear y0 y1 y2 y3 y4 y5 y6 y7 y8
          have hp := printM_any wr ⟨ry, wty, bky, cyy, keyy, dsy, psy, csy, esy⟩ _ _ _ _ HY.out.mat HYM.out HY.out.tab10
          rw [← HTY.out] at hp
          refine hp.mono ?_
          rintro e wt9 ⟨rfl, hb⟩
          have HB := Lib.hid (HB.out.below hb)
          clear hb
          clear hp
          go_wp2_with fail
          go_ret
          exact ⟨rfl, HB.out.old⟩
        · have hpo : parseO TY.data.toList = ((⟨ry, wty, bky, cyy, keyy, dsy, psy, csy, esy⟩ : Mat).bare, 0, 0) := by rw [HBK.out, if_neg (by omega)]
          go_wp2_with fail
          refine (parse_code _ TY (by have := HYL.out; omega) HB.out.tab (k := 0) (no := 0) (by rw [hpo])).mono ?_
          rintro e wz ⟨⟨rz, wtz, bkz, cyz, keyz, dsz, psz, csz, esz⟩, Adz, Apz, Acz, Aez, cdz, cpz, ccz, cez, rfl, hbz, hmz, hsz, hb⟩
          rw [hpo] at hbz
          have HZS := Lib.hid hsz
          have HZB := Lib.hid hbz
          unfold Mat.val
          simp only
          have HB := Lib.hid ((HB.out.below hb).alloc (.cells #[.int .i64 rz, .int .i64 wtz, .int .i64 bkz, .int .i64 cyz, .string keyz, .slice Adz dsz.length cdz, .slice Apz psz.length cpz, .slice Acz csz.length ccz, .slice Aez esz.length cez] 27))
          have HY := Lib.hid ((HY.out.below hb).alloc (.cells #[.int .i64 rz, .int .i64 wtz, .int .i64 bkz, .int .i64 cyz, .string keyz, .slice Adz dsz.length cdz, .slice Apz psz.length cpz, .slice Acz csz.length ccz, .slice Aez esz.length cez] 27))
          have HZ := Lib.hid (⟨(Below.refl _ _).alloc (Nat.le_refl _) _, hmz.below ((Below.refl _ _).alloc (Nat.le_refl _) _), Words.Blk.new wz _ _, HB.out.tab, HB.out.tab10⟩ : HdIs wz wz.heap.size ⟨rz, wtz, bkz, cyz, keyz, dsz, psz, csz, esz⟩ (.slice Adz dsz.length cdz) (.slice Apz psz.length cpz) (.slice Acz csz.length ccz) (.slice Aez esz.length cez) #[.int .i64 rz, .int .i64 wtz, .int .i64 bkz, .int .i64 cyz, .string keyz, .slice Adz dsz.length cdz, .slice Apz psz.length cpz, .slice Acz csz.length ccz, .slice Aez esz.length cez] (wz.alloc (.cells #[.int .i64 rz, .int .i64 wtz, .int .i64 bkz, .int .i64 cyz, .string keyz, .slice Adz dsz.length cdz, .slice Apz psz.length cpz, .slice Acz csz.length ccz, .slice Aez esz.length cez] 27)))
          clear hbz hmz hsz hb hpo
          have y0 : (wz.alloc (.cells #[.int .i64 rz, .int .i64 wtz, .int .i64 bkz, .int .i64 cyz, .string keyz, .slice Adz dsz.length cdz, .slice Apz psz.length cpz, .slice Acz csz.length ccz, .slice Aez esz.length cez] 27)).cell? ⟨wy.heap.size, 0, none⟩ = some (.int .i64 ry) := HY.out.box.cell 0
          have y1 : (wz.alloc (.cells #[.int .i64 rz, .int .i64 wtz, .int .i64 bkz, .int .i64 cyz, .string keyz, .slice Adz dsz.length cdz, .slice Apz psz.length cpz, .slice Acz csz.length ccz, .slice Aez esz.length cez] 27)).cell? ⟨wy.heap.size, 1, none⟩ = some (.int .i64 wty) := HY.out.box.cell 1
          have y2 : (wz.alloc (.cells #[.int .i64 rz, .int .i64 wtz, .int .i64 bkz, .int .i64 cyz, .string keyz, .slice Adz dsz.length cdz, .slice Apz psz.length cpz, .slice Acz csz.length ccz, .slice Aez esz.length cez] 27)).cell? ⟨wy.heap.size, 2, none⟩ = some (.int .i64 bky) := HY.out.box.cell 2
          have y3 : (wz.alloc (.cells #[.int .i64 rz, .int .i64 wtz, .int .i64 bkz, .int .i64 cyz, .string keyz, .slice Adz dsz.length cdz, .slice Apz psz.length cpz, .slice Acz csz.length ccz, .slice Aez esz.length cez] 27)).cell? ⟨wy.heap.size, 3, none⟩ = some (.int .i64 cyy) := HY.out.box.cell 3
          have y4 : (wz.alloc (.cells #[.int .i64 rz, .int .i64 wtz, .int .i64 bkz, .int .i64 cyz, .string keyz, .slice Adz dsz.length cdz, .slice Apz psz.length cpz, .slice Acz csz.length ccz, .slice Aez esz.length cez] 27)).cell? ⟨wy.heap.size, 4, none⟩ = some (.string keyy) := HY.out.box.cell 4
          have y5 : (wz.alloc (.cells #[.int .i64 rz, .int .i64 wtz, .int .i64 bkz, .int .i64 cyz, .string keyz, .slice Adz dsz.length cdz, .slice Apz psz.length cpz, .slice Acz csz.length ccz, .slice Aez esz.length cez] 27)).cell? ⟨wy.heap.size, 5, none⟩ = some (.slice Ady dsy.length cdy) := HY.out.box.cell 5
          have y6 : (wz.alloc (.cells #[.int .i64 rz, .int .i64 wtz, .int .i64 bkz, .int .i64 cyz, .string keyz, .slice Adz dsz.length cdz, .slice Apz psz.length cpz, .slice Acz csz.length ccz, .slice Aez esz.length cez] 27)).cell? ⟨wy.heap.size, 6, none⟩ = some (.slice Apy psy.length cpy) := HY.out.box.cell 6
          have y7 : (wz.alloc (.cells #[.int .i64 rz, .int .i64 wtz, .int .i64 bkz, .int .i64 cyz, .string keyz, .slice Adz dsz.length cdz, .slice Apz psz.length cpz, .slice Acz csz.length ccz, .slice Aez esz.length cez] 27)).cell? ⟨wy.heap.size, 7, none⟩ = some (.slice Acy csy.length ccy) := HY.out.box.cell 7
          have y8 : (wz.alloc (.cells #[.int .i64 rz, .int .i64 wtz, .int .i64 bkz, .int .i64 cyz, .string keyz, .slice Adz dsz.length cdz, .slice Apz psz.length cpz, .slice Acz csz.length ccz, .slice Aez esz.length cez] 27)).cell? ⟨wy.heap.size, 8, none⟩ = some (.slice Aey esy.length cey) := HY.out.box.cell 8
          go_wp2_with fail
          clear y0 y1 y2 y3 y4 y5 y6 y7 y8
          refine (lRight_any _ ⟨ry, wty, bky, cyy, keyy, dsy, psy, csy, esy⟩ _ _ _ _ HY.out.mat HYM.out).mono ?_
          rintro e wr ⟨b, rfl, hbr, hb⟩
          obtain rfl : b = true := hbr.2 HYR.out
          have HB := Lib.hid (HB.out.below hb)
          have HY := Lib.hid (HY.out.below hb)
          have HZ := Lib.hid (HZ.out.below hb)
          clear hb hbr
          have y0 : wr.cell? ⟨wy.heap.size, 0, none⟩ = some (.int .i64 ry) := HY.out.box.cell 0
          have y1 : wr.cell? ⟨wy.heap.size, 1, none⟩ = some (.int .i64 wty) := HY.out.box.cell 1
          have y2 : wr.cell? ⟨wy.heap.size, 2, none⟩ = some (.int .i64 bky) := HY.out.box.cell 2
          have y3 : wr.cell? ⟨wy.heap.size, 3, none⟩ = some (.int .i64 cyy) := HY.out.box.cell 3
          have y4 : wr.cell? ⟨wy.heap.size, 4, none⟩ = some (.string keyy) := HY.out.box.cell 4
          have y5 : wr.cell? ⟨wy.heap.size, 5, none⟩ = some (.slice Ady dsy.length cdy) := HY.out.box.cell 5
          have y6 : wr.cell? ⟨wy.heap.size, 6, none⟩ = some (.slice Apy psy.length cpy) := HY.out.box.cell 6
          have y7 : wr.cell? ⟨wy.heap.size, 7, none⟩ = some (.slice Acy csy.length ccy) := HY.out.box.cell 7
          have y8 : wr.cell? ⟨wy.heap.size, 8, none⟩ = some (.slice Aey esy.length cey) := HY.out.box.cell 8
          have x0 : wr.cell? ⟨wz.heap.size, 0, none⟩ = some (.int .i64 rz) := HZ.out.box.cell 0
          have x1 : wr.cell? ⟨wz.heap.size, 1, none⟩ = some (.int .i64 wtz) := HZ.out.box.cell 1
          have x2 : wr.cell? ⟨wz.heap.size, 2, none⟩ = some (.int .i64 bkz) := HZ.out.box.cell 2
          have x3 : wr.cell? ⟨wz.heap.size, 3, none⟩ = some (.int .i64 cyz) := HZ.out.box.cell 3
          have x4 : wr.cell? ⟨wz.heap.size, 4, none⟩ = some (.string keyz) := HZ.out.box.cell 4
          have x5 : wr.cell? ⟨wz.heap.size, 5, none⟩ = some (.slice Adz dsz.length cdz) := HZ.out.box.cell 5
          have x6 : wr.cell? ⟨wz.heap.size, 6, none⟩ = some (.slice Apz psz.length cpz) := HZ.out.box.cell 6
          have x7 : wr.cell? ⟨wz.heap.size, 7, none⟩ = some (.slice Acz csz.length ccz) := HZ.out.box.cell 7
          have x8 : wr.cell? ⟨wz.heap.size, 8, none⟩ = some (.slice Aez esz.length cez) := HZ.out.box.cell 8
          go_wp2_with fail
          clear y0 y1 y2 y3 y4 y5 y6 y7 y8
          clear x0 x1 x2 x3 x4 x5 x6 x7 x8
          refine (sameM_any _ ⟨ry, wty, bky, cyy, keyy, dsy, psy, csy, esy⟩ ⟨rz, wtz, bkz, cyz, keyz, dsz, psz, csz, esz⟩ _ _ _ _ _ _ _ _ HY.out.mat HZ.out.mat HYS.out HZS.out).mono ?_
          rintro e ws ⟨b, rfl, hbr, hb⟩
          obtain rfl : b = true := hbr.2 (by rw [HZB.out])
          have HB := Lib.hid (HB.out.below hb)
          clear hb
          clear hbr
          go_wp2_with fail
          go_ret
          exact ⟨rfl, HB.out.old⟩
      · go_wp2_with fail
        refine (parse_code _ s HS.out HB.out.tab (k := k) (no := no) (by rw [hk])).mono ?_
        rintro e wy ⟨⟨ry, wty, bky, cyy, keyy, dsy, psy, csy, esy⟩, Ady, Apy, Acy, Aey, cdy, cpy, ccy, cey, rfl, hby, hmy, hsy, hb⟩
        rw [hk] at hby
        have HYS := Lib.hid hsy
        have HYB := Lib.hid hby
        unfold Mat.val
        simp only
        have HB := Lib.hid ((HB.out.below hb).alloc (.cells #[.int .i64 ry, .int .i64 wty, .int .i64 bky, .int .i64 cyy, .string keyy, .slice Ady dsy.length cdy, .slice Apy psy.length cpy, .slice Acy csy.length ccy, .slice Aey esy.length cey] 27))
        have HY := Lib.hid (⟨(Below.refl _ _).alloc (Nat.le_refl _) _, hmy.below ((Below.refl _ _).alloc (Nat.le_refl _) _), Words.Blk.new wy _ _, HB.out.tab, HB.out.tab10⟩ : HdIs wy wy.heap.size ⟨ry, wty, bky, cyy, keyy, dsy, psy, csy, esy⟩ (.slice Ady dsy.length cdy) (.slice Apy psy.length cpy) (.slice Acy csy.length ccy) (.slice Aey esy.length cey) #[.int .i64 ry, .int .i64 wty, .int .i64 bky, .int .i64 cyy, .string keyy, .slice Ady dsy.length cdy, .slice Apy psy.length cpy, .slice Acy csy.length ccy, .slice Aey esy.length cey] (wy.alloc (.cells #[.int .i64 ry, .int .i64 wty, .int .i64 bky, .int .i64 cyy, .string keyy, .slice Ady dsy.length cdy, .slice Apy psy.length cpy, .slice Acy csy.length ccy, .slice Aey esy.length cey] 27)))
        clear hby hmy hsy hb hk
        have y0 : (wy.alloc (.cells #[.int .i64 ry, .int .i64 wty, .int .i64 bky, .int .i64 cyy, .string keyy, .slice Ady dsy.length cdy, .slice Apy psy.length cpy, .slice Acy csy.length ccy, .slice Aey esy.length cey] 27)).cell? ⟨wy.heap.size, 0, none⟩ = some (.int .i64 ry) := HY.out.box.cell 0
        have y1 : (wy.alloc (.cells #[.int .i64 ry, .int .i64 wty, .int .i64 bky, .int .i64 cyy, .string keyy, .slice Ady dsy.length cdy, .slice Apy psy.length cpy, .slice Acy csy.length ccy, .slice Aey esy.length cey] 27)).cell? ⟨wy.heap.size, 1, none⟩ = some (.int .i64 wty) := HY.out.box.cell 1
        have y2 : (wy.alloc (.cells #[.int .i64 ry, .int .i64 wty, .int .i64 bky, .int .i64 cyy, .string keyy, .slice Ady dsy.length cdy, .slice Apy psy.length cpy, .slice Acy csy.length ccy, .slice Aey esy.length cey] 27)).cell? ⟨wy.heap.size, 2, none⟩ = some (.int .i64 bky) := HY.out.box.cell 2
        have y3 : (wy.alloc (.cells #[.int .i64 ry, .int .i64 wty, .int .i64 bky, .int .i64 cyy, .string keyy, .slice Ady dsy.length cdy, .slice Apy psy.length cpy, .slice Acy csy.length ccy, .slice Aey esy.length cey] 27)).cell? ⟨wy.heap.size, 3, none⟩ = some (.int .i64 cyy) := HY.out.box.cell 3
        have y4 : (wy.alloc (.cells #[.int .i64 ry, .int .i64 wty, .int .i64 bky, .int .i64 cyy, .string keyy, .slice Ady dsy.length cdy, .slice Apy psy.length cpy, .slice Acy csy.length ccy, .slice Aey esy.length cey] 27)).cell? ⟨wy.heap.size, 4, none⟩ = some (.string keyy) := HY.out.box.cell 4
        have y5 : (wy.alloc (.cells #[.int .i64 ry, .int .i64 wty, .int .i64 bky, .int .i64 cyy, .string keyy, .slice Ady dsy.length cdy, .slice Apy psy.length cpy, .slice Acy csy.length ccy, .slice Aey esy.length cey] 27)).cell? ⟨wy.heap.size, 5, none⟩ = some (.slice Ady dsy.length cdy) := HY.out.box.cell 5
        have y6 : (wy.alloc (.cells #[.int .i64 ry, .int .i64 wty, .int .i64 bky, .int .i64 cyy, .string keyy, .slice Ady dsy.length cdy, .slice Apy psy.length cpy, .slice Acy csy.length ccy, .slice Aey esy.length cey] 27)).cell? ⟨wy.heap.size, 6, none⟩ = some (.slice Apy psy.length cpy) := HY.out.box.cell 6
        have y7 : (wy.alloc (.cells #[.int .i64 ry, .int .i64 wty, .int .i64 bky, .int .i64 cyy, .string keyy, .slice Ady dsy.length cdy, .slice Apy psy.length cpy, .slice Acy csy.length ccy, .slice Aey esy.length cey] 27)).cell? ⟨wy.heap.size, 7, none⟩ = some (.slice Acy csy.length ccy) := HY.out.box.cell 7
        have y8 : (wy.alloc (.cells #[.int .i64 ry, .int .i64 wty, .int .i64 bky, .int .i64 cyy, .string keyy, .slice Ady dsy.length cdy, .slice Apy psy.length cpy, .slice Acy csy.length ccy, .slice Aey esy.length cey] 27)).cell? ⟨wy.heap.size, 8, none⟩ = some (.slice Aey esy.length cey) := HY.out.box.cell 8
        have hkb : (k == 0) = false := by rw [beq_eq_false_iff_ne]; exact hk0
        have hkn : (k != 0) = true := by rw [bne, hkb]; rfl
        go_wp2_with fail
        clear y0 y1 y2 y3 y4 y5 y6 y7 y8
        refine (sameM_any _ ⟨ry, wty, bky, cyy, keyy, dsy, psy, csy, esy⟩ zeroMat _ _ _ _ _ _ _ _ HY.out.mat (mat_zero _) HYS.out ((small_zero 0).mono (by decide))).mono ?_
        rintro e ws ⟨b, rfl, hbr, hb⟩
        obtain rfl : b = true := hbr.2 (by rw [HYB.out]; rfl)
        have HB := Lib.hid (HB.out.below hb)
        clear hb
        clear hbr
        go_wp2_with fail
        go_ret
        exact ⟨rfl, HB.out.old⟩
end Go.Proofs.YtckbdnkonccmiaaDoor
